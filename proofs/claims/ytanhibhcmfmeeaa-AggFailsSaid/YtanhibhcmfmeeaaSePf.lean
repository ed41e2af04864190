import Derived.Test.YtanhibhcmfmeeaaSeB
/- Put where there is no room. -/
namespace Go.Proofs.Ytanhibhcmfmeeaa.Se
open Go.RowKit Go.Proofs.YtanhibhcmfmeeaaW.PrintWords Go.Proofs.YtanhibhcmfmeeaaW.PrintMore Go.Proofs.Ytanhibhcmfmeeaa.Cut Go.Proofs.Ytanhibhcmfmeeaa.Fr Go.Proofs.Ytanhibhcmfmeeaa.SlK Go.Proofs.Ytanhibhcmfmeeaa.Flo
set_option maxRecDepth 100000 in
set_option maxHeartbeats 8000000 in
theorem put_full {w : World} {B s : Nat} {room gap : Int} {l : L4} {v : Value} (h : Own w B s room gap l v) (key time val : Int) (ht : mayT time = true) (hh : hits gap key time l = []) (hf : room ≤ (l.length : Int)) :
    Calls Try.prog 40 #[.pointer (some ⟨s, 0, none⟩), .int .i64 key, .int .i64 time, .int .i64 val] w fun e w' => e = .returned (.tuple #[.slice none 0 0, .int .i64 3]) ∧ Below w.heap.size w w' := by
  have hm := may_calls time w
  rw [ht] at hm
  have hfi := find_calls (h.below (below_drew (Below.refl w.heap.size w))) key time ht
  unfold FindP at hfi
  rw [hh] at hfi
  obtain ⟨c0, c1, c2⟩ := h.cells
  obtain ⟨A, c, rfl, hc, hcl⟩ := row_cells h.ses
  have hg : decide (room ≤ (l.length : Int)) = true := decide_eq_true hf
  obtain ⟨n, hn⟩ : ∃ n, n = l.length := ⟨_, rfl⟩
  rw [← hn] at hc c2 hg
  clear h hn hcl c1 hh hf ht
  go_enter Try.func40, Try.ntmps40
  go_upto_region 5 with ((with_reducible refine hm.mono ?_); rintro e w1 ⟨rfl, rfl⟩)
  rename World => w
  clear hm
  go_cut [24] (fun u wx => u = .bool true ∧ Below w.heap.size w wx)
  case first =>
    go_region_held3 (fun V => V.cell? ⟨s, 2, none⟩ = some (.slice A n c) ∧ V.cell? ⟨s, 0, none⟩ = some (.int .i64 room)) (go_keep)
      (first
      | (go_at_call 37; (with_reducible refine hfi.mono ?_); rintro e w4 ⟨u, rfl, hR, hB4⟩; obtain ⟨A4, c4, rfl, _, _⟩ := Kd.R_reads hR; have k0 := keepB hB4 c2; have k1 := keepB hB4 c0; have HB4 := Lib.hid hB4; clear hB4 hR))
    all_goals
      go_wp2_with fail
      go_meet
      case rel => exact ⟨rfl, below_then (below_drew (Below.refl w.heap.size w)) (Nat.le_refl _) HB4.out⟩
  case rest =>
    obtain ⟨rfl, hBx⟩ := hcut
    have HB := Lib.hid hBx
    clear hBx hfi
    go_wp2_with fail
    go_ret2
    exact ⟨rfl, HB.out⟩
end Go.Proofs.Ytanhibhcmfmeeaa.Se
