import Derived.Test.YtanhibhcmfmeeaaSeB
/- List of values. -/
namespace Go.Proofs.Ytanhibhcmfmeeaa.Kv
open Go.RowKit Go.Proofs.YtanhibhcmfmeeaaW.PrintWords Go.Proofs.YtanhibhcmfmeeaaW.PrintMore Go.Proofs.Ytanhibhcmfmeeaa.Cut Go.Proofs.Ytanhibhcmfmeeaa.Fr Go.Proofs.Ytanhibhcmfmeeaa.SlK Go.Proofs.Ytanhibhcmfmeeaa.Flo
open Go.Proofs.Ytanhibhcmfmeeaa.Se (K5 K5_M Row5 encC infoC T5)
def valT (p : P2) : T5 := (p.1, 0, 0, p.2, false)
def ListP (w : World) (l : L2) (e : Ending) (w' : World) : Prop := ∃ u, e = .returned u ∧ Row5 w' w.heap.size u (l.map valT) ∧ Below w.heap.size w w'
set_option maxRecDepth 100000 in
set_option maxHeartbeats 8000000 in
theorem list_calls {w : World} {B s : Nat} {room : Int} {l : L2} {v : Value} (h : Own w B s room l v) :
    Calls Try.prog 114 #[.pointer (some ⟨s, 0, none⟩)] w (ListP w l) := by
  obtain ⟨c0, c2⟩ := h.cells
  have hfit : l.length ≤ 1024 := by have := h.fits; have := h.rng; omega
  obtain ⟨A, c, rfl, hc, hcl⟩ := row_cells h.pairs
  obtain ⟨n, hn⟩ : ∃ n, n = l.length := ⟨_, rfl⟩
  rw [← hn] at hc hfit c2
  have HN := Lib.hid hn; have HC := Lib.hid hcl
  clear h hn hcl c0
  go_enter Try.func114, Try.ntmps114
  go_wp2_with fail
  clear c2
  go_loopw [3, 13] (fun u3 u13 wx => ∃ k : Nat, k ≤ n ∧ u13 = .int .i64 k ∧ Row5 wx w.heap.size u3 ((l.take k).map valT) ∧ Below w.heap.size w wx) (fun _ u13 _ => n - (intOf u13).toNat)
  case atStart => exact ⟨0, Nat.zero_le _, rfl, Kd.R_nil _ _ _ _ _, Below.refl _ _⟩
  case round =>
    obtain ⟨k, hk, rfl, hR, hB⟩ := hrel
    by_cases hlt : k < n
    · have hlti : (k : Int) < (n : Int) := by omega
      have hk0 : (0 : Int) ≤ (k : Int) := by omega
      have hkl : k < l.length := by rw [← HN.out]; exact hlt
      have hx := List.getElem?_eq_getElem hkl
      obtain ⟨g, rfl, hcell⟩ := HC.out k _ hx
      obtain ⟨p0, p1⟩ := hcell wr hB
      have hts := SlD.take_snoc hx
      generalize l[k] = x at hx p0 p1 hts
      obtain ⟨W1, hW1⟩ : ∃ W, W = wr.alloc (.cells #[.int .i64 x.1, .int .i64 x.2] 97) := ⟨_, rfl⟩
      have hb1 : Below wr.heap.size wr W1 := by rw [hW1]; exact below_alloc (Below.refl _ _) _
      have hr1 : W1.heap[wr.heap.size]? = some (.cells #[.int .i64 x.1, .int .i64 x.2] 97 (0, 0)) := by rw [hW1]; exact (Go.MapKept.heap_alloc wr _).1
      have x0 : W1.cell? ⟨wr.heap.size, 0, none⟩ = some (.int .i64 x.1) := (blk_cell hr1 0).trans rfl
      have x1 : W1.cell? ⟨wr.heap.size, 1, none⟩ = some (.int .i64 x.2) := (blk_cell hr1 1).trans rfl
      have HT := Lib.hid hts; have HW1 := Lib.hid hW1
      have HA := Lib.hid (And.intro (Kd.R_below hR hb1) (below_then hB hB.size hb1))
      clear hcell hx hR hB hts HC hW1 hb1 hr1
      go_upto_region 6 with fail
      rw [← HW1.out]
      have hl40 : (((l.take k).map valT).length + 1) * 40 ≤ 140737488355328 := by
        have h2 := List.length_take_le k l
        rw [List.length_map]
        omega
      go_wp2_with (first
        | ((with_reducible refine gate_builtin (b := .append) (xs := #[.tmp 17, .tmp 23]) rfl ?_); at_builtin; refine Kd.R_append K5 (w0 := w) w.heap.size rfl (.tmp 17) (.tmp 23) 37 50 (.agg #[.int .i64 0, .int .i64 0, .int .i64 0, .int .i64 0, .bool false]) 40 rfl Try.underlying37 infoC rfl (by decide) (by decide) u3 ((l.take k).map valT) (valT x) (encC (valT x)) (fun _ => True) (fun _ => False) rfl rfl (K5_M _ _ _ _) (fun _ hk => hk.elim) (fun _ _ => trivial) HA.out.1 HA.out.2 HA.out.2.size hl40 ?_; intro v1 w6 hR6 hb6 hg6 hat6)
        | go_in)
      have hR7 : Row5 w6 w.heap.size v1 ((l.take (k + 1)).map valT) := by
        rw [HT.out, List.map_append]; exact hR6
      have HF := Lib.hid (And.intro hR7 hb6)
      clear hR6 hb6 hg6 hat6 hR7 HA p0 p1 x0 x1 HW1
      go_wp2_with fail
      go_roundw
      case rel => exact ⟨k + 1, by omega, by go_num, HF.out.1, HF.out.2⟩
      case measure => simp [intOf]; omega
    · obtain rfl : k = n := by omega
      rw [HN.out, List.take_length] at hR
      have HF := Lib.hid (And.intro hR hB)
      clear hR hB
      go_wp2_with fail
      go_ret
      exact ⟨u3, rfl, HF.out.1, HF.out.2⟩
end Go.Proofs.Ytanhibhcmfmeeaa.Kv
