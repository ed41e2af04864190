import Derived.Test.YtanhibhcmfmeeaaSeB
/- List of sessions. -/
namespace Go.Proofs.Ytanhibhcmfmeeaa.Se
open Go.RowKit Go.Proofs.YtanhibhcmfmeeaaW.PrintWords Go.Proofs.YtanhibhcmfmeeaaW.PrintMore Go.Proofs.Ytanhibhcmfmeeaa.Cut Go.Proofs.Ytanhibhcmfmeeaa.Fr Go.Proofs.Ytanhibhcmfmeeaa.SlK Go.Proofs.Ytanhibhcmfmeeaa.Flo
attribute [local go_sem] run_store_complex
def ListP (w : World) (l : L4) (e : Ending) (w' : World) : Prop := ∃ u, e = .returned u ∧ Row5 w' w.heap.size u (l.map chgT) ∧ Below w.heap.size w w'
set_option maxRecDepth 100000 in
set_option maxHeartbeats 8000000 in
theorem list_calls {w : World} {B s : Nat} {room gap : Int} {l : L4} {v : Value} (h : Own w B s room gap l v) :
    Calls Try.prog 121 #[.pointer (some ⟨s, 0, none⟩)] w (ListP w l) := by
  obtain ⟨c0, c1, c2⟩ := h.cells
  have hfit := h.fits
  obtain ⟨A, c, rfl, hc, hcl⟩ := row_cells h.ses
  obtain ⟨n, hn⟩ : ∃ n, n = l.length := ⟨_, rfl⟩
  rw [← hn] at hc hfit c2
  have HN := Lib.hid hn; have HC := Lib.hid hcl; have HWF := Lib.hid h.wf
  clear h hn hcl c0 c1
  go_enter Try.func121, Try.ntmps121
  go_wp2_with fail
  clear c2
  go_loopw [3, 13] (fun u3 u13 wx => ∃ k : Nat, k ≤ n ∧ u13 = .int .i64 k ∧ Row5 wx w.heap.size u3 ((l.take k).map chgT) ∧ Below w.heap.size w wx) (fun _ u13 _ => n - (intOf u13).toNat)
  case atStart => exact ⟨0, Nat.zero_le _, rfl, Kd.R_nil _ _ _ _ _, Below.refl _ _⟩
  case round =>
    obtain ⟨k, hk, rfl, hR, hB⟩ := hrel
    by_cases hlt : k < n
    · have hlti : (k : Int) < (n : Int) := by omega
      have hk0 : (0 : Int) ≤ (k : Int) := by omega
      have hkl : k < l.length := by rw [← HN.out]; exact hlt
      have hx := List.getElem?_eq_getElem hkl
      have hxw := HWF.out _ (List.getElem_mem hkl)
      obtain ⟨g, rfl, hcell⟩ := HC.out k _ hx
      obtain ⟨p0, p1, p2⟩ := hcell wr hB
      have hts := take_snoc hx
      generalize l[k] = x at hx hxw p0 p1 p2 hts
      obtain ⟨W1, hW1⟩ : ∃ W, W = wr.alloc (sesRow x) := ⟨_, rfl⟩
      have hb1 : Below wr.heap.size wr W1 := by rw [hW1]; exact below_alloc (Below.refl _ _) _
      have hr1 : W1.heap[wr.heap.size]? = some (sesRow x) := by rw [hW1]; exact (Go.MapKept.heap_alloc wr _).1
      obtain ⟨x0, x1, x2⟩ := Bx.of hr1
      have hch := change_calls x hxw W1
      unfold sesV chgV at hch
      have HT := Lib.hid hts; have HW1 := Lib.hid hW1; have HA := Lib.hid (And.intro hR (And.intro hB hb1))
      clear hcell hx hR hB hW1 hb1 hr1 hts hxw HC
      go_upto_region 6 with fail
      rw [← HW1.out]
      go_wp2_with fail
      refine hch.mono ?_
      rintro e w5 ⟨rfl, hB5⟩
      have HB5 := Lib.hid (below_then (below_then HA.out.2.1 HA.out.2.1.size HA.out.2.2) (below_then HA.out.2.1 HA.out.2.1.size HA.out.2.2).size hB5)
      have HR5 := Lib.hid (Kd.R_below (Kd.R_below HA.out.1 HA.out.2.2) hB5)
      have hl40 : (((l.take k).map chgT).length + 1) * 40 ≤ 140737488355328 := by
        have h2 := List.length_take_le k l
        rw [List.length_map]
        omega
      clear hch hB5 HA x0 x1 x2 p0 p1 p2 HW1
      go_wp2_with (first
        | ((with_reducible refine gate_builtin (b := .append) (xs := #[.tmp 17, .tmp 20]) rfl ?_); at_builtin; refine Kd.R_append K5 (w0 := w) w.heap.size rfl (.tmp 17) (.tmp 20) 37 50 (.agg #[.int .i64 0, .int .i64 0, .int .i64 0, .int .i64 0, .bool false]) 40 rfl Try.underlying37 infoC rfl (by decide) (by decide) u3 ((l.take k).map chgT) (chgT x) (encC (chgT x)) (fun _ => True) (fun _ => False) rfl rfl (K5_M _ _ _ _) (fun _ hk => hk.elim) (fun _ _ => trivial) HR5.out HB5.out HB5.out.size hl40 ?_; intro v1 w6 hR6 hb6 hg6 hat6)
        | go_in)
      have hR7 : Row5 w6 w.heap.size v1 ((l.take (k + 1)).map chgT) := by
        rw [HT.out, List.map_append]; exact hR6
      have HF := Lib.hid (And.intro hR7 hb6)
      clear hR6 hb6 hg6 hat6 hR7 HR5 HB5
      go_wp2_with fail
      go_roundw
      case rel => exact ⟨k + 1, by omega, by go_num, HF.out.1, HF.out.2⟩
      case measure => simp [intOf]; omega
    · obtain rfl : k = n := by omega
      rw [HN.out, List.take_length] at hR
      have HF := Lib.hid (And.intro hR hB)
      clear hR hB
      go_wp2_with fail
      go_ret
      exact ⟨u3, rfl, HF.out.1, HF.out.2⟩
end Go.Proofs.Ytanhibhcmfmeeaa.Se
