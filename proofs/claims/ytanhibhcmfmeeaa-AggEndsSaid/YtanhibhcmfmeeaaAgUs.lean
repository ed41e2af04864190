import Derived.Test.YtanhibhcmfmeeaaAgSh
/- The usual vertex. -/
namespace Go.Proofs.Ytanhibhcmfmeeaa.Ag
open Go.RowKit Go.Proofs.YtanhibhcmfmeeaaW.PrintWords Go.Proofs.YtanhibhcmfmeeaaW.PrintMore Go.Proofs.Ytanhibhcmfmeeaa.Cut Go.Proofs.Ytanhibhcmfmeeaa.Fr Go.Proofs.Ytanhibhcmfmeeaa.SlK Go.Proofs.Ytanhibhcmfmeeaa.Ex
def kindU (k : Int) : Int := if k % 3 = 0 then 6 else if k % 3 = 1 then 7 else 8
def UsualP (w : World) (k m : Int) (e : Ending) (w' : World) : Prop := ∃ v, e = .returned v ∧ VxV w' (kindU k) (1 + m) sumE v ∧ Below w.heap.size w w'
set_option maxHeartbeats 8000000 in
theorem usual_calls (k m : Int) (hk : 0 ≤ k ∧ k ≤ 255) (hm : 0 ≤ m ∧ m ≤ 255) (w : World) : Calls Try.prog 11 #[.int .u8 k, .int .u8 m] w (UsualP w k m) := by
  obtain ⟨W, hW⟩ : ∃ W, W = (w.alloc (.cells #[.int .i64 0, .slice none 0 0, .int .i64 0, .int .i64 0, .slice none 0 0, .int .i64 0] 33)).alloc (.cells #[.int .i64 6, .int .i64 7, .int .i64 8] 3) := ⟨_, rfl⟩
  have h1 : W.heap[w.heap.size]? = some (.cells #[.int .i64 0, .slice none 0 0, .int .i64 0, .int .i64 0, .slice none 0 0, .int .i64 0] 33 (0, 0)) := by
    rw [hW, (Go.MapKept.heap_alloc _ _).2 _ (by simp), (Go.MapKept.heap_alloc w _).1]
  have h2 : W.heap[w.heap.size + 1]? = some (.cells #[.int .i64 6, .int .i64 7, .int .i64 8] 3 (0, 0)) := by
    rw [hW]
    simpa using (Go.MapKept.heap_alloc (w.alloc (.cells #[.int .i64 0, .slice none 0 0, .int .i64 0, .int .i64 0, .slice none 0 0, .int .i64 0] 33)) (.cells #[.int .i64 6, .int .i64 7, .int .i64 8] 3)).1
  have hB : Below w.heap.size w W := by rw [hW]; exact below_alloc (below_alloc (Below.refl _ _) _) _
  have hc : W.cell? ⟨w.heap.size + 1, (k % 3).toNat, none⟩ = some (.int .i64 (kindU k)) := by
    rw [blk_cell h2]
    unfold kindU
    have : k % 3 = 0 ∨ k % 3 = 1 ∨ k % 3 = 2 := by omega
    rcases this with h | h | h <;> rw [h] <;> rfl
  have hsum := fun V => sum_calls V
  have b1 := hk.1; have b2 := hk.2; have b3 := hm.1; have b4 := hm.2
  have t1 : (k.tmod 3) = k % 3 := Int.tmod_eq_emod_of_nonneg b1
  rw [← t1] at hc
  have t2 : 0 ≤ k.tmod 3 := by rw [t1]; exact Int.emod_nonneg k (by decide)
  have t3 : k.tmod 3 < 3 := by rw [t1]; exact Int.emod_lt_of_pos k (by decide)
  have t4 : IntKind.i64.wrap (1 + m) = 1 + m := by rw [IntKind.wrap_i64]; omega
  have t5 : IntKind.i64.wrap k = k := by rw [IntKind.wrap_i64]; omega
  have t6 : IntKind.i64.wrap m = m := by rw [IntKind.wrap_i64]; omega
  obtain ⟨kt, hkt⟩ : ∃ kt, kt = k.tmod 3 := ⟨_, rfl⟩
  rw [← hkt] at t2 t3 hc
  replace hkt := hkt.symm
  clear t1
  have hw0 : w.heap.size + 1 < W.heap.size := (Array.getElem?_eq_some_iff.1 h2).1
  obtain ⟨kd, hkd⟩ : ∃ kd, kd = kindU k := ⟨_, rfl⟩
  rw [← hkd] at hc
  have HKD := Lib.hid hkd
  clear hkd
  have HW := Lib.hid hW; have HB := Lib.hid hB; have H1 := Lib.hid h1
  clear hW hB h1 h2 hk hm
  go_enter Try.func11, Try.ntmps11
  go_upto_region 2 with fail
  rw [← HW.out]
  go_region_held3 (fun V => V.cell? ⟨w.heap.size + 1, kt.toNat, none⟩ = some (.int .i64 kd)) (go_keep)
    (first | (go_at_call 19; (with_reducible refine (hsum _).mono ?_); rintro e w4 ⟨b, rfl, hx, hbs, hB4⟩; have HX := Lib.hid (And.intro hx hbs); have HB4 := Lib.hid hB4; have k1 := keepB hB4 hc; have hr4 := (show w4.heap[w.heap.size]? = some _ from (hB4.block w.heap.size (Nat.lt_of_le_of_lt (Nat.le_succ _) hw0)).trans H1.out); have HR4 := Lib.hid hr4; have z0 := (blk_cell hr4 0).trans rfl; have z1 := (blk_cell hr4 1).trans rfl; have z2 := (blk_cell hr4 2).trans rfl; have z3 := (blk_cell hr4 3).trans rfl; have z4 := (blk_cell hr4 4).trans rfl; have z5 := (blk_cell hr4 5).trans rfl; have y0 := blk_frozen hr4 0; have y1 := blk_frozen hr4 1; have y2 := blk_frozen hr4 2; have y3 := blk_frozen hr4 3; have y4 := blk_frozen hr4 4; have y5 := blk_frozen hr4 5; clear hx hbs hB4 hr4))
  all_goals
    go_wp2_with fail
    have hrow := blk_put (blk_put (blk_put (blk_put (blk_put (blk_put HR4.out 0 (.int .i64 kd) rfl) 1 (.slice none 0 0) rfl) 2 (.int .i64 6) rfl) 3 (.int .i64 0) rfl) 4 (.slice (some ⟨b, 0, none⟩) 2 2) rfl) 5 (.int .i64 (1 + m)) rfl
    refine bodyPost_ret (results_cell_row rfl _ _ w.heap.size 33 #[.int .i64 kd, .slice none 0 0, .int .i64 6, .int .i64 0, .slice (some ⟨b, 0, none⟩) 2 2, .int .i64 (1 + m)] (0, 0) _ rfl hrow Try.underlying33 rfl (by kernel_rfl)) rfl ?_
    have hne : b ≠ w.heap.size := by have h8 : W.heap.size ≤ b := HX.out.2; have h9 : w.heap.size + 1 < W.heap.size := hw0; omega
    have hb : ((((((w4.setCell ⟨w.heap.size, 0, none⟩ (.int .i64 kd)).setCell ⟨w.heap.size, 1, none⟩ (.slice none 0 0)).setCell ⟨w.heap.size, 2, none⟩ (.int .i64 6)).setCell ⟨w.heap.size, 3, none⟩ (.int .i64 0)).setCell ⟨w.heap.size, 4, none⟩ (.slice (some ⟨b, 0, none⟩) 2 2)).setCell ⟨w.heap.size, 5, none⟩ (.int .i64 (1 + m))).heap[b]? = some sumRow := by
      rw [Below.heap_setCell _ ⟨w.heap.size, 5, none⟩ _ b hne, Below.heap_setCell _ ⟨w.heap.size, 4, none⟩ _ b hne, Below.heap_setCell _ ⟨w.heap.size, 3, none⟩ _ b hne, Below.heap_setCell _ ⟨w.heap.size, 2, none⟩ _ b hne, Below.heap_setCell _ ⟨w.heap.size, 1, none⟩ _ b hne, Below.heap_setCell _ ⟨w.heap.size, 0, none⟩ _ b hne]
      exact HX.out.1
    refine ⟨_, rfl, ⟨none, 0, 0, some ⟨b, 0, none⟩, 2, by rw [← HKD.out]; rfl, sumV hb⟩, ?_⟩
    have hBw := below_then (below_then HB.out HB.out.size (below_drew (Below.refl W.heap.size W))) HB.out.size HB4.out
    exact Kv.below_set (Kv.below_set (Kv.below_set (Kv.below_set (Kv.below_set (Kv.below_set hBw (Nat.le_refl _) _ _) (Nat.le_refl _) _ _) (Nat.le_refl _) _ _) (Nat.le_refl _) _ _) (Nat.le_refl _) _ _) (Nat.le_refl _) _ _
end Go.Proofs.Ytanhibhcmfmeeaa.Ag
