import Derived.Test.YtanhibhcmfmeeaaAgM
/- The walk of Apply. -/
namespace Go.Proofs.Ytanhibhcmfmeeaa.Ag
open Go.RowKit Go.Proofs.YtanhibhcmfmeeaaW.PrintWords Go.Proofs.YtanhibhcmfmeeaaW.PrintMore Go.Proofs.Ytanhibhcmfmeeaa.Cut Go.Proofs.Ytanhibhcmfmeeaa.Fr Go.Proofs.Ytanhibhcmfmeeaa.SlK Go.Proofs.Ytanhibhcmfmeeaa.Ex
/-- The two boxes of Apply: the record, the answer. -/
theorem two_boxes (w : World) (key val time : Int) : ∃ W, W = (w.alloc (.cells #[.int .i64 key, .int .i64 val, .int .i64 time] 36)).alloc zrec ∧ Below w.heap.size w W ∧ W.heap.size = w.heap.size + 2 ∧ W.heap[w.heap.size]? = some (.cells #[.int .i64 key, .int .i64 val, .int .i64 time] 36 (0, 0)) ∧ W.heap[w.heap.size + 1]? = some zrec := by
  refine ⟨_, rfl, below_alloc (below_alloc (Below.refl _ _) _) _, by simp, ?_, ?_⟩
  · rw [(Go.MapKept.heap_alloc _ _).2 _ (by simp), (Go.MapKept.heap_alloc w _).1]
  · simpa using (Go.MapKept.heap_alloc (w.alloc (.cells #[.int .i64 key, .int .i64 val, .int .i64 time] 36)) zrec).1
/-- The cells of a vertex. -/
theorem AgV.cells {w0 w : World} {a : Nat} {kind n : Int} {x : Ex} {ifc : Value} (h : AgV w0 w a kind n x ifc) : ∃ kA kc, w.cell? ⟨a, 0, none⟩ = some (.int .i64 kind) ∧ w.cell? ⟨a, 2, none⟩ = some (.int .i64 x.op) ∧ w.cell? ⟨a, 3, none⟩ = some (.int .i64 x.n) ∧ w.cell? ⟨a, 4, none⟩ = some (.slice kA x.kids.length kc) ∧ w.cell? ⟨a, 5, none⟩ = some (.int .i64 n) ∧ w.cell? ⟨a, 6, none⟩ = some ifc ∧ ExV w x (.agg #[.int .i64 x.op, .int .i64 x.n, .slice kA x.kids.length kc]) := by
  obtain ⟨fA, fn, fc, kA, kc, hr, hx⟩ := h.row
  exact ⟨kA, kc, (blk_cell hr 0).trans rfl, (blk_cell hr 2).trans rfl, (blk_cell hr 3).trans rfl, (blk_cell hr 4).trans rfl, (blk_cell hr 5).trans rfl, (blk_cell hr 6).trans rfl, hx.below h.low⟩
set_option maxHeartbeats 4000000 in
theorem apply_range {w0 w : World} {a : Nat} {kind n : Int} {x : Ex} {tt : TypeId} {p : Addr} (h : AgV w0 w a kind n x (.iface tt (.pointer (some p)))) (key val time : Int) (ht : mayT time = false) :
    Calls Try.prog 12 #[.pointer (some ⟨a, 0, none⟩), recV key val time] w fun e w' => e = .returned (.tuple #[recV 0 0 0, .slice none 0 0, .int .i64 2]) ∧ Below w.heap.size w w' := by
  unfold recV
  obtain ⟨W, hW, hB, hs, h1, h2⟩ := two_boxes w key val time
  obtain ⟨kA, kc, c0, c2, c3, c4, c5, c6, _⟩ := (h.below hB).cells
  have hm := mayT_calls time W
  rw [ht] at hm
  have d2 : W.cell? ⟨w.heap.size, 2, none⟩ = some (.int .i64 time) := (blk_cell h1 2).trans rfl
  have HW := Lib.hid hW
  have z0 : W.cell? ⟨w.heap.size + 1, 0, none⟩ = some (.int .i64 0) := (blk_cell h2 0).trans rfl
  have z1 : W.cell? ⟨w.heap.size + 1, 1, none⟩ = some (.int .i64 0) := (blk_cell h2 1).trans rfl
  have z2 : W.cell? ⟨w.heap.size + 1, 2, none⟩ = some (.int .i64 0) := (blk_cell h2 2).trans rfl
  have y0 := blk_frozen h2 0
  have y1 := blk_frozen h2 1
  have y2 := blk_frozen h2 2
  have H2 := Lib.hid h2; have HB := Lib.hid hB
  have hal : a ≠ w.heap.size := by have := h.lt; omega
  clear h hW hB h1 h2 ht c2 c3 c4 c5 c0
  go_enter Try.func12, Try.ntmps12
  go_upto_region 1 with fail
  rw [← HW.out]
  go_wp2_with ((with_reducible refine hm.mono ?_); rintro e w1 ⟨rfl, rfl⟩)
  refine bodyPost_ret (results_ctt rfl _ _ (w.heap.size + 1) 36 #[.int .i64 0, .int .i64 0, .int .i64 0] (0, 0) _ rfl ?hp Try.underlying36 rfl (by kernel_rfl)) rfl ?_
  case hp =>
    repeat (with_reducible first | exact H2.out | refine blk_drewN ?_ _ | refine blk_drew ?_ | refine blk_put (cs := #[.int .i64 0, .int .i64 0, .int .i64 0]) ?_ _ _ rfl)
  · refine ⟨rfl, ?_⟩
    repeat (with_reducible first | exact HB.out | refine Kv.below_set ?_ (by simp) _ _ | refine pw_below_drewN ?_ _ | refine below_alloc ?_ _)
theorem keepB {W V : World} {b o : Nat} {u : Value} (hb : Below W.heap.size W V) (h : W.cell? ⟨b, o, none⟩ = some u) : V.cell? ⟨b, o, none⟩ = some u := pw_cell_below hb h
set_option maxHeartbeats 8000000 in
theorem apply_err {w0 w : World} {a : Nat} {kind n : Int} {x : Ex} {tt : TypeId} {p : Addr} (h : AgV w0 w a kind n x (.iface tt (.pointer (some p)))) (key val time g : Int) (ht : mayT time = true)
    (hg : ∀ W, Below w.heap.size w W → Calls Try.prog 24 #[.pointer (some ⟨a, 0, none⟩), recV key val time] W fun e w' => e = .returned (.int .i64 g) ∧ Below W.heap.size W w') (er : Int) (he : (evalF ⟨key, val, time, g⟩ x).2 = er) (hne : er ≠ 0) :
    Calls Try.prog 12 #[.pointer (some ⟨a, 0, none⟩), recV key val time] w fun e w' => e = .returned (.tuple #[recV 0 0 0, .slice none 0 0, .int .i64 er]) ∧ Below w.heap.size w w' := by
  unfold recV at hg ⊢
  obtain ⟨W, hW, hB, hs, h1, h2⟩ := two_boxes w key val time
  obtain ⟨kA, kc, c0, c2, c3, c4, c5, c6, hx⟩ := (h.below hB).cells
  have hm := mayT_calls time W
  rw [ht] at hm
  have d0 : W.cell? ⟨w.heap.size, 0, none⟩ = some (.int .i64 key) := (blk_cell h1 0).trans rfl
  have d1 : W.cell? ⟨w.heap.size, 1, none⟩ = some (.int .i64 val) := (blk_cell h1 1).trans rfl
  have d2 : W.cell? ⟨w.heap.size, 2, none⟩ = some (.int .i64 time) := (blk_cell h1 2).trans rfl
  have hgd := hg W.drew (below_drew hB)
  have hev := fun V (hV : Below W.drew.heap.size W.drew V) => eval_calls ⟨key, val, time, g⟩ x _ V (hx.below (below_then (below_drew (Below.refl W.heap.size W)) (Nat.le_refl _) hV))
  generalize hr : evalF ⟨key, val, time, g⟩ x = r at hev he
  obtain ⟨rn, re⟩ := r
  simp only at he hev
  subst he
  have HW := Lib.hid hW
  have H2 := Lib.hid h2; have HB := Lib.hid hB; have HE := Lib.hid hev
  have hal : a ≠ w.heap.size := by have := h.lt; omega
  have hb1 : (re == 0) = false := beq_eq_false_iff_ne.2 hne
  clear h hW hB h2 ht c0 c5 hr hev hg hx h1
  go_enter Try.func12, Try.ntmps12
  go_upto_region 1 with fail
  rw [← HW.out]
  go_upto_region 5 with ((with_reducible refine hm.mono ?_); rintro e w1 ⟨rfl, rfl⟩)
  rename World => W
  go_cut [7, 8] (fun u7 u8 wx => u7 = .int .i64 rn ∧ u8 = .int .i64 re ∧ Below W.heap.size W wx)
  case first =>
    go_region_held3 (fun V => V.cell? ⟨a, 2, none⟩ = some (.int .i64 x.op) ∧ V.cell? ⟨a, 3, none⟩ = some (.int .i64 x.n) ∧ V.cell? ⟨a, 4, none⟩ = some (.slice kA x.kids.length kc) ∧ V.cell? ⟨w.heap.size, 0, none⟩ = some (.int .i64 key) ∧ V.cell? ⟨w.heap.size, 1, none⟩ = some (.int .i64 val) ∧ V.cell? ⟨w.heap.size, 2, none⟩ = some (.int .i64 time)) (go_keep)
      (first
      | (go_at_call 24; (with_reducible refine hgd.mono ?_); rintro e w4 ⟨rfl, hB4⟩; have HB4 := Lib.hid hB4; have k1 := keepB hB4 c2; have k2 := keepB hB4 c3; have k3 := keepB hB4 c4; have k4 := keepB hB4 d0; have k5 := keepB hB4 d1; have k6 := keepB hB4 d2; clear hB4)
      | (go_at_call 23; (with_reducible refine (HE.out _ HB4.out).mono ?_); rintro e w5 ⟨rfl, hB5⟩; have HB5 := Lib.hid hB5; have k1 := keepB hB5 k1; have k2 := keepB hB5 k2; have k3 := keepB hB5 k3; have k4 := keepB hB5 k4; have k5 := keepB hB5 k5; have k6 := keepB hB5 k6; clear hB5))
    all_goals
      go_wp2_with fail
      go_meet
      case rel => exact ⟨rfl, rfl, below_then (below_then (below_drew (Below.refl W.heap.size W)) (Nat.le_refl _) HB4.out) HB4.out.size HB5.out⟩
  case rest =>
    obtain ⟨rfl, rfl, hBx⟩ := hcut
    rename World => wx
    have h3 := (hBx.block (w.heap.size + 1) (by omega)).trans H2.out
    have z0 : wx.cell? ⟨w.heap.size + 1, 0, none⟩ = some (.int .i64 0) := (blk_cell h3 0).trans rfl
    have z1 : wx.cell? ⟨w.heap.size + 1, 1, none⟩ = some (.int .i64 0) := (blk_cell h3 1).trans rfl
    have z2 : wx.cell? ⟨w.heap.size + 1, 2, none⟩ = some (.int .i64 0) := (blk_cell h3 2).trans rfl
    have y0 := blk_frozen h3 0
    have y1 := blk_frozen h3 1
    have y2 := blk_frozen h3 2
    have H3 := Lib.hid h3; have HBx := Lib.hid (below_then HB.out HB.out.size hBx)
    clear h3 hBx hm hgd c2 c3 c4 c6 d0 d1 d2 HW HE H2 HB
    go_wp2_with fail
    refine bodyPost_ret (results_ctt rfl _ _ (w.heap.size + 1) 36 #[.int .i64 0, .int .i64 0, .int .i64 0] (0, 0) _ rfl ?hp Try.underlying36 rfl (by kernel_rfl)) rfl ?_
    case hp =>
      repeat (with_reducible first | exact H3.out | refine blk_drewN ?_ _ | refine blk_drew ?_ | refine blk_put (cs := #[.int .i64 0, .int .i64 0, .int .i64 0]) ?_ _ _ rfl)
    · refine ⟨rfl, ?_⟩
      repeat (with_reducible first | exact HBx.out | refine Kv.below_set ?_ (by simp) _ _ | refine pw_below_drewN ?_ _ | refine below_alloc ?_ _)
end Go.Proofs.Ytanhibhcmfmeeaa.Ag
