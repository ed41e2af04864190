import Derived.Test.YtcjhllpbbbjaiaaWinExp
/- Do. -/
namespace Go.Proofs.Ytcjhllpbbbjaiaa.Win
open Go.RowKit Go.Maps Go.Proofs.YtcjhllpbbbjaiaaW.PrintWords Go.Proofs.YtcjhllpbbbjaiaaW.PrintMore Go.Proofs.Ytcjhllpbbbjaiaa.Cut
set_option maxHeartbeats 1000000 in
theorem do_nil (c : T5) (w : World) : Calls Try.prog 15 #[.pointer none, .agg #[.int .i64 c.1, .int .i64 c.2.1, .int .i64 c.2.2.1, .int .i64 c.2.2.2.1, .bool c.2.2.2.2]] w fun e w' => e = .returned (.int .i64 3) ∧ w.grownBy w' none := by
  obtain ⟨c1, c2, c3, c4, c5⟩ := c
  go_enter Try.func15, Try.ntmps15
  go_wp2
  go_ret
  exact ⟨rfl, World.grownBy_alloc _ _ _⟩
theorem grown_undrew {a c : World} {n : Nat} {row : Option Nat} (h : (a.drewN n).grownBy c row) : a.grownBy c row := ⟨h.os, h.tape, h.output, h.size, h.block⟩
set_option maxHeartbeats 4000000 in
theorem do_put {w : World} {s : Nat} {room size : Int} {b : Nat} {m : St} (h : Own w s room size b m) (key f val : Int) (hk : W64 key) (hv : W64 val) (hw : W64 f) (hf : 0 ≤ f) (hfs : startF size f = f) (hm : look m (f, key) = none → (m.length : Int) < room) :
    Calls Try.prog 15 #[.pointer (some ⟨s, 0, none⟩), .agg #[.int .i64 key, .int .i64 f, .int .i64 (f + size), .int .i64 val, .bool false]] w fun e w' => e = .returned (.int .i64 0) ∧ Own w' s room size b (put (f, key) val m) ∧ w.grownBy w' (some b) := by
  have hg1 : w.grownBy (w.alloc (.cells #[.int .i64 key, .int .i64 f, .int .i64 (f + size), .int .i64 val, .bool false] 30)) none := World.grownBy_alloc _ _ _
  have hfb : f ≤ 1099511627776 := by rw [← hfs]; exact startF_le h.rng.2.2.1
  have hr := h.rng
  have hO1 := h.kept hg1 (by simp) (by simp)
  have hblk := (MapKept.heap_alloc w (.cells #[.int .i64 key, .int .i64 f, .int .i64 (f + size), .int .i64 val, .bool false] 30)).1
  have HG1 := Lib.hid hg1
  clear h hg1
  go_enter Try.func15, Try.ntmps15
  go_upto_region 3 with fail
  generalize w.alloc (.cells #[.int .i64 key, .int .i64 f, .int .i64 (f + size), .int .i64 val, .bool false] 30) = W at *
  have hst := start_calls hO1 f
  rw [hfs] at hst
  have hput := fun n => put_ok (hO1.drewN n) key f val hk hv (by rw [hfs]; exact hw) (by rw [hfs]; exact hf) (by rw [hfs]; exact hm)
  simp only [hfs, chg] at hput
  obtain ⟨c0, c1, c2⟩ := hO1.cells
  have z0 := (blk_cell hblk 0).trans rfl
  have z1 := (blk_cell hblk 1).trans rfl
  have z2 := (blk_cell hblk 2).trans rfl
  have z3 := (blk_cell hblk 3).trans rfl
  have z4 := (blk_cell hblk 4).trans rfl
  have b1 : decide (f < 0) = false := decide_eq_false (by omega)
  have b2 : (f != f) = false := by simp
  have e1 : IntKind.i64.wrap (f + size) = f + size := IntWalk.i64_in _ (by omega)
  have b3 : (f + size != f + size) = false := by simp
  clear hfs hm hO1 hblk
  go_wp2_with (go_at_call 12; refine hst.mono ?_; rintro e w' ⟨rfl, rfl⟩)
  go_quiet (fail)
  clear c0 c1 c2 e1
  go_wp2_with (go_at_call 10; refine (hput _).mono ?_; rintro e w2 ⟨rfl, hO2, hg2⟩)
  have HF := Lib.hid (And.intro hO2 hg2)
  clear hO2 hg2 hput hst
  go_ret
  refine ⟨rfl, HF.out.1.kept (World.grownBy_alloc _ _ none) (by simp) (by simp), ?_⟩
  exact ((HG1.out.but (some b)).trans (grown_undrew HF.out.2)).trans (World.grownBy_alloc _ _ _)
set_option maxHeartbeats 4000000 in
theorem do_del {w : World} {s : Nat} {room size : Int} {b : Nat} {m : St} (h : Own w s room size b m) (key f : Int) (hk : W64 key) (hw : W64 f) (hf : 0 ≤ f) (hfs : startF size f = f) (hm : (look m (f, key)).isSome = true) :
    Calls Try.prog 15 #[.pointer (some ⟨s, 0, none⟩), .agg #[.int .i64 key, .int .i64 f, .int .i64 (f + size), .int .i64 0, .bool true]] w fun e w' => e = .returned (.int .i64 0) ∧ Own w' s room size b (del (f, key) m) ∧ w.grownBy w' (some b) := by
  have hg1 : w.grownBy (w.alloc (.cells #[.int .i64 key, .int .i64 f, .int .i64 (f + size), .int .i64 0, .bool true] 30)) none := World.grownBy_alloc _ _ _
  have hfb : f ≤ 1099511627776 := by rw [← hfs]; exact startF_le h.rng.2.2.1
  have hr := h.rng
  have hO1 := h.kept hg1 (by simp) (by simp)
  have hblk := (MapKept.heap_alloc w (.cells #[.int .i64 key, .int .i64 f, .int .i64 (f + size), .int .i64 0, .bool true] 30)).1
  have HG1 := Lib.hid hg1
  clear h hg1
  go_enter Try.func15, Try.ntmps15
  go_upto_region 3 with fail
  generalize w.alloc (.cells #[.int .i64 key, .int .i64 f, .int .i64 (f + size), .int .i64 0, .bool true] 30) = W at *
  have hst := start_calls hO1 f
  rw [hfs] at hst
  obtain ⟨c0, c1, c2⟩ := hO1.cells
  have z0 := (blk_cell hblk 0).trans rfl
  have z1 := (blk_cell hblk 1).trans rfl
  have z2 := (blk_cell hblk 2).trans rfl
  have z3 := (blk_cell hblk 3).trans rfl
  have z4 := (blk_cell hblk 4).trans rfl
  have b1 : decide (f < 0) = false := decide_eq_false (by omega)
  have b2 : (f != f) = false := by simp
  have e1 : IntKind.i64.wrap (f + size) = f + size := IntWalk.i64_in _ (by omega)
  have b3 : (f + size != f + size) = false := by simp
  have b4 : ((0 : Int) != 0) = false := by simp
  have HO1 := Lib.hid hO1
  have HM := Lib.hid hm
  have HB := Lib.hid hblk
  clear hfs hm hO1 hblk
  go_upto_region 4 with (go_at_call 12; refine hst.mono ?_; rintro e w' ⟨rfl, rfl⟩)
  go_quiet (fail)
  rename Nat => n1
  have hO2 := HO1.out.drewN n1
  have hb2 : (w'.drewN n1).heap[w.heap.size]? = some (.cells #[.int .i64 key, .int .i64 f, .int .i64 (f + size), .int .i64 0, .bool true] 30 (0, 0)) := HB.out
  have hg2 : w.grownBy (w'.drewN n1) none := grown_drewN HG1.out n1
  clear z0 z1 z2 z3 z4 c0 c1 c2 hst HB HO1 HG1 b1 b2 b3 b4 e1
  generalize w'.drewN n1 = W2 at *
  clear w' n1
  have z0 := (blk_cell hb2 0).trans rfl
  have z1 := (blk_cell hb2 1).trans rfl
  have z2 := (blk_cell hb2 2).trans rfl
  have z3 := (blk_cell hb2 3).trans rfl
  have z4 := (blk_cell hb2 4).trans rfl
  clear hb2
  go_upto_region 10 with fail
  have hg3 := hg2.trans (World.grownBy_alloc W2 (.cells #[.int .i64 f, .int .i64 key] 54) none)
  have hO3 := hO2.kept (World.grownBy_alloc W2 (.cells #[.int .i64 f, .int .i64 key] 54) none) (by simp) (by simp)
  have q := cells_alloc2 W2 f key 54
  clear z0 z1 z2 z3 z4 hg2 hO2
  generalize W2.alloc (.cells #[.int .i64 f, .int .i64 key] 54) = W3 at *
  generalize W2.heap.size = g at *
  clear W2
  obtain ⟨q0, q1⟩ := q
  obtain ⟨c0, c1, c2⟩ := hO3.cells
  have hlk := fun n => (hO3.drewN n).lookup (p := (f, key)) ⟨hw, hk⟩
  obtain ⟨val, hv⟩ := Option.isSome_iff_exists.1 HM.out
  rw [hv] at hlk
  simp only [val2, mkP, Option.getD_some, Option.isSome_some] at hlk
  have HO3 := Lib.hid hO3
  have HG3 := Lib.hid hg3
  clear hv hO3 hg3
  go_quiet (fail)
  rename Nat => n1
  clear hlk
  have hO4 := (HO3.out.drewN n1).drewN 1
  have hg4 : w.grownBy ((W3.drewN n1).drewN 1) none := grown_drewN (grown_drewN HG3.out n1) 1
  have d0 : (W3.drewN n1).cell? ⟨s, 0, none⟩ = some (.int .i64 room) := c0
  have d1 : (W3.drewN n1).cell? ⟨s, 1, none⟩ = some (.int .i64 size) := c1
  have d2 : (W3.drewN n1).cell? ⟨s, 2, none⟩ = some (.map (some b)) := c2
  have p0 : (W3.drewN n1).cell? ⟨g, 0, none⟩ = some (.int .i64 f) := q0
  have p1 : (W3.drewN n1).cell? ⟨g, 1, none⟩ = some (.int .i64 key) := q1
  clear q0 q1 c0 c1 c2 HO3 HG3
  generalize W3.drewN n1 = W4 at *
  obtain ⟨W5, hrun, hO5, hgb, hzz⟩ := hO4.drop (p := (f, key)) ⟨hw, hk⟩ 0
  simp only [val2, mkP] at hrun
  have HF := Lib.hid (And.intro hO5 ((hg4.but (some b)).trans hgb))
  clear hO4 hg4 hO5 hgb hzz
  go_upto_region 13 with fail
  refine wp_region_still_tail 5 (by kernel_rfl) (by kernel_rfl) ?_
  simp only [List.take_succ_cons, List.take_zero, List.drop_succ_cons, List.drop_zero]
  change wpStill _ _ (W4.drewN 1) _ _ _
  repeat still_step
  refine wpStill_nil ?_
  change wpList _ _ _ _ _ (W4.drewN 1)
  clear d0 d1 d2 p0 p1
  generalize W4.drewN 1 = W6 at *
  go_wp2
  go_ret
  exact ⟨rfl, HF.out.1, HF.out.2⟩
end Go.Proofs.Ytcjhllpbbbjaiaa.Win
