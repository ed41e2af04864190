import Derived.Test.YtfccepkpbnalmaaChgCmp
import Derived.Deep.RegionWith
import Derived.BigRegion
import Derived.Shelf.SlicesE.Kit
import Derived.Sort.Grow
import Derived.Maps.AppendAt
import Derived.StillTailTactics
/- The place of a change, and the closure that compares two. -/
namespace Go.Proofs.Ytfccepkpbnalmaa.Chg
open Go.RowKit Go.Lib Go.Sort
set_option maxHeartbeats 1000000 in
theorem at_calls (c : T5) (w : World) : Calls Try.prog 27 #[valC c] w fun e w' => e = .returned (val3 (kp c)) ∧ w.grownBy w' none := by
  obtain ⟨c1, c2, c3, c4, c5⟩ := c
  unfold valC val3 mkP kp
  go_enter Try.func27, Try.ntmps27
  go_wp2
  refine bodyPost_ret (results_cell_row rfl _ _ (w.heap.size + 1) 63 #[.int .i64 c1, .int .i64 c2, .int .i64 c3] (0, 0) _ rfl (by have h := (MapKept.heap_alloc (w.alloc (.cells #[.int .i64 c1, .int .i64 c2, .int .i64 c3, .int .i64 c4, .bool c5] 30)) (.cells #[.int .i64 c1, .int .i64 c2, .int .i64 c3] 63)).1; simpa using h) Try.underlying63 rfl (by kernel_rfl)) rfl ?_
  exact ⟨rfl, (World.grownBy_alloc _ _ _).trans (World.grownBy_alloc _ _ _)⟩
theorem cells_two (W : World) (t : TypeId) (x1 x2 x3 x4 : Int) (x5 : Bool) (y1 y2 y3 y4 : Int) (y5 : Bool) :
    let V := (W.alloc (.cells #[.int .i64 x1, .int .i64 x2, .int .i64 x3, .int .i64 x4, .bool x5] t)).alloc (.cells #[.int .i64 y1, .int .i64 y2, .int .i64 y3, .int .i64 y4, .bool y5] t)
    V.cell? ⟨W.heap.size, 0, none⟩ = some (.int .i64 x1) ∧ V.cell? ⟨W.heap.size, 1, none⟩ = some (.int .i64 x2) ∧ V.cell? ⟨W.heap.size, 2, none⟩ = some (.int .i64 x3) ∧ V.cell? ⟨W.heap.size + 1, 0, none⟩ = some (.int .i64 y1) ∧ V.cell? ⟨W.heap.size + 1, 1, none⟩ = some (.int .i64 y2) ∧ V.cell? ⟨W.heap.size + 1, 2, none⟩ = some (.int .i64 y3) := by
  simp
set_option maxRecDepth 100000 in
set_option maxHeartbeats 4000000 in
theorem clo_calls (x y : T5) (W : World) : Calls Try.prog 29 #[valC x, valC y] W fun e w' => e = .returned (.int .i64 (cfC x y)) ∧ ∃ q os', w' = grow (W.drewN q) os' := by
  obtain ⟨x1, x2, x3, x4, x5⟩ := x
  obtain ⟨y1, y2, y3, y4, y5⟩ := y
  unfold valC cfC
  have hc := compare_calls
  generalize cmpI = cf at hc ⊢
  go_enter Try.func29, Try.ntmps29
  go_wp2
  have f0 := cells_two W 30 x1 x2 x3 x4 x5 y1 y2 y3 y4 y5
  have fV : grow W #[.cells #[.int .i64 x1, .int .i64 x2, .int .i64 x3, .int .i64 x4, .bool x5] 30, .cells #[.int .i64 y1, .int .i64 y2, .int .i64 y3, .int .i64 y4, .bool y5] 30] = (W.alloc (.cells #[.int .i64 x1, .int .i64 x2, .int .i64 x3, .int .i64 x4, .bool x5] 30)).alloc (.cells #[.int .i64 y1, .int .i64 y2, .int .i64 y3, .int .i64 y4, .bool y5] 30) := by
    rw [alloc_eq_grow, alloc_eq_grow, grow_grow]; rfl
  generalize (W.alloc (.cells #[.int .i64 x1, .int .i64 x2, .int .i64 x3, .int .i64 x4, .bool x5] 30)).alloc (.cells #[.int .i64 y1, .int .i64 y2, .int .i64 y3, .int .i64 y4, .bool y5] 30) = V at f0 fV ⊢
  obtain ⟨f0, f1, f2, f3, f4, f5⟩ := f0
  refine wp_region_still_tail 15 (by kernel_rfl) (by kernel_rfl) ?_
  simp only [List.take_succ_cons, List.take_zero, List.drop_succ_cons, List.drop_zero]
  change wpStill _ _ V.drew _ _ _
  repeat (first | still_step | still_call (hc _ _ _))
  refine wpStill_nil ?_
  have hor := fun n w' => or_calls (cf x1 y1) (cf x2 y2) (cf x3 y3) n w'
  have hV2 : ∃ q os', V.drew = grow (W.drewN q) os' := ⟨1, _, by rw [← fV]; rfl⟩
  change wpList _ _ _ _ _ V.drew
  generalize V.drew = V2 at hV2 ⊢
  clear f0 f1 f2 f3 f4 f5 fV
  go_wp2_with (go_at_call 30; refine (hor V2.heap.size _ (by simp) (by simp) (by simp)).mono ?_; rintro e w' ⟨rfl, rfl⟩)
  go_ret
  obtain ⟨q, os', rfl⟩ := hV2
  refine ⟨?_, q, _, by rw [alloc_eq_grow, grow_grow]⟩
  simp
end Go.Proofs.Ytfccepkpbnalmaa.Chg
