import Derived.Test.YtcjhllpbbbjaiaaWinGet
/- Put. -/
namespace Go.Proofs.Ytcjhllpbbbjaiaa.Win
open Go.RowKit Go.Maps Go.Proofs.YtcjhllpbbbjaiaaW.PrintWords Go.Proofs.Ytcjhllpbbbjaiaa.Cut
def zchg : Value := .agg #[.int .i64 0, .int .i64 0, .int .i64 0, .int .i64 0, .bool false]
set_option maxHeartbeats 1000000 in
theorem put_nil (key time val : Int) (w : World) : Calls Try.prog 10 #[.pointer none, .int .i64 key, .int .i64 time, .int .i64 val] w fun e w' => e = .returned (.tuple #[zchg, .int .i64 3]) ∧ w.grownBy w' none := by
  unfold zchg
  go_enter Try.func10, Try.ntmps10
  go_wp2
  refine bodyPost_ret (results_ct rfl _ _ w.heap.size 30 _ (0, 0) _ rfl (MapKept.heap_alloc w _).1 Try.underlying30 rfl (by kernel_rfl)) rfl ?_
  exact ⟨rfl, World.grownBy_alloc _ _ _⟩
set_option maxHeartbeats 1000000 in
/-- A time that may not be. -/
theorem put_range {w : World} {s : Nat} {room size : Int} {b : Nat} {m : St} (h : Own w s room size b m) (key time val : Int) (hf : startF size time < 0) :
    Calls Try.prog 10 #[.pointer (some ⟨s, 0, none⟩), .int .i64 key, .int .i64 time, .int .i64 val] w fun e w' => e = .returned (.tuple #[zchg, .int .i64 2]) ∧ w.grownBy w' none := by
  have hst := start_calls (h.kept (World.grownBy_alloc w (.cells #[.int .i64 0, .int .i64 0, .int .i64 0, .int .i64 0, .bool false] 30) none) (by simp) (by simp)) time
  generalize startF size time = f at hf hst
  unfold zchg
  clear h
  go_enter Try.func10, Try.ntmps10
  go_wp2_with (go_at_call 12; refine hst.mono ?_; rintro e w' ⟨rfl, rfl⟩)
  refine bodyPost_ret (results_ct rfl _ _ w.heap.size 30 #[.int .i64 0, .int .i64 0, .int .i64 0, .int .i64 0, .bool false] (0, 0) _ rfl (((MapKept.heap_alloc (w.alloc _) _).2 _ (by simp)).trans (MapKept.heap_alloc w _).1) Try.underlying30 rfl (by kernel_rfl)) rfl ?_
  exact ⟨rfl, (World.grownBy_alloc _ _ _).trans (World.grownBy_alloc _ _ _)⟩
/-- What Put finds ahead of its tests: the world behind the two boxes. -/
theorem put_head {w : World} {s : Nat} {room size : Int} {b : Nat} {m : St} (h : Own w s room size b m) (f key : Int) :
    let W := (w.alloc (.cells #[.int .i64 0, .int .i64 0, .int .i64 0, .int .i64 0, .bool false] 30)).alloc (.cells #[.int .i64 f, .int .i64 key] 54)
    Own W s room size b m ∧ w.grownBy W none ∧ W.heap[w.heap.size]? = some (.cells #[.int .i64 0, .int .i64 0, .int .i64 0, .int .i64 0, .bool false] 30 (0, 0)) ∧ W.cell? ⟨w.heap.size + 1, 0, none⟩ = some (.int .i64 f) ∧ W.cell? ⟨w.heap.size + 1, 1, none⟩ = some (.int .i64 key) := by
  have g : w.grownBy ((w.alloc (.cells #[.int .i64 0, .int .i64 0, .int .i64 0, .int .i64 0, .bool false] 30)).alloc (.cells #[.int .i64 f, .int .i64 key] 54)) none := (World.grownBy_alloc _ _ _).trans (World.grownBy_alloc _ _ _)
  exact ⟨h.kept g (by simp) (by simp), g, ((MapKept.heap_alloc (w.alloc _) _).2 _ (by simp)).trans (MapKept.heap_alloc w _).1, by simp, by simp⟩
end Go.Proofs.Ytcjhllpbbbjaiaa.Win
