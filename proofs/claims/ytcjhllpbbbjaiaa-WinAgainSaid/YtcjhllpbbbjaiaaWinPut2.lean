import Derived.Test.YtcjhllpbbbjaiaaWinPut
/- Put: no room; what is put. -/
namespace Go.Proofs.Ytcjhllpbbbjaiaa.Win
open Go.RowKit Go.Maps Go.Proofs.YtcjhllpbbbjaiaaW.PrintWords Go.Proofs.Ytcjhllpbbbjaiaa.Cut
theorem grown_drewN {a b : World} {row : Option Nat} (h : a.grownBy b row) (n : Nat) : a.grownBy (b.drewN n) row := ⟨h.os, h.tape, h.output, h.size, h.block⟩
theorem grown_set {w W : World} (h : w.grownBy W none) {p : Addr} (hp : w.heap.size ≤ p.block) (u : Value) : w.grownBy (W.setCell p u) none :=
  ⟨h.os, h.tape, h.output, by have := h.size; simpa [World.setCell] using this, fun i hi hne => (Below.heap_setCell W p u i (by omega)).trans (h.block i hi hne)⟩
set_option maxHeartbeats 2000000 in
/-- No room. -/
theorem put_full {w : World} {s : Nat} {room size : Int} {b : Nat} {m : St} (h : Own w s room size b m) (key time val : Int) (hk : W64 key) (hw : W64 (startF size time)) (hf : 0 ≤ startF size time) (hl : look m (startF size time, key) = none) (hm : room ≤ m.length) :
    Calls Try.prog 10 #[.pointer (some ⟨s, 0, none⟩), .int .i64 key, .int .i64 time, .int .i64 val] w fun e w' => e = .returned (.tuple #[zchg, .int .i64 3]) ∧ w.grownBy w' none := by
  have hst := start_calls (h.kept (World.grownBy_alloc w (.cells #[.int .i64 0, .int .i64 0, .int .i64 0, .int .i64 0, .bool false] 30) none) (by simp) (by simp)) time
  have hd := put_head h (startF size time) key
  generalize startF size time = f at hf hst hl hd hw
  unfold zchg
  clear h
  have nf : ¬ f < 0 := by omega
  go_enter Try.func10, Try.ntmps10
  go_upto_region 6 with (go_at_call 12; refine hst.mono ?_; rintro e w' ⟨rfl, rfl⟩)
  generalize (w.alloc (.cells #[.int .i64 0, .int .i64 0, .int .i64 0, .int .i64 0, .bool false] 30)).alloc (.cells #[.int .i64 f, .int .i64 key] 54) = W at hd ⊢
  obtain ⟨hO, hg, hrow, d0, d1⟩ := hd
  obtain ⟨c0, c1, c2⟩ := hO.cells
  have hlk := fun n => (hO.drewN n).lookup (p := (f, key)) ⟨hw, hk⟩
  rw [hl] at hlk
  simp only [val2, mkP, Option.getD_none, Option.isSome_none] at hlk
  obtain ⟨D, hD, hA⟩ := hO.map
  have hln := fun n ty => World.ownsMap.len (w := W.drewN n) hD Try.underlying50 ty
  rw [hA.2.1] at hln
  have hw0 : w.heap.size < W.heap.size := (Array.getElem?_eq_some_iff.1 hrow).1
  have z0 := (blk_cell hrow 0).trans rfl
  have z1 := (blk_cell hrow 1).trans rfl
  have z2 := (blk_cell hrow 2).trans rfl
  have z3 := (blk_cell hrow 3).trans rfl
  have z4 := (blk_cell hrow 4).trans rfl
  have y0 := blk_frozen hrow 0
  have y1 := blk_frozen hrow 1
  have y2 := blk_frozen hrow 2
  have y3 := blk_frozen hrow 3
  have y4 := blk_frozen hrow 4
  have t1 : decide (room ≤ (m.length : Int)) = true := decide_eq_true hm
  clear hD hA hO hst
  go_quiet (fail)
  go_wp2_with fail
  go_quiet (fail)
  go_wp2
  refine bodyPost_ret (results_ct rfl _ _ w.heap.size 30 #[.int .i64 0, .int .i64 0, .int .i64 0, .int .i64 0, .bool false] (0, 0) _ rfl ?hp Try.underlying30 rfl (by kernel_rfl)) rfl ?_
  case hp =>
    repeat (with_reducible first | exact hrow | refine blk_drewN ?_ _ | refine blk_drew ?_ | refine blk_put (cs := #[.int .i64 0, .int .i64 0, .int .i64 0, .int .i64 0, .bool false]) ?_ _ _ rfl)
  · refine ⟨rfl, ?_⟩
    repeat (with_reducible first | exact hg | refine grown_drew ?_ | refine grown_set ?_ (Nat.le_refl _) _ | refine grown_drewN ?_ _)
end Go.Proofs.Ytcjhllpbbbjaiaa.Win
