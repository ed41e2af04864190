import Derived.Test.YtanhibhcmfmeeaaKvPut
/- A store of pairs: the walk of Put. -/
namespace Go.Proofs.Ytanhibhcmfmeeaa.Kv
open Go.RowKit Go.Proofs.YtanhibhcmfmeeaaW.PrintWords Go.Proofs.YtanhibhcmfmeeaaW.PrintMore Go.Proofs.Ytanhibhcmfmeeaa.Cut Go.Proofs.Ytanhibhcmfmeeaa.Fr Go.Proofs.Ytanhibhcmfmeeaa.SlK
theorem mv_set {w W : World} {F F' : Nat → Prop} (h : Mv w W F F') {p : Addr} (hp : F p.block ∨ w.heap.size ≤ p.block) (u : Value) : Mv w (W.setCell p u) F F' :=
  ⟨h.os, h.tape, h.output, by simpa [World.setCell] using h.size, fun k hk hs => (Below.heap_setCell W p u k (fun e => by subst e; exact hp.elim hs (by omega))).trans (h.keep k hk hs), h.new⟩
theorem mv_drewN {w W : World} {F F' : Nat → Prop} (h : Mv w W F F') (n : Nat) : Mv w (W.drewN n) F F' := ⟨h.os, h.tape, h.output, h.size, h.keep, h.new⟩
theorem mv_drew {w W : World} {F F' : Nat → Prop} (h : Mv w W F F') : Mv w W.drew F F' := ⟨h.os, h.tape, h.output, h.size, h.keep, h.new⟩
theorem mv_alloc {w W : World} {F F' : Nat → Prop} (h : Mv w W F F') (o : Obj) : Mv w (W.alloc o) F F' :=
  ⟨h.os, h.tape, h.output, by have := h.size; simp; omega, fun k hk hs => ((Go.MapKept.heap_alloc W o).2 k (Nat.lt_of_lt_of_le hk h.size)).trans (h.keep k hk hs), h.new⟩
theorem below_set {B g : Nat} {w W : World} (h : Below B w W) (hg : B ≤ g) (j : Nat) (u : Value) : Below B w (W.setCell ⟨g, j, none⟩ u) := h.setCell hg _
abbrev zrow : Obj := .cells #[.int .i64 0, .int .i64 0, .int .i64 0, .int .i64 0, .bool false] 50
set_option maxHeartbeats 2000000 in
theorem put_nil (key val : Int) (w : World) : Calls Try.prog 38 #[.pointer none, .int .i64 key, .int .i64 val] w fun e w' => e = .returned (.tuple #[chgV 0 0 0 0 false, .int .i64 3]) ∧ Below w.heap.size w w' := by
  have hf := find_nil key (w.alloc zrow)
  have hrow : (w.alloc zrow).heap[w.heap.size]? = some zrow := (Go.MapKept.heap_alloc w zrow).1
  unfold chgV
  go_enter Try.func38, Try.ntmps38
  go_wp2_with ((with_reducible refine hf.mono ?_); rintro e w1 ⟨rfl, rfl⟩)
  go_quiet (fail)
  go_wp2_with fail
  refine bodyPost_ret (results_ct rfl _ _ w.heap.size 50 #[.int .i64 0, .int .i64 0, .int .i64 0, .int .i64 0, .bool false] (0, 0) _ rfl ?hp Try.underlying50 rfl (by kernel_rfl)) rfl ?_
  case hp =>
    repeat (with_reducible first | exact hrow | refine blk_drewN ?_ _ | refine blk_drew ?_ | refine blk_put (cs := #[.int .i64 0, .int .i64 0, .int .i64 0, .int .i64 0, .bool false]) ?_ _ _ rfl)
  · refine ⟨rfl, ?_⟩
    repeat (with_reducible first | exact Below.refl _ _ | refine below_set ?_ (Nat.le_refl _) _ _ | refine pw_below_drewN ?_ _ | refine below_alloc ?_ _)
set_option maxHeartbeats 4000000 in
theorem put_full {w : World} {B s : Nat} {room : Int} {l : L2} {v : Value} (h : Own w B s room l v) (key val : Int) (hn : look l key = none) (hf : room ≤ l.length) :
    Calls Try.prog 38 #[.pointer (some ⟨s, 0, none⟩), .int .i64 key, .int .i64 val] w fun e w' => e = .returned (.tuple #[chgV 0 0 0 0 false, .int .i64 3]) ∧ Below w.heap.size w w' := by
  have hfi := find_calls (h.below (below_alloc (Below.refl _ _) zrow)) key
  have hrow : (w.alloc zrow).heap[w.heap.size]? = some zrow := (Go.MapKept.heap_alloc w zrow).1
  rw [hn] at hfi
  have HO := Lib.hid h
  obtain ⟨A, c, rfl, hc, _⟩ := row_cells h.pairs
  generalize (idx key l : Int) = i at hfi
  unfold chgV
  clear h hn
  go_enter Try.func38, Try.ntmps38
  go_wp2_with fail
  refine hfi.mono ?_
  rintro e w1 ⟨rfl, hB⟩
  have hB2 := below_then (below_alloc (Below.refl _ _) zrow) (by simp) hB
  obtain ⟨c0, c1⟩ := (HO.out.below hB2).cells
  have k0 := (hB.block w.heap.size (by simp)).trans hrow
  have hw1 : w.heap.size < w1.heap.size := (Array.getElem?_eq_some_iff.1 k0).1
  have z0 : w1.cell? ⟨w.heap.size, 0, none⟩ = some (.int .i64 0) := (blk_cell k0 0).trans rfl
  have z1 : w1.cell? ⟨w.heap.size, 1, none⟩ = some (.int .i64 0) := (blk_cell k0 1).trans rfl
  have z2 : w1.cell? ⟨w.heap.size, 2, none⟩ = some (.int .i64 0) := (blk_cell k0 2).trans rfl
  have z3 : w1.cell? ⟨w.heap.size, 3, none⟩ = some (.int .i64 0) := (blk_cell k0 3).trans rfl
  have z4 : w1.cell? ⟨w.heap.size, 4, none⟩ = some (.bool false) := (blk_cell k0 4).trans rfl
  have y0 := blk_frozen k0 0
  have y1 := blk_frozen k0 1
  have y2 := blk_frozen k0 2
  have y3 := blk_frozen k0 3
  have y4 := blk_frozen k0 4
  have t1 : decide (room ≤ (l.length : Int)) = true := decide_eq_true hf
  have K0 := Lib.hid k0; have HB := Lib.hid hB2
  clear hfi hB hB2 hrow k0 hf
  go_wp2_with fail
  go_quiet (fail)
  go_wp2_with fail
  refine bodyPost_ret (results_ct rfl _ _ w.heap.size 50 #[.int .i64 0, .int .i64 0, .int .i64 0, .int .i64 0, .bool false] (0, 0) _ rfl ?hp Try.underlying50 rfl (by kernel_rfl)) rfl ?_
  case hp =>
    repeat (with_reducible first | exact K0.out | refine blk_drewN ?_ _ | refine blk_drew ?_ | refine blk_put (cs := #[.int .i64 0, .int .i64 0, .int .i64 0, .int .i64 0, .bool false]) ?_ _ _ rfl)
  · refine ⟨rfl, ?_⟩
    repeat (with_reducible first | exact HB.out | refine below_set ?_ (Nat.le_refl _) _ _ | refine pw_below_drewN ?_ _ | refine below_alloc ?_ _)
end Go.Proofs.Ytanhibhcmfmeeaa.Kv
