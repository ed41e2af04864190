import Derived.Test.YtanhibhcmfmeeaaAgShw
/- A store that is nil takes nothing. -/
namespace Go.Proofs.Ytanhibhcmfmeeaa.Ag
open Go.RowKit Go.Proofs.YtanhibhcmfmeeaaW.PrintWords Go.Proofs.YtanhibhcmfmeeaaW.PrintMore Go.Proofs.Ytanhibhcmfmeeaa.Cut Go.Proofs.Ytanhibhcmfmeeaa.Fr Go.Proofs.Ytanhibhcmfmeeaa.SlK Go.Proofs.Ytanhibhcmfmeeaa.Ex
set_option maxHeartbeats 8000000 in
theorem nobody_walk (key val time mark : Int) (w : World) : Calls Try.prog 8 #[.agg #[.int .i64 key, .int .i64 val, .int .i64 time], .int .i64 mark] w fun e w' => e = .returned (.bool true) ∧ Below w.heap.size w w' := by
  obtain ⟨W, hW⟩ : ∃ W, W = w.alloc (.cells #[.int .i64 key, .int .i64 val, .int .i64 time] 36) := ⟨_, rfl⟩
  have hB : Below w.heap.size w W := by rw [hW]; exact below_alloc (Below.refl _ _) _
  have hr : W.heap[w.heap.size]? = some (.cells #[.int .i64 key, .int .i64 val, .int .i64 time] 36 (0, 0)) := by rw [hW]; exact (Go.MapKept.heap_alloc w _).1
  have hsh := shown_calls W
  have HW := Lib.hid hW; have HB := Lib.hid hB
  clear hW hB
  go_enter Try.func8, Try.ntmps8
  go_upto_region 1 with fail
  rw [← HW.out]
  go_wp2_with fail
  refine hsh.mono ?_
  rintro e w1 ⟨rfl, hB1⟩
  have hr1 := (hB1.block _ (Array.getElem?_eq_some_iff.1 hr).1).trans hr
  have c0 : w1.cell? ⟨w.heap.size, 0, none⟩ = some (.int .i64 key) := (blk_cell hr1 0).trans rfl
  have c1 : w1.cell? ⟨w.heap.size, 1, none⟩ = some (.int .i64 val) := (blk_cell hr1 1).trans rfl
  have c2 : w1.cell? ⟨w.heap.size, 2, none⟩ = some (.int .i64 time) := (blk_cell hr1 2).trans rfl
  have ha := apply_nil key val time w1
  unfold recV at ha
  have HB1 := Lib.hid (below_then HB.out HB.out.size hB1)
  have hw0 := (Array.getElem?_eq_some_iff.1 hr1).1
  clear hsh hB1 hr hr1 HW HB
  go_wp2_with fail
  refine ha.mono ?_
  rintro e w2 ⟨rfl, hB2⟩
  have d0 := keepB hB2 c0
  have d1 := keepB hB2 c1
  have d2 := keepB hB2 c2
  have HB2 := Lib.hid (below_then HB1.out HB1.out.size hB2)
  have hw2 : w.heap.size < w2.heap.size := by have := hB2.size; omega
  have hl := fun V => late_nil key val time mark V
  have hdo := fun V => do_nil (0, 0, 0, 0, false) V
  unfold recV at hl
  unfold encC at hdo
  clear ha c0 c1 c2 hB2 HB1
  go_wp2_with (first
    | (go_at_call 13; (with_reducible refine (value_nil _ _).mono ?_); rintro e w' ⟨rfl, rfl⟩)
    | (go_at_call 17; (with_reducible refine (hl _).mono ?_); rintro e w5 ⟨rfl, hB5⟩; have HB5 := Lib.hid hB5; clear hB5)
    | (go_at_call 16; (with_reducible refine (expire_nil _ _).mono ?_); rintro e w' ⟨rfl, rfl⟩)
    | (go_at_call 18; (with_reducible refine (hdo _).mono ?_); rintro e w6 ⟨rfl, hB6⟩; have HB6 := Lib.hid hB6; clear hB6)
    | (go_at_call 15; (with_reducible refine (list_nil _).mono ?_); rintro e w' ⟨rfl, rfl⟩))
  go_ret
  refine ⟨rfl, ?_⟩
  have b1 := below_alloc_of HB2.out (.cells #[.int .i64 0, .int .i64 0, .int .i64 0] 36) HB2.out.size
  have b2 := below_then b1 b1.size HB5.out
  exact below_then b2 b2.size HB6.out
end Go.Proofs.Ytanhibhcmfmeeaa.Ag
