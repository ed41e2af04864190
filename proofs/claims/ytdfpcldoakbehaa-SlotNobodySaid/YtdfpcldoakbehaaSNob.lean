import Derived.Test.YtdfpcldoakbehaaSShown
/- SlotNobody. -/
namespace Go.Proofs.Ytdfpcldoakbehaa.Slot
open Go.RowKit Go.Maps Go.Proofs.YtdfpcldoakbehaaW.PrintWords Go.Proofs.YtdfpcldoakbehaaW.PrintMore Go.Proofs.YtdfpcldoakbehaaW.PrintLast Go.Proofs.Ytdfpcldoakbehaa.Row Go.Proofs.Ytdfpcldoakbehaa.Cut Go.Proofs.Ytdfpcldoakbehaa.DiskM Go.Proofs.Ytdfpcldoakbehaa.Quor
set_option maxRecDepth 1000000 in
set_option maxHeartbeats 8000000 in
theorem nobody_calls (a : Int) (w : World) : Calls Try.prog 6 #[.int .i64 a] w fun e w' => e = .returned (.bool true) ∧ Below w.heap.size w w' := by
  have h1 := shown_calls
  have h2 := read_nil
  have h3 := seal_nil
  have h4 := write_nil
  have h5 := epoch_nil
  have h6 := tail_nil
  go_enter Try.func6, Try.ntmps6
  go_wp2_with fail
  refine (h1 _).mono ?_
  rintro e w1 ⟨rfl, B1⟩
  have HB1 := Lib.hid B1
  clear B1
  go_wp2_with fail
  refine (h2 _ _).mono ?_
  rintro e w2 ⟨rfl, B2⟩
  have HB2 := Lib.hid (below_step HB1.out B2)
  clear B2
  go_wp2_with fail
  refine (h3 _ _).mono ?_
  rintro e w3 ⟨rfl, rfl⟩
  go_wp2_with fail
  refine (h4 _ _ _ _).mono ?_
  rintro e w4 ⟨rfl, rfl⟩
  go_wp2_with fail
  refine (h5 _).mono ?_
  rintro e w5 ⟨rfl, rfl⟩
  go_wp2_with fail
  refine (h6 _).mono ?_
  rintro e w6 ⟨rfl, rfl⟩
  go_wp2_with fail
  go_ret
  refine ⟨rfl, ?_⟩
  exact HB2.out.alloc HB2.out.size _
end Go.Proofs.Ytdfpcldoakbehaa.Slot
