import Derived.Test.YtiinelmednbpmaaGreatMOpen
/- SlogNobody. -/
namespace Go.Proofs.YtiinelmednbpmaaGreat.Slog
open Go.RowKit Go.Maps Go.Proofs.YtiinelmednbpmaaGreatW.PrintWords Go.Proofs.YtiinelmednbpmaaGreatW.PrintMore Go.Proofs.YtiinelmednbpmaaGreat.Row Go.Proofs.YtiinelmednbpmaaGreat.Cut
set_option maxRecDepth 1000000 in
set_option maxHeartbeats 8000000 in
theorem nobody_calls (i : Int) (A : Option Addr) (n c : Nat) (w : World) : Calls Tryz.prog 8 #[.int .i64 i, .slice A n c] w fun e w' => e = .returned (.bool true) ∧ Below w.heap.size w w' := by
  have h1 := shown_calls
  have h2 := append_nil'
  have h3 := get_nil
  have h4 := open_nil
  have h5 := crash_nil
  have h6 := lose_nil
  have h7 := len_nil
  have h8 := lepoch_nil
  go_enter Tryz.func8, Tryz.ntmps8
  go_wp2_with fail
  refine (h1 _).mono ?_
  rintro e w1 ⟨rfl, B1⟩
  have HB1 := Lib.hid B1
  clear B1
  go_wp2_with fail
  refine (h2 _ _ _).mono ?_
  rintro e w2 ⟨rfl, rfl⟩
  have HB2 := Lib.hid (HB1.out.alloc HB1.out.size (.cells #[.int .u8 1] 5))
  go_wp2_with fail
  refine (h3 _ _).mono ?_
  rintro e w3 ⟨rfl, rfl⟩
  go_wp2_with fail
  refine (h4 _ _).mono ?_
  rintro e w4 ⟨rfl, B4⟩
  have HB4 := Lib.hid (below_step HB2.out B4)
  clear B4
  go_wp2_with fail
  refine (h5 _ _ _ _).mono ?_
  rintro e w5 ⟨rfl, B5⟩
  have HB5 := Lib.hid (below_step HB4.out B5)
  clear B5
  go_wp2_with fail
  refine (h6 _ _).mono ?_
  rintro e w6 ⟨rfl, rfl⟩
  go_wp2_with fail
  refine (h7 _).mono ?_
  rintro e w7 ⟨rfl, rfl⟩
  go_wp2_with fail
  refine (h8 _).mono ?_
  rintro e w8 ⟨rfl, rfl⟩
  go_wp2_with fail
  go_ret
  exact ⟨rfl, HB5.out⟩
end Go.Proofs.YtiinelmednbpmaaGreat.Slog
