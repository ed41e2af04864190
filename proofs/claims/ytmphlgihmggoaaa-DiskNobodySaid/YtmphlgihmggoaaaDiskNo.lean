import Derived.Test.YtmphlgihmggoaaaDiskS
/- The walk of DiskNobody. -/
namespace Go.Proofs.Ytmphlgihmggoaaa.DiskM
open Go.RowKit Go.Proofs.YtmphlgihmggoaaaW.PrintWords Go.Proofs.YtmphlgihmggoaaaW.PrintLast Go.Proofs.YtmphlgihmggoaaaW.PrintMore Go.Proofs.Ytmphlgihmggoaaa.Row Go.Proofs.Ytmphlgihmggoaaa.Cut
theorem crash_nil (w : World) (k t : Int) : Calls Try.prog 13 #[.pointer none, .int .i64 k, .int .i64 t] w fun e w' => e = .returned (.tuple #[]) ∧ w = w' := by
  go_enter Try.func13, Try.ntmps13
  go_wp2
  exact bodyPost_ret (results_none rfl _ _ _) rfl ⟨rfl, rfl⟩
set_option maxHeartbeats 4000000 in
theorem nobody_walk (n : Int) (w : World) : Calls Try.prog 8 #[.int .i64 n] w fun e w' => e = .returned (.bool true) ∧ Below w.heap.size w w' := by
  go_enter Try.func8, Try.ntmps8
  go_wp2_with fail
  refine (shown_calls w).mono ?_
  rintro e w1 ⟨rfl, B1⟩
  go_wp2_with fail
  refine (sync_nil w1).mono ?_
  rintro e w2 ⟨rfl, rfl⟩
  go_wp2_with fail
  refine (crash_nil _ n n).mono ?_
  rintro e w2 ⟨rfl, rfl⟩
  go_wp2_with fail
  refine (lose_nil _).mono ?_
  rintro e w2 ⟨rfl, rfl⟩
  go_wp2_with fail
  refine (append_nil _ _ _ _).mono ?_
  rintro e w3 ⟨rfl, d3⟩
  go_wp2_with fail
  refine (cut_nil _ _).mono ?_
  rintro e w2 ⟨rfl, rfl⟩
  go_wp2_with fail
  refine (bytes_nil _).mono ?_
  rintro e w2 ⟨rfl, rfl⟩
  go_wp2_with fail
  refine (safe_nil _).mono ?_
  rintro e w2 ⟨rfl, rfl⟩
  go_wp2_with fail
  go_ret
  exact ⟨rfl, below_step (B1.alloc B1.size _) d3.below⟩
end Go.Proofs.Ytmphlgihmggoaaa.DiskM
