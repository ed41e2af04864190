import Derived.Test.YtcjhllpbbbjaiaaWinShown
/- A store that is nil. -/
namespace Go.Proofs.Ytcjhllpbbbjaiaa.Win
open Go.RowKit Go.Maps Go.Proofs.YtcjhllpbbbjaiaaW.PrintWords Go.Proofs.YtcjhllpbbbjaiaaW.PrintMore Go.Proofs.Ytcjhllpbbbjaiaa.Cut
set_option maxRecDepth 100000 in
set_option maxHeartbeats 4000000 in
theorem nobody_walk (key time : Int) (w : World) : Calls Try.prog 7 #[.int .i64 key, .int .i64 time] w fun e w' => e = .returned (.bool true) ∧ Below w.heap.size w w' := by
  have hsh := shown_calls w
  go_enter Try.func7, Try.ntmps7
  go_wp2_with (go_at_call 8; refine hsh.mono ?_; rintro e w1 ⟨rfl, hB⟩)
  have HB := Lib.hid hB
  have hput := put_nil key time 1 w1
  simp only [zchg] at hput
  clear hB hsh
  go_wp2_with (first
    | (go_at_call 11; refine (get_nil key time _).mono ?_; rintro e w' ⟨rfl, rfl⟩)
    | (go_at_call 10; refine hput.mono ?_; rintro e w2 ⟨rfl, hg2⟩)
    | (go_at_call 15; refine (do_nil (key, 0, 0, 0, false) _).mono ?_; rintro e w3 ⟨rfl, hg3⟩)
    | (go_at_call 12; refine (start_nil time _).mono ?_; rintro e w' ⟨rfl, rfl⟩)
    | (go_at_call 17; refine (len_nil _).mono ?_; rintro e w' ⟨rfl, rfl⟩)
    | (go_at_call 13; refine (list_nil _).mono ?_; rintro e w' ⟨rfl, rfl⟩)
    | (go_at_call 14; refine (expire_nil time _).mono ?_; rintro e w' ⟨rfl, rfl⟩))
  go_ret
  refine ⟨rfl, ?_⟩
  have b2 := HB.out.grown hg2 HB.out.size (fun j hj => by cases hj)
  have b3 := b2.alloc b2.size (.cells #[.int .i64 0, .int .i64 0, .int .i64 0, .int .i64 0, .bool false] 30)
  exact b3.grown hg3 b3.size (fun j hj => by cases hj)
end Go.Proofs.Ytcjhllpbbbjaiaa.Win
