import Derived.Test.YtcjhllpbbbjaiaaWinShown
/- A window's beginning. -/
namespace Go.Proofs.Ytcjhllpbbbjaiaa.Win
open Go.RowKit Go.Maps Go.Proofs.YtcjhllpbbbjaiaaW.PrintWords Go.Proofs.YtcjhllpbbbjaiaaW.PrintMore Go.Proofs.Ytcjhllpbbbjaiaa.Cut
set_option maxRecDepth 100000 in
set_option maxHeartbeats 4000000 in
theorem starts_walk (size time : Int) (h0 : 0 ≤ size) (h1 : size ≤ 4294967295) (w : World) : Calls Try.prog 4 #[.int .u32 size, .int .i64 time] w fun e w' => e = .returned (.bool true) ∧ Below w.heap.size w w' := by
  have hsh := shown_calls w
  have m0 := Int.emod_nonneg size (show (1048576 : Int) ≠ 0 by decide)
  have m1 := Int.emod_lt_of_pos size (show (0 : Int) < 1048576 by decide)
  have HN := fun w => new_calls 1 (1 + size % 1048576) (by omega) w
  by_cases ht : 0 ≤ time ∧ time ≤ 1099511627776
  · obtain ⟨t0, t1⟩ := ht
    have es : startF (1 + size % 1048576) time = time - time % (1 + size % 1048576) := if_neg (by omega)
    have a1 := Int.emod_nonneg time (show 1 + size % 1048576 ≠ 0 by omega)
    have a2 := Int.emod_lt_of_pos time (show 0 < 1 + size % 1048576 by omega)
    have a3 : (time - time % (1 + size % 1048576)) % (1 + size % 1048576) = 0 := Int.emod_eq_zero_of_dvd (Int.dvd_self_sub_emod ..)
    have a4 : 0 ≤ time - time % (1 + size % 1048576) := by
      have e1 := Int.mul_ediv_add_emod time (1 + size % 1048576)
      have e2 : 0 ≤ (1 + size % 1048576) * (time / (1 + size % 1048576)) := Int.mul_nonneg (by omega) (Int.ediv_nonneg (by omega) (by omega))
      omega
    obtain ⟨a, ha⟩ : ∃ a, a = time - time % (1 + size % 1048576) := ⟨_, rfl⟩
    rw [← ha] at es a3 a4
    have a5 : a ≤ time := by omega
    have a6 : time - a < 1 + size % 1048576 := by omega
    have hstart := fun (w : World) (s b : Nat) (h : Own w s 1 (1 + size % 1048576) b []) => start_calls h time
    rw [es] at hstart
    have b1 : (Int.tmod a (1 + size % 1048576) == 0) = true := by rw [Int.tmod_eq_emod_of_nonneg a4, a3]; rfl
    have HST := Lib.hid hstart
    clear es ha a1 a2 hstart
    go_enter Try.func4, Try.ntmps4
    go_wp2_with (first
      | (go_at_call 8; refine hsh.mono ?_; rintro e w1 ⟨rfl, hB⟩; have HB := Lib.hid hB; clear hB)
      | (go_at_call 9; refine (HN _).mono ?_; rintro e w2 ⟨rfl, hO2, hB2⟩; have HO2 := Lib.hid hO2; have HB2 := Lib.hid hB2; clear hO2 hB2)
      | (go_at_call 12; refine (HST.out _ _ _ HO2.out).mono ?_; rintro e w' ⟨rfl, rfl⟩))
    go_ret
    exact ⟨by simp, below_then HB.out HB.out.size HB2.out⟩
  · have es : startF (1 + size % 1048576) time = -1 := if_pos (by omega)
    have hstart := fun (w : World) (s b : Nat) (h : Own w s 1 (1 + size % 1048576) b []) => start_calls h time
    rw [es] at hstart
    have HST := Lib.hid hstart
    clear es hstart
    by_cases ht0 : 0 ≤ time
    all_goals
      try have ht1 : ¬ time ≤ 1099511627776 := fun h => ht ⟨ht0, h⟩
      clear ht
      go_enter Try.func4, Try.ntmps4
      go_wp2_with (first
        | (go_at_call 8; refine hsh.mono ?_; rintro e w1 ⟨rfl, hB⟩; have HB := Lib.hid hB; clear hB)
        | (go_at_call 9; refine (HN _).mono ?_; rintro e w2 ⟨rfl, hO2, hB2⟩; have HO2 := Lib.hid hO2; have HB2 := Lib.hid hB2; clear hO2 hB2)
        | (go_at_call 12; refine (HST.out _ _ _ HO2.out).mono ?_; rintro e w' ⟨rfl, rfl⟩))
      go_ret
      exact ⟨by simp, below_then HB.out HB.out.size HB2.out⟩
end Go.Proofs.Ytcjhllpbbbjaiaa.Win
