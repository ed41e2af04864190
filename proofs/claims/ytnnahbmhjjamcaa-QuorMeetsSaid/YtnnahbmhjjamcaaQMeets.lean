import Derived.Test.YtnnahbmhjjamcaaQNeed
/- Two quorums meet. -/
namespace Go.Proofs.Ytnnahbmhjjamcaa.Quor
open Go.RowKit Go.Maps Go.Proofs.YtnnahbmhjjamcaaW.PrintWords Go.Proofs.Ytnnahbmhjjamcaa.Cut
set_option maxHeartbeats 4000000 in
theorem meets_walk (n : Int) (h0 : 0 ≤ n) (h1 : n ≤ 65535) (w : World) : Calls Try.prog 3 #[.int .u16 n] w fun e w' => e = .returned (.bool true) ∧ Below w.heap.size w w' := by
  have hsh := shown_calls w
  have hN := need_calls n (by omega)
  obtain ⟨k, hk⟩ : ∃ k, k = needM n := ⟨_, rfl⟩
  rw [← hk] at hN
  have hk2 : (n = 0 ∧ k = 1) ∨ (1 ≤ n ∧ k = n / 2 + 1) := by
    rw [hk]; unfold needM
    by_cases h : n < 1
    · left; rw [if_pos h]; omega
    · right; rw [if_neg h]; omega
  clear hk
  rcases hk2 with ⟨rfl, rfl⟩ | ⟨hn, hk⟩
  · go_enter Try.func3, Try.ntmps3
    go_wp2_with (first
      | (go_at_call 7; refine hsh.mono ?_; rintro e w1 ⟨rfl, hB⟩; have HB := Lib.hid hB; clear hB)
      | (go_at_call 8; refine (hN _).mono ?_; rintro e w' ⟨rfl, rfl⟩))
    go_ret
    exact ⟨rfl, HB.out⟩
  · have a1 : 1 ≤ k := by omega
    have a2 : k ≤ 32768 := by omega
    have a3 : n < 2 * k := by omega
    have a4 : k ≤ n := by omega
    have a5 : 2 * (k - 1) ≤ n := by omega
    have a6 : (n == 0) = false := beq_eq_false_iff_ne.2 (by omega)
    have a7 : IntKind.i64.wrap (2 * k) = 2 * k := IntWalk.i64_in _ (by omega)
    have a8 : IntKind.i64.wrap (k - 1) = k - 1 := IntWalk.i64_in _ (by omega)
    have a9 : IntKind.i64.wrap (2 * (k - 1)) = 2 * (k - 1) := IntWalk.i64_in _ (by omega)
    clear hk
    by_cases h1k : k = 1
    · subst h1k
      go_enter Try.func3, Try.ntmps3
      go_wp2_with (first
        | (go_at_call 7; refine hsh.mono ?_; rintro e w1 ⟨rfl, hB⟩; have HB := Lib.hid hB; clear hB)
        | (go_at_call 8; refine (hN _).mono ?_; rintro e w' ⟨rfl, rfl⟩))
      go_ret
      exact ⟨rfl, HB.out⟩
    · have b1 : (k == 1) = false := beq_eq_false_iff_ne.2 h1k
      clear h1k
      go_enter Try.func3, Try.ntmps3
      go_wp2_with (first
        | (go_at_call 7; refine hsh.mono ?_; rintro e w1 ⟨rfl, hB⟩; have HB := Lib.hid hB; clear hB)
        | (go_at_call 8; refine (hN _).mono ?_; rintro e w' ⟨rfl, rfl⟩))
      go_ret
      exact ⟨by simp, HB.out⟩
end Go.Proofs.Ytnnahbmhjjamcaa.Quor
