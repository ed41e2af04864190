import Derived.Test.YtfccepkpbnalmaaChgMap
import Derived.WalkKit
import Derived.BigQuiet
import Derived.Deep.QuietTactic
import Derived.Deep.RegionHeld3
import Derived.Shelf.SlicesG.Cmp
/- The comparison of changes: three numbers, one behind the other. -/
namespace Go.Proofs.Ytfccepkpbnalmaa.Chg
def cmpI (a b : Int) : Int := if a < b then -1 else if b < a then 1 else 0
def orI (a b c : Int) : Int := if a = 0 then if b = 0 then c else b else a
def cfC (x y : T5) : Int := orI (cmpI x.1 y.1) (cmpI x.2.1 y.2.1) (cmpI x.2.2.1 y.2.2.1)
theorem cfC_lt (x y : T5) : cfC x y < 0 ↔ ltQ (kp x) (kp y) := by
  unfold cfC orI cmpI ltQ kp
  simp only
  repeat' split
  all_goals omega
set_option maxHeartbeats 1000000 in
theorem nan_calls (a : Int) (w : World) : Calls Try.prog 57 #[.int .i64 a] w fun e w' => e = .returned (.bool false) ∧ w' = w := by
  go_enter Try.func57, Try.ntmps57
  go_wp2
  go_ret
  simp
set_option maxHeartbeats 1000000 in
theorem compare_calls (a b : Int) (w : World) : Calls Try.prog 31 #[.int .i64 a, .int .i64 b] w fun e w' => e = .returned (.int .i64 (cmpI a b)) ∧ w' = w := by
  have hn := fun a => nan_calls a w
  unfold cmpI
  go_enter Try.func31, Try.ntmps31
  by_cases h1 : a < b
  · rw [if_pos h1]
    go_wp2_with (go_at_call 57; refine (hn _).mono ?_; rintro e w' ⟨rfl, rfl⟩)
    go_ret
    simp
  · rw [if_neg h1]
    by_cases h2 : b < a
    · rw [if_pos h2]
      go_wp2_with (go_at_call 57; refine (hn _).mono ?_; rintro e w' ⟨rfl, rfl⟩)
      go_ret
      simp
    · rw [if_neg h2]
      go_wp2_with (go_at_call 57; refine (hn _).mono ?_; rintro e w' ⟨rfl, rfl⟩)
      go_ret
      simp
set_option maxHeartbeats 1000000 in
theorem or_calls (a b c : Int) (n : Nat) (w : World) (h0 : w.cell? ⟨n, 0, none⟩ = some (.int .i64 a)) (h1 : w.cell? ⟨n, 1, none⟩ = some (.int .i64 b)) (h2 : w.cell? ⟨n, 2, none⟩ = some (.int .i64 c)) :
    Calls Try.prog 30 #[.slice (some ⟨n, 0, none⟩) 3 3] w fun e w' => e = .returned (.int .i64 (orI a b c)) ∧ w' = w := by
  unfold orI
  go_enter Try.func30, Try.ntmps30
  by_cases ha : a = 0
  · rw [if_pos ha]
    by_cases hb : b = 0
    · rw [if_pos hb]
      by_cases hc : c = 0
      · go_wp2
        refine wp_loop_rounds 4 ?_
        repeat (rw [rounds_succ]; go_wp2)
        go_ret
        simp [hc]
      · go_wp2
        refine wp_loop_rounds 3 ?_
        repeat (rw [rounds_succ]; go_wp2)
        go_ret
        simp
    · rw [if_neg hb]
      go_wp2
      refine wp_loop_rounds 2 ?_
      repeat (rw [rounds_succ]; go_wp2)
      go_ret
      simp
  · rw [if_neg ha]
    go_wp2
    refine wp_loop_rounds 1 ?_
    repeat (rw [rounds_succ]; go_wp2)
    go_ret
    simp
end Go.Proofs.Ytfccepkpbnalmaa.Chg
