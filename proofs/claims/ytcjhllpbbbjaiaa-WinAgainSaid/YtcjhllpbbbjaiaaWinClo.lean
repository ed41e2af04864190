import Derived.Test.YtcjhllpbbbjaiaaWinPut4
import Derived.Deep.RegionWith
import Derived.BigRegion
import Derived.Shelf.SlicesE.Kit
import Derived.Sort.Grow
import Derived.Maps.AppendAt
/- The closure that compares two places. -/
namespace Go.Proofs.Ytcjhllpbbbjaiaa.Win
open Go.RowKit Go.Lib Go.Sort
def cfP (x y : P2) : Int := if ltW x y then -1 else 1
theorem cfP_lt (x y : P2) : cfP x y < 0 ↔ ltW x y := by unfold cfP; split <;> simp_all
set_option maxHeartbeats 4000000 in
theorem clo_calls (x y : P2) (W : World) : Calls Try.prog 21 #[val2 x, val2 y] W fun e w' => e = .returned (.int .i64 (cfP x y)) ∧ ∃ q os', w' = grow (W.drewN q) os' := by
  obtain ⟨x1, x2⟩ := x
  obtain ⟨y1, y2⟩ := y
  unfold val2 mkP
  simp only
  have fin : ∃ q os', (W.alloc (.cells #[.int .i64 x1, .int .i64 x2] 54)).alloc (.cells #[.int .i64 y1, .int .i64 y2] 54) = grow (W.drewN q) os' := ⟨0, _, by rw [alloc_eq_grow, alloc_eq_grow, grow_grow]; rfl⟩
  have F := Lib.hid fin
  clear fin
  by_cases h1 : x1 < y1
  · rw [show cfP (x1, x2) (y1, y2) = -1 from if_pos (Or.inl h1)]
    go_enter Try.func21, Try.ntmps21
    go_wp2
    go_ret
    exact ⟨rfl, F.out⟩
  · have b1 : decide (x1 < y1) = false := decide_eq_false h1
    by_cases h2 : x1 = y1
    · subst h2
      have b2 : (x1 == x1) = true := by simp
      by_cases h3 : x2 < y2
      · rw [show cfP (x1, x2) (x1, y2) = -1 from if_pos (Or.inr ⟨rfl, h3⟩)]
        go_enter Try.func21, Try.ntmps21
        go_wp2
        go_ret
        exact ⟨rfl, F.out⟩
      · have b3 : decide (x2 < y2) = false := decide_eq_false h3
        rw [show cfP (x1, x2) (x1, y2) = 1 from if_neg (by unfold ltW; simp only; omega)]
        go_enter Try.func21, Try.ntmps21
        go_wp2
        go_ret
        exact ⟨rfl, F.out⟩
    · have b2 : (x1 == y1) = false := beq_eq_false_iff_ne.2 h2
      rw [show cfP (x1, x2) (y1, y2) = 1 from if_neg (by unfold ltW; simp only; omega)]
      go_enter Try.func21, Try.ntmps21
      go_wp2
      go_ret
      exact ⟨rfl, F.out⟩
end Go.Proofs.Ytcjhllpbbbjaiaa.Win
