import Derived.Test.YtnnahbmhjjamcaaQBest
import Derived.Shelf.SlicesE.Kit
import Derived.Sort.Grow
import Derived.Lib.Hide
/- The closure that compares two cells by their slots. -/
namespace Go.Proofs.Ytnnahbmhjjamcaa.Quor
open Go.RowKit Go.Lib Go.Sort
def cf4 (x y : C4) : Int := if x.at_ < y.at_ then -1 else 1
theorem cf4_lt (x y : C4) : cf4 x y < 0 ↔ x.at_ < y.at_ := by unfold cf4; split <;> simp_all
set_option maxHeartbeats 1000000 in
theorem clo_calls (x y : C4) (W : World) : Calls Try.prog 21 #[.agg #[.int .i64 x.at_, .int .i64 x.ep, .slice x.A x.by_.length x.c], .agg #[.int .i64 y.at_, .int .i64 y.ep, .slice y.A y.by_.length y.c]] W fun e w' => e = .returned (.int .i64 (cf4 x y)) ∧ ∃ q os', w' = grow (W.drewN q) os' := by
  obtain ⟨x1, x2, x3, x4, x5⟩ := x
  obtain ⟨y1, y2, y3, y4, y5⟩ := y
  simp only
  have fin : ∃ q os', (W.alloc (.cells #[.int .i64 x1, .int .i64 x2, .slice x4 x3.length x5] 28)).alloc (.cells #[.int .i64 y1, .int .i64 y2, .slice y4 y3.length y5] 28) = grow (W.drewN q) os' := ⟨0, _, by rw [alloc_eq_grow, alloc_eq_grow, grow_grow]; rfl⟩
  have F := Lib.hid fin
  clear fin
  by_cases h1 : x1 < y1
  · rw [show cf4 ⟨x1, x2, x3, x4, x5⟩ ⟨y1, y2, y3, y4, y5⟩ = -1 from if_pos h1]
    go_enter Try.func21, Try.ntmps21
    go_wp2
    go_ret
    exact ⟨rfl, F.out⟩
  · rw [show cf4 ⟨x1, x2, x3, x4, x5⟩ ⟨y1, y2, y3, y4, y5⟩ = 1 from if_neg h1]
    go_enter Try.func21, Try.ntmps21
    go_wp2
    go_ret
    exact ⟨rfl, F.out⟩
end Go.Proofs.Ytnnahbmhjjamcaa.Quor
