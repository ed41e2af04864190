import Derived.Test.YtdfpcldoakbehaaPackFrom
import Derived.Laws.StructEq
/- '!=' of two arrays of four bytes (after the worked text Cov2Walks). -/
namespace Go.Proofs.Ytdfpcldoakbehaa.Crc
open Go.RowKit
theorem eq_four (a b c d a' b' c' d' : Int) (W : World) : (Op.equalIn 10000 102 (.agg #[.int .u8 a, .int .u8 b, .int .u8 c, .int .u8 d]) (.agg #[.int .u8 a', .int .u8 b', .int .u8 c', .int .u8 d'])).run Try.prog W = .ok (a == a' && (b == b' && (c == c' && d == d'))) W := by
  have u3 := Try.underlying5
  have a3 := Try.isAgg5
  have z3 := Try.sizeOf5
  rw [show (10000 : Nat) = 9999 + 1 from rfl, Op.equalIn]
  simp only [Sem.run_bind, run_underlying Try.underlying102, Result.andThen_ok]
  simp only [Std.Legacy.Range.forIn_eq_forIn_range', Std.Legacy.Range.size, Nat.sub_zero, Nat.add_sub_cancel, Nat.div_one, List.range'_succ, List.range'_zero, List.forIn_cons, List.forIn_nil]
  go_simp
  by_cases h1 : a = a' <;> by_cases h2 : b = b' <;> by_cases h3 : c = c' <;> by_cases h4 : d = d' <;> simp [h1, h2, h3, h4]
end Go.Proofs.Ytdfpcldoakbehaa.Crc
