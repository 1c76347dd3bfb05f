/-
  Two pairs compared. No condition.
-/
import Derived.Test.YtaadaekpmblpaaaSqF
import Derived.Laws.StructEq
namespace Go.Proofs.Ytaadaekpmblpaaa
open Go.RowKit
set_option linter.unusedVariables false
theorem guard45 : Try.prog.eqGuardType Try.prog.depth 45 = false := by kernel_rfl
theorem equal_pair (w : World) (a b a' b' : Int) : (Op.equalIn 10000 45 (.agg #[.int .i64 a, .int .i64 b]) (.agg #[.int .i64 a', .int .i64 b'])).run Try.prog w = .ok ((a == a') && (b == b')) w := by
  obtain ⟨i0, hi, hz0, hz1, hz2⟩ := info_parts int_info
  rw [show (10000 : Nat) = 9998 + 1 + 1 from rfl, Op.equalIn]
  have h45 := @run_underlying Try.prog 45 _ (w := w) (by kernel_rfl : Try.prog.underlying 45 = some (.array 2 3))
  have h3 := fun x y => run_equalIn_int (P := Try.prog) w 9998 3 .i64 .i64 x y Try.underlying3
  simp [h45, sizeOf, typeInfo, hi, hz1, Std.Legacy.Range.forIn_eq_forIn_range', List.range', part, h3]
  by_cases h1 : a = a' <;> by_cases h2 : b = b' <;> simp [h1, h2]
end Go.Proofs.Ytaadaekpmblpaaa
