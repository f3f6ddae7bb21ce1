/- The statements' own Low: a number that is not below 0. -/
import Derived.Test.YthhfipjmjnfjlaaV
import Derived.Test.YthhfipjmjnfjlaaM5
namespace Go.Proofs.Ythhfipjmjnfjlaa
open Go.Rd Go.RowKit
set_option linter.unusedVariables false
set_option linter.unusedSimpArgs false

def lowV (x : Int) : Int := x % 9223372036854775808
theorem lowV_ge (x : Int) : 0 ≤ lowV x := by unfold lowV; omega
theorem lowV_le (x : Int) : lowV x ≤ 9223372036854775807 := by unfold lowV; omega
theorem low_spec {w : World} {x : Int} : Run Try.prog 14 #[.int .i64 x] w fun v w' => v = .int .i64 (lowV x) ∧ w' = w := by
  have e : andI .i64 x 9223372036854775807 = x % 9223372036854775808 := andI_i64 63 (by omega)
  refine law0_Low.ok ⟨?_, rfl⟩
  rw [e]
  rfl
end Go.Proofs.Ythhfipjmjnfjlaa
