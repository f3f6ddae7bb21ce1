/- Bytes. -/
import Derived.Test.YthhfipjmjnfjlaaHBytes
namespace Go.Proofs.Ythhfipjmjnfjlaa
open Go.Rd Go.RowKit
set_option linter.unusedVariables false
set_option linter.unusedSimpArgs false

def isByte (x : Int) : Prop := 0 ≤ x ∧ x ≤ 255
abbrev Bytes (xs : List Int) : Prop := ∀ x ∈ xs, 0 ≤ x ∧ x ≤ 255

end Go.Proofs.Ythhfipjmjnfjlaa
