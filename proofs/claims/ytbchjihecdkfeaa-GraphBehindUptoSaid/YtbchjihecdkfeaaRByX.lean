/- Codes of instructions: the document's ByX. -/
import Derived.Test.YtbchjihecdkfeaaRJump
namespace Go.Proofs.Ytbchjihecdkfeaa
open Go.Rd Go.RowKit
set_option linter.unusedVariables false
set_option linter.unusedSimpArgs false


def rByXB (c : Int) : Bool := (decide (c ∈ rJumpL) || decide (c ∈ rOperationL)) && andI .u16 c 8 != 0
theorem rByX_spec {w : World} {c : Int} : Run Try.prog 76 #[.int .u16 c] w fun v w' => v = .bool (rByXB c) ∧ w' = w := by
  refine ref2_ByX.ok (rJump_spec.mono ?_)
  rintro v w1 ⟨rfl, rfl⟩
  refine ⟨_, rfl, ifP_of (fun h => ⟨by rw [rByXB, h]; rfl, rfl⟩) fun h => rOperation_spec.mono ?_⟩
  rintro v w2 ⟨rfl, rfl⟩
  refine ⟨_, rfl, ifP_of (fun h2 => ⟨by rw [rByXB, h, h2]; rfl, rfl⟩) fun h2 => ⟨by rw [rByXB, h, h2]; rfl, rfl⟩⟩

end Go.Proofs.Ytbchjihecdkfeaa
