/- Codes of instructions: the document's Jump and Operation. -/
import Derived.Test.YtbchjihecdkfeaaV
import Derived.Test.YtbchjihecdkfeaaM4
namespace Go.Proofs.Ytbchjihecdkfeaa
open Go.Rd Go.RowKit
set_option linter.unusedVariables false
set_option linter.unusedSimpArgs false

def rJumpL : List Int := [21, 29, 37, 45, 53, 61, 69, 77]
theorem rJump_spec {w : World} {c : Int} : Run Try.prog 71 #[.int .u16 c] w fun v w' => v = .bool (decide (c ∈ rJumpL)) ∧ w' = w := by
  refine ref2_Jump.ok ?_
  by_cases h : c ∈ rJumpL
  · rw [decide_eq_true (h)]
    simp only [rJumpL, List.mem_cons, List.not_mem_nil, or_false] at h
    rcases h with rfl | rfl | rfl | rfl | rfl | rfl | rfl | rfl <;> exact ⟨rfl, rfl⟩
  · have h0 := h
    simp only [rJumpL, List.mem_cons, List.not_mem_nil, or_false, not_or] at h
    simp only [ref2_Jump.J0, ifP_beq, h, false_imp_iff, true_and, ne_eq, not_false_eq_true, true_imp_iff]
    exact ⟨by rw [decide_eq_false h0], trivial⟩

def rOperationL : List Int := [4, 12, 20, 28, 36, 44, 52, 60, 68, 76, 84, 92, 100, 108, 116, 124, 148, 156, 164, 172]
theorem rOperation_spec {w : World} {c : Int} : Run Try.prog 114 #[.int .u16 c] w fun v w' => v = .bool (decide (c ∈ rOperationL)) ∧ w' = w := by
  refine ref2_Operation.ok ?_
  by_cases h : c ∈ rOperationL
  · rw [decide_eq_true (h)]
    simp only [rOperationL, List.mem_cons, List.not_mem_nil, or_false] at h
    rcases h with rfl | rfl | rfl | rfl | rfl | rfl | rfl | rfl | rfl | rfl | rfl | rfl | rfl | rfl | rfl | rfl | rfl | rfl | rfl | rfl <;> exact ⟨rfl, rfl⟩
  · have h0 := h
    simp only [rOperationL, List.mem_cons, List.not_mem_nil, or_false, not_or] at h
    simp only [ref2_Operation.J0, ref2_Operation.J1, ifP_beq, h, false_imp_iff, true_and, ne_eq, not_false_eq_true, true_imp_iff]
    exact ⟨by rw [decide_eq_false h0], trivial⟩

end Go.Proofs.Ytbchjihecdkfeaa
