/- Codes of instructions: the document's Known. -/
import Derived.Test.YtbchjihecdkfeaaRJump
namespace Go.Proofs.Ytbchjihecdkfeaa
open Go.Rd Go.RowKit
set_option linter.unusedVariables false
set_option linter.unusedSimpArgs false

def rKnownL : List Int := [0, 1, 2, 3, 5, 6, 7, 22, 32, 40, 48, 64, 72, 80, 96, 97, 128, 132, 129, 135, 177]
theorem rKnown_spec {w : World} {c : Int} : Run Try.prog 99 #[.int .u16 c] w fun v w' => v = .bool (decide (c ∈ rKnownL ++ (rJumpL ++ rOperationL))) ∧ w' = w := by
  refine ref2_Known.ok ?_
  by_cases h : c ∈ rKnownL
  · rw [decide_eq_true (by rw [List.mem_append]; exact .inl h)]
    simp only [rKnownL, List.mem_cons, List.not_mem_nil, or_false] at h
    rcases h with rfl | rfl | rfl | rfl | rfl | rfl | rfl | rfl | rfl | rfl | rfl | rfl | rfl | rfl | rfl | rfl | rfl | rfl | rfl | rfl | rfl <;> exact ⟨rfl, rfl⟩
  · have h0 := h
    simp only [rKnownL, List.mem_cons, List.not_mem_nil, or_false, not_or] at h
    simp only [ref2_Known.J0, ref2_Known.J1, ref2_Known.J2, ifP_beq, h, false_imp_iff, true_and, ne_eq, not_false_eq_true, true_imp_iff]
    refine rJump_spec.mono ?_
    rintro v w1 ⟨rfl, rfl⟩
    refine ⟨_, rfl, ifP_of (fun ht => ?_) (fun hf => rOperation_spec.mono ?_)⟩
    · have := of_decide_eq_true ht
      exact ⟨by rw [decide_eq_true (by simp only [List.mem_append]; exact .inr (.inl this))], rfl⟩
    · rintro v w2 ⟨rfl, rfl⟩
      have := of_decide_eq_false hf
      refine ⟨_, rfl, ?_, rfl⟩
      congr 1
      rw [Bool.eq_iff_iff]
      simp only [decide_eq_true_eq, List.mem_append]
      exact ⟨fun h => .inr (.inr h), fun h => h.elim (fun h => absurd h h0) fun h => h.elim (fun h => absurd h this) id⟩


def isRKnown (c : Int) : Bool := decide (c ∈ rKnownL ++ (rJumpL ++ rOperationL))
end Go.Proofs.Ytbchjihecdkfeaa
