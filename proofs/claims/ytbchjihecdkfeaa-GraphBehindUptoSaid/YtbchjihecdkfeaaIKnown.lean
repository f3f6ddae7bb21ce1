/- Codes of instructions: which are known, and their classes. -/
import Derived.Test.YtbchjihecdkfeaaV
import Derived.Test.YtbchjihecdkfeaaM4
namespace Go.Proofs.Ytbchjihecdkfeaa
open Go.Rd Go.RowKit
set_option linter.unusedVariables false
set_option linter.unusedSimpArgs false

def aluL : List Int := [4, 12, 20, 28, 36, 44, 52, 60, 68, 76, 84, 92, 100, 108, 116, 124, 132, 148, 156, 164, 172]
theorem alu_spec {w : World} {c : Int} : Run Try.prog 124 #[.int .u16 c] w fun v w' => v = .bool (decide (c ∈ aluL)) ∧ w' = w := by
  refine insn_alu.ok ?_
  by_cases h : c ∈ aluL
  · rw [decide_eq_true (h)]
    simp only [aluL, List.mem_cons, List.not_mem_nil, or_false] at h
    rcases h with rfl | rfl | rfl | rfl | rfl | rfl | rfl | rfl | rfl | rfl | rfl | rfl | rfl | rfl | rfl | rfl | rfl | rfl | rfl | rfl | rfl <;> exact ⟨rfl, rfl⟩
  · have h0 := h
    simp only [aluL, List.mem_cons, List.not_mem_nil, or_false, not_or] at h
    simp only [insn_alu.J0, insn_alu.J1, insn_alu.J2, ifP_beq, h, false_imp_iff, true_and, ne_eq, not_false_eq_true, true_imp_iff]
    exact ⟨by rw [decide_eq_false h0], trivial⟩

def testL : List Int := [21, 29, 37, 45, 53, 61, 69, 77]
theorem test_spec {w : World} {c : Int} : Run Try.prog 122 #[.int .u16 c] w fun v w' => v = .bool (decide (c ∈ testL)) ∧ w' = w := by
  refine insn_test.ok ?_
  by_cases h : c ∈ testL
  · rw [decide_eq_true (h)]
    simp only [testL, List.mem_cons, List.not_mem_nil, or_false] at h
    rcases h with rfl | rfl | rfl | rfl | rfl | rfl | rfl | rfl <;> exact ⟨rfl, rfl⟩
  · have h0 := h
    simp only [testL, List.mem_cons, List.not_mem_nil, or_false, not_or] at h
    simp only [insn_test.J0, insn_test.J1, insn_test.J2, ifP_beq, h, false_imp_iff, true_and, ne_eq, not_false_eq_true, true_imp_iff]
    exact ⟨by rw [decide_eq_false h0], trivial⟩

def knownL : List Int := [0, 1, 2, 3, 5, 6, 7, 22, 32, 40, 48, 64, 72, 80, 96, 97, 128, 129, 135, 177]
theorem known_spec {w : World} {c : Int} : Run Try.prog 103 #[.int .u16 c] w fun v w' => v = .bool (decide (c ∈ knownL ++ (aluL ++ testL))) ∧ w' = w := by
  refine insn_Known.ok ?_
  by_cases h : c ∈ knownL
  · rw [decide_eq_true (by rw [List.mem_append]; exact .inl h)]
    simp only [knownL, List.mem_cons, List.not_mem_nil, or_false] at h
    rcases h with rfl | rfl | rfl | rfl | rfl | rfl | rfl | rfl | rfl | rfl | rfl | rfl | rfl | rfl | rfl | rfl | rfl | rfl | rfl | rfl <;> exact ⟨rfl, rfl⟩
  · have h0 := h
    simp only [knownL, List.mem_cons, List.not_mem_nil, or_false, not_or] at h
    simp only [insn_Known.J0, insn_Known.J1, insn_Known.J2, insn_Known.J3, insn_Known.J4, ifP_beq, h, false_imp_iff, true_and, ne_eq, not_false_eq_true, true_imp_iff]
    refine alu_spec.mono ?_
    rintro v w1 ⟨rfl, rfl⟩
    refine ⟨_, rfl, ifP_of (fun ht => ?_) (fun hf => test_spec.mono ?_)⟩
    · have := of_decide_eq_true ht
      exact ⟨by rw [decide_eq_true (by simp only [List.mem_append]; exact .inr (.inl this))], rfl⟩
    · rintro v w2 ⟨rfl, rfl⟩
      have := of_decide_eq_false hf
      refine ⟨_, rfl, ?_, rfl⟩
      congr 1
      rw [Bool.eq_iff_iff]
      simp only [decide_eq_true_eq, List.mem_append]
      exact ⟨fun h => .inr (.inr h), fun h => h.elim (fun h => absurd h h0) fun h => h.elim (fun h => absurd h this) id⟩


/-- Is it a known code? -/
def isKnown (c : Int) : Bool := decide (c ∈ knownL ++ (aluL ++ testL))
/-- A code's class. -/
def classOf (c : Int) : Int := if isKnown c then IntKind.i64.wrap (andI .u16 c 7) else -1

theorem class_spec {w : World} {c : Int} : Run Try.prog 64 #[.int .u16 c] w fun v w' => v = .int .i64 (classOf c) ∧ w' = w := by
  refine insn_Class.ok (known_spec.mono ?_)
  rintro v w1 ⟨rfl, rfl⟩
  refine ⟨_, rfl, ifP_not.2 (ifP_of (fun h => ⟨?_, rfl⟩) fun h => ⟨?_, rfl⟩)⟩
  · rw [classOf, if_pos (by exact h)]
  · rw [classOf, if_neg (by rw [isKnown, h]; decide)]

end Go.Proofs.Ytbchjihecdkfeaa
