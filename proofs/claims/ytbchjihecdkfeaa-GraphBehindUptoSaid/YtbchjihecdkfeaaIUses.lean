/- Codes of instructions: what each looks at. -/
import Derived.Test.YtbchjihecdkfeaaIKnown
namespace Go.Proofs.Ytbchjihecdkfeaa
open Go.Rd Go.RowKit
set_option linter.unusedVariables false
set_option linter.unusedSimpArgs false

def mayFaultL : List Int := [32, 40, 48, 60, 64, 72, 80, 156, 177]
theorem mayFault_spec {w : World} {c : Int} : Run Try.prog 123 #[.int .u16 c] w fun v w' => v = .bool (decide (c ∈ mayFaultL)) ∧ w' = w := by
  refine insn_mayFault.ok ?_
  by_cases h : c ∈ mayFaultL
  · rw [decide_eq_true (h)]
    simp only [mayFaultL, List.mem_cons, List.not_mem_nil, or_false] at h
    rcases h with rfl | rfl | rfl | rfl | rfl | rfl | rfl | rfl | rfl <;> exact ⟨rfl, rfl⟩
  · have h0 := h
    simp only [mayFaultL, List.mem_cons, List.not_mem_nil, or_false, not_or] at h
    simp only [insn_mayFault.J0, ifP_beq, h, false_imp_iff, true_and, ne_eq, not_false_eq_true, true_imp_iff]
    exact ⟨by rw [decide_eq_false h0], trivial⟩


def noKL : List Int := [128, 129, 132, 22, 7, 135]
def looksB (c : Int) : Bool := !decide (c ∈ noKL) && (!decide (c ∈ aluL) && !decide (c ∈ testL) || andI .u16 c 8 == 0)
theorem looksAtK_spec {w : World} {c : Int} : Run Try.prog 121 #[.int .u16 c] w fun v w' => v = .bool (looksB c) ∧ w' = w := by
  refine insn_looksAtK.ok ?_
  by_cases h : c ∈ noKL
  · have e : looksB c = false := by simp [looksB, h]
    rw [e]
    simp only [noKL, List.mem_cons, List.not_mem_nil, or_false] at h
    rcases h with rfl | rfl | rfl | rfl | rfl | rfl <;> exact ⟨rfl, rfl⟩
  · have h0 := h
    simp only [noKL, List.mem_cons, List.not_mem_nil, or_false, not_or] at h
    simp only [insn_looksAtK.J0, insn_looksAtK.J1, ifP_beq, h, false_imp_iff, true_and, ne_eq, not_false_eq_true, true_imp_iff]
    refine alu_spec.mono ?_
    rintro v w1 ⟨rfl, rfl⟩
    refine ⟨_, rfl, ifP_not.2 (ifP_of (fun ha => ⟨?_, rfl⟩) fun ha => test_spec.mono ?_)⟩
    · simp [looksB, h0, ha]
    · rintro v w2 ⟨rfl, rfl⟩
      refine ⟨_, rfl, ifP_not.2 (ifP_of (fun hb => ⟨?_, rfl⟩) fun hb => ⟨?_, rfl⟩)⟩
      · simp [looksB, h0, ha, hb]
      · have ha := of_decide_eq_false ha
        have hb := of_decide_eq_false hb
        simp [looksB, h0, ha, hb]

def usesB (c : Int) : Bool × Bool × Bool := if isKnown c then (looksB c, decide (c ∈ testL), decide (c ∈ mayFaultL)) else (false, false, false)
theorem uses_spec {w : World} {c : Int} : Run Try.prog 100 #[.int .u16 c] w fun v w' => v = .tuple #[.bool (usesB c).1, .bool (usesB c).2.1, .bool (usesB c).2.2] ∧ w' = w := by
  refine insn_Uses.ok (known_spec.mono ?_)
  rintro v w1 ⟨rfl, rfl⟩
  refine ⟨_, rfl, ifP_not.2 (ifP_of (fun h => looksAtK_spec.mono ?_) fun h => ⟨?_, rfl⟩)⟩
  · rintro v w2 ⟨rfl, rfl⟩
    refine ⟨_, rfl, test_spec.mono ?_⟩
    rintro v w3 ⟨rfl, rfl⟩
    refine ⟨_, rfl, mayFault_spec.mono ?_⟩
    rintro v w4 ⟨rfl, rfl⟩
    refine ⟨_, rfl, ?_, rfl⟩
    rw [usesB, if_pos (by exact h)]
  · rw [usesB, if_neg (by rw [isKnown, h]; decide)]

end Go.Proofs.Ytbchjihecdkfeaa
