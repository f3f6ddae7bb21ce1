/- Codes of instructions: the document's Class and Uses. -/
import Derived.Test.YtbchjihecdkfeaaRKnown
import Derived.Test.YtbchjihecdkfeaaRByX
namespace Go.Proofs.Ytbchjihecdkfeaa
open Go.Rd Go.RowKit
set_option linter.unusedVariables false
set_option linter.unusedSimpArgs false

def rLoadL : List Int := [32, 40, 48, 64, 72, 80, 177]
theorem rLoad_spec {w : World} {c : Int} : Run Try.prog 111 #[.int .u16 c] w fun v w' => v = .bool (decide (c ∈ rLoadL)) ∧ w' = w := by
  refine ref2_Load.ok ?_
  by_cases h : c ∈ rLoadL
  · rw [decide_eq_true (h)]
    simp only [rLoadL, List.mem_cons, List.not_mem_nil, or_false] at h
    rcases h with rfl | rfl | rfl | rfl | rfl | rfl | rfl <;> exact ⟨rfl, rfl⟩
  · have h0 := h
    simp only [rLoadL, List.mem_cons, List.not_mem_nil, or_false, not_or] at h
    simp only [ref2_Load.J0, ifP_beq, h, false_imp_iff, true_and, ne_eq, not_false_eq_true, true_imp_iff]
    exact ⟨by rw [decide_eq_false h0], trivial⟩


def rClassOf (c : Int) : Int := if isRKnown c then IntKind.i64.wrap (andI .u16 c 7) else -1
theorem rClass_spec {w : World} {c : Int} : Run Try.prog 56 #[.int .u16 c] w fun v w' => v = .int .i64 (rClassOf c) ∧ w' = w := by
  refine ref2_Class.ok (rKnown_spec.mono ?_)
  rintro v w1 ⟨rfl, rfl⟩
  refine ⟨_, rfl, ifP_not.2 (ifP_of (fun h => ⟨?_, rfl⟩) fun h => ⟨?_, rfl⟩)⟩
  · rw [rClassOf, if_pos (by exact h)]
  · rw [rClassOf, if_neg (by rw [isRKnown, h]; decide)]

def rNoKL : List Int := [128, 129, 132, 22, 7, 135]
def rUsesB (c : Int) : Bool × Bool × Bool :=
  if isRKnown c then (!decide (c ∈ rNoKL) && !rByXB c, decide (c ∈ rJumpL), decide (c ∈ rLoadL) || c == 60 || c == 156) else (false, false, false)

theorem rUses_one {w : World} {c : Int} {k : Bool} (hk : isRKnown c = true) (e : k = (!decide (c ∈ rNoKL) && !rByXB c)) {R : Value → World → Prop}
    (hR : R (.tuple #[.bool (rUsesB c).1, .bool (rUsesB c).2.1, .bool (rUsesB c).2.2]) w) : ref2_Uses.J1 R c k w := by
  rw [rUsesB, if_pos hk, ← e] at hR
  refine rJump_spec.mono ?_
  rintro v w1 ⟨rfl, rfl⟩
  refine ⟨_, rfl, rLoad_spec.mono ?_⟩
  rintro v w2 ⟨rfl, rfl⟩
  refine ⟨_, rfl, ifP_of (fun h => ?_) fun h => ifP_of (fun h2 => ?_) fun h2 => ?_⟩
  · rw [h] at hR; exact hR
  · rw [h, h2] at hR; exact hR
  · rw [h, h2] at hR; exact hR

theorem rUses_spec {w : World} {c : Int} : Run Try.prog 70 #[.int .u16 c] w fun v w' => v = .tuple #[.bool (rUsesB c).1, .bool (rUsesB c).2.1, .bool (rUsesB c).2.2] ∧ w' = w := by
  refine ref2_Uses.ok (rKnown_spec.mono ?_)
  rintro v w1 ⟨rfl, rfl⟩
  refine ⟨_, rfl, ifP_not.2 (ifP_of (fun hk => rByX_spec.mono ?_) fun h => ⟨?_, rfl⟩)⟩
  · rintro v w2 ⟨rfl, rfl⟩
    refine ⟨_, rfl, ?_⟩
    have hk : isRKnown c = true := hk
    by_cases h : c ∈ rNoKL
    · have hx : ∀ (b : Bool), ref2_Uses.J1 (fun v w' => v = .tuple #[.bool (rUsesB c).1, .bool (rUsesB c).2.1, .bool (rUsesB c).2.2] ∧ w' = w2) c false w2 := fun _ => rUses_one hk (by simp [h]) ⟨rfl, rfl⟩
      simp only [rNoKL, List.mem_cons, List.not_mem_nil, or_false] at h
      rcases h with rfl | rfl | rfl | rfl | rfl | rfl <;> exact hx true
    · have hx : ref2_Uses.J1 (fun v w' => v = .tuple #[.bool (rUsesB c).1, .bool (rUsesB c).2.1, .bool (rUsesB c).2.2] ∧ w' = w2) c (!rByXB c) w2 := rUses_one hk (by simp [h]) ⟨rfl, rfl⟩
      simp only [rNoKL, List.mem_cons, List.not_mem_nil, or_false, not_or] at h
      simp only [ref2_Uses.J0, ifP_beq, h, false_imp_iff, true_and, ne_eq, not_false_eq_true, true_imp_iff]
      exact hx
  · rw [rUsesB, if_neg (by rw [isRKnown, h]; decide)]

end Go.Proofs.Ytbchjihecdkfeaa
