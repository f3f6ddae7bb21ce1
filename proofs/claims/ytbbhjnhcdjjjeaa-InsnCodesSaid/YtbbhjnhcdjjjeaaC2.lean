/- The statement over all codes. -/
import Derived.Test.YtbbhjnhcdjjjeaaC1
namespace Go.Proofs.Ytbbhjnhcdjjjeaa
open Go.Rd Go.RowKit
set_option linter.unusedVariables false
set_option linter.unusedSimpArgs false

theorem known_eq (c : Int) : isKnown c = isRKnown c := by
  have h1 : ∀ x ∈ knownL ++ (aluL ++ testL), x ∈ rKnownL ++ (rJumpL ++ rOperationL) := by decide +kernel
  have h2 : ∀ x ∈ rKnownL ++ (rJumpL ++ rOperationL), x ∈ knownL ++ (aluL ++ testL) := by decide +kernel
  unfold isKnown isRKnown
  rw [Bool.eq_iff_iff, decide_eq_true_eq, decide_eq_true_eq]
  exact ⟨h1 c, h2 c⟩
theorem class_eq (c : Int) : classOf c = rClassOf c := by unfold classOf rClassOf; rw [known_eq]
theorem uses_eq (c : Int) : usesB c = rUsesB c := by
  by_cases h : isKnown c = true
  · have h1 : ∀ x ∈ knownL ++ (aluL ++ testL), usesB x = rUsesB x := by decide +kernel
    exact h1 c (of_decide_eq_true h)
  · have h2 := h
    rw [known_eq] at h2
    unfold usesB rUsesB
    rw [if_neg h, if_neg h2]

/-- How many codes below are known. -/
def cnt (i : Nat) : Nat := (List.range (min i 256)).countP fun j : Nat => isKnown (j : Int)
theorem cnt_succ {i : Nat} (h : i < 256) : cnt (i + 1) = cnt i + (if isKnown (i : Int) = true then 1 else 0) := by
  unfold cnt
  rw [Nat.min_eq_left (by omega), Nat.min_eq_left (by omega), List.range_succ, List.countP_append]
  simp [List.countP_cons]
theorem cnt_le (i : Nat) : cnt i ≤ 256 := by
  unfold cnt
  refine Nat.le_trans List.countP_le_length ?_
  simp; omega
theorem cnt_all : cnt 257 = 49 := by decide +kernel

theorem InsnCodes_main {W : World} {code : Int} : Run Try.prog 7 #[.int .u16 code] W (Good W) := by
  have one : ∀ (many i : Int) (c : Int) (w : World), Fr W w → law2_InsnCodes.J1 (Good W) code many i c false w → law2_InsnCodes.J0 (Good W) code many i c w := by
    intro many i c w f h
    refine uses_spec.mono ?_
    rintro v w1 ⟨rfl, rfl⟩
    refine ⟨_, _, _, rfl, rUses_spec.mono ?_⟩
    rintro v w2 ⟨rfl, rfl⟩
    refine ⟨_, _, _, rfl, known_spec.mono ?_⟩
    rintro v w3 ⟨rfl, rfl⟩
    refine ⟨_, rfl, rKnown_spec.mono ?_⟩
    rintro v w4 ⟨rfl, rfl⟩
    have e1 : decide (c ∈ knownL ++ (aluL ++ testL)) = decide (c ∈ rKnownL ++ (rJumpL ++ rOperationL)) := known_eq c
    refine ⟨_, rfl, ifP_f (by rw [e1]; simp) (class_spec.mono ?_)⟩
    rintro v w5 ⟨rfl, rfl⟩
    refine ⟨_, rfl, rClass_spec.mono ?_⟩
    rintro v w6 ⟨rfl, rfl⟩
    refine ⟨_, rfl, ifP_nne (class_eq c) (ifP_f (by rw [uses_eq]; simp) (ifP_f (by rw [uses_eq]; simp) ?_))⟩
    have e2 : (!((usesB c).2.2 == (rUsesB c).2.2)) = false := by rw [uses_eq]; simp
    rw [e2]
    exact h
  have loop : ∀ (d i : Nat) (x : Int), x = i → 257 - i = d → i ≤ 257 → ∀ w, Fr W w → law2_InsnCodes.L0 (Good W) code (cnt i) x w := by
    intro d
    induction d with
    | zero =>
      intro i x hx hd hi w f
      have he : i = 257 := by omega
      have e : ((cnt i : Nat) : Int) = 49 := by rw [he, cnt_all]; rfl
      rw [e]
      refine law2_InsnCodes.L0_step ?_
      unfold law2_InsnCodes.B0
      refine ifP_decide.2 ⟨fun h => absurd h (by omega), fun _ => ?_⟩
      refine ifP_eq rfl ?_
      refine awake_spec.mono ?_
      rintro v w1 ⟨rfl, x1⟩
      exact ⟨_, rfl, rfl, f.ext x1⟩
    | succ d ih =>
      intro i x hx hd hi w f
      have hc := cnt_le i
      refine law2_InsnCodes.L0_step ?_
      unfold law2_InsnCodes.B0
      refine ifP_decide.2 ⟨fun _ => ?_, fun h => absurd (show x < 257 by omega) h⟩
      refine ifP_int (fun he => ?_) fun hne => ?_
      · have h6 : i = 256 := by omega
        have e : cnt i = cnt (i + 1) := by
          unfold cnt
          rw [Nat.min_eq_right (by omega), Nat.min_eq_right (by omega)]
        refine one _ _ _ _ f (ifP_f rfl (ifP_no (by omega) (ifP_f rfl ?_)))
        show law2_InsnCodes.L0 _ _ _ _ _
        rw [wrap_i64 (by omega) (by omega), e]
        exact ih (i + 1) _ (by omega) (by omega) (by omega) w f
      · have hlt : i < 256 := by omega
        have ew : IntKind.u16.wrap x = i := by
          subst hx
          simp [IntKind.wrap, IntKind.signed, IntKind.bits]
          omega
        rw [ew]
        refine one _ _ _ _ f (ifP_f rfl (ifP_yes (by omega) (known_spec.mono ?_)))
        rintro v w1 ⟨rfl, rfl⟩
        refine ⟨_, rfl, ifP_of (fun hk => ?_) fun hk => ?_⟩
        · have hk : isKnown (i : Int) = true := hk
          show law2_InsnCodes.L0 _ _ _ _ _
          rw [wrap_i64 (by omega) (by omega), wrap_i64 (by omega) (by omega)]
          have e : ((cnt i : Nat) : Int) + 1 = ((cnt (i + 1) : Nat) : Int) := by rw [cnt_succ hlt, if_pos hk]; rfl
          rw [e]
          exact ih (i + 1) _ (by omega) (by omega) (by omega) w1 f
        · have hk : isKnown (i : Int) = false := hk
          show law2_InsnCodes.L0 _ _ _ _ _
          rw [wrap_i64 (by omega) (by omega)]
          have e : ((cnt i : Nat) : Int) = ((cnt (i + 1) : Nat) : Int) := by rw [cnt_succ hlt, if_neg (by rw [hk]; decide)]; rfl
          rw [e]
          exact ih (i + 1) _ (by omega) (by omega) (by omega) w1 f
  exact law2_InsnCodes.ok (loop 257 0 0 rfl (by omega) (by omega) W (Fr.refl W))
end Go.Proofs.Ytbbhjnhcdjjjeaa
