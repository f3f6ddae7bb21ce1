/- Printed in part by a program: each code that goes straight on, by the table; package vm: play. -/
import Derived.Test.YtllooifbiapeoaaD3
namespace Go.Proofs.Ytllooifbiapeoaa
open Go.Rd Go.RowKit
set_option linter.unusedVariables false
set_option linter.unusedSimpArgs false
set_option maxRecDepth 100000

section
variable {w : World} {b : Nat} {ws : List Int} {P : Option Addr} {pn pc : Nat} {a v : Int} {e : Bool} {pkt : List Int} {i : Ins}
theorem fault_zero (hf : faultOf i = 0) : isKnown i.c = true ∧ (i.c ∈ wordsL → i.k < 16) := by
  unfold faultOf at hf
  split at hf
  · rename_i h
    refine ⟨h, fun hw => ?_⟩
    by_cases h16 : 16 ≤ i.k
    · rw [if_pos ⟨hw, h16⟩] at hf; cases hf
    · omega
  · cases hf
theorem straight (r : Rn w b ws P pn pc a v e pkt i) (hf : faultOf i = 0) (h5 : classOf i.c ≠ 5) (h6 : classOf i.c ≠ 6) : ∃ g, (tabN 10)[i.c.toNat]? = some (fnV g) ∧ (0 ≤ i.c ∧ i.c < 256) ∧ okCall Try.prog g = true ∧ Run Try.prog g (ArgM b i) w (Did w b (stepX pkt i ws) P pn pc a v e) := by
  obtain ⟨hk, hw⟩ := fault_zero hf
  have hk := of_decide_eq_true hk
  rcases List.mem_append.1 hk with hk | hk
  · simp only [knownL, List.mem_cons, List.not_mem_nil, or_false] at hk
    rcases hk with hc | hc | hc | hc | hc | hc | hc | hc | hc | hc | hc | hc | hc | hc | hc | hc | hc | hc | hc | hc
    · exact ⟨63, by rw [hc]; kernel_rfl, by rw [hc]; decide, by kernel_rfl, ldImm_spec r hc⟩
    · exact ⟨72, by rw [hc]; kernel_rfl, by rw [hc]; decide, by kernel_rfl, ldxImm_spec r hc⟩
    · exact ⟨76, by rw [hc]; kernel_rfl, by rw [hc]; decide, by kernel_rfl, st_spec r hc (hw (by rw [hc]; decide))⟩
    · exact ⟨77, by rw [hc]; kernel_rfl, by rw [hc]; decide, by kernel_rfl, stx_spec r hc (hw (by rw [hc]; decide))⟩
    · exact absurd (show classOf i.c = 5 by rw [hc]; rfl) h5
    · exact absurd (show classOf i.c = 6 by rw [hc]; rfl) h6
    · exact ⟨79, by rw [hc]; kernel_rfl, by rw [hc]; decide, by kernel_rfl, tax_spec r hc⟩
    · exact absurd (show classOf i.c = 6 by rw [hc]; rfl) h6
    · exact ⟨64, by rw [hc]; kernel_rfl, by rw [hc]; decide, by kernel_rfl, ldAbsW_spec r hc⟩
    · exact ⟨65, by rw [hc]; kernel_rfl, by rw [hc]; decide, by kernel_rfl, ldAbsH_spec r hc⟩
    · exact ⟨66, by rw [hc]; kernel_rfl, by rw [hc]; decide, by kernel_rfl, ldAbsB_spec r hc⟩
    · exact ⟨67, by rw [hc]; kernel_rfl, by rw [hc]; decide, by kernel_rfl, ldIndW_spec r hc⟩
    · exact ⟨68, by rw [hc]; kernel_rfl, by rw [hc]; decide, by kernel_rfl, ldIndH_spec r hc⟩
    · exact ⟨69, by rw [hc]; kernel_rfl, by rw [hc]; decide, by kernel_rfl, ldIndB_spec r hc⟩
    · exact ⟨70, by rw [hc]; kernel_rfl, by rw [hc]; decide, by kernel_rfl, ldMem_spec r hc (hw (by rw [hc]; decide))⟩
    · exact ⟨73, by rw [hc]; kernel_rfl, by rw [hc]; decide, by kernel_rfl, ldxMem_spec r hc (hw (by rw [hc]; decide))⟩
    · exact ⟨71, by rw [hc]; kernel_rfl, by rw [hc]; decide, by kernel_rfl, ldLen_spec r hc⟩
    · exact ⟨74, by rw [hc]; kernel_rfl, by rw [hc]; decide, by kernel_rfl, ldxLen_spec r hc⟩
    · exact ⟨80, by rw [hc]; kernel_rfl, by rw [hc]; decide, by kernel_rfl, txa_spec r hc⟩
    · exact ⟨75, by rw [hc]; kernel_rfl, by rw [hc]; decide, by kernel_rfl, ldxMsh_spec r hc⟩
  · rcases List.mem_append.1 hk with hk | hk
    · simp only [aluL, List.mem_cons, List.not_mem_nil, or_false] at hk
      rcases hk with hc | hc | hc | hc | hc | hc | hc | hc | hc | hc | hc | hc | hc | hc | hc | hc | hc | hc | hc | hc | hc
      · exact ⟨81, by rw [hc]; kernel_rfl, by rw [hc]; decide, by kernel_rfl, malu_spec r (by unfold stepX; simp only [hc]; rfl)⟩
      · exact ⟨81, by rw [hc]; kernel_rfl, by rw [hc]; decide, by kernel_rfl, malu_spec r (by unfold stepX; simp only [hc]; rfl)⟩
      · exact ⟨81, by rw [hc]; kernel_rfl, by rw [hc]; decide, by kernel_rfl, malu_spec r (by unfold stepX; simp only [hc]; rfl)⟩
      · exact ⟨81, by rw [hc]; kernel_rfl, by rw [hc]; decide, by kernel_rfl, malu_spec r (by unfold stepX; simp only [hc]; rfl)⟩
      · exact ⟨81, by rw [hc]; kernel_rfl, by rw [hc]; decide, by kernel_rfl, malu_spec r (by unfold stepX; simp only [hc]; rfl)⟩
      · exact ⟨81, by rw [hc]; kernel_rfl, by rw [hc]; decide, by kernel_rfl, malu_spec r (by unfold stepX; simp only [hc]; rfl)⟩
      · exact ⟨81, by rw [hc]; kernel_rfl, by rw [hc]; decide, by kernel_rfl, malu_spec r (by unfold stepX; simp only [hc]; rfl)⟩
      · exact ⟨81, by rw [hc]; kernel_rfl, by rw [hc]; decide, by kernel_rfl, malu_spec r (by unfold stepX; simp only [hc]; rfl)⟩
      · exact ⟨81, by rw [hc]; kernel_rfl, by rw [hc]; decide, by kernel_rfl, malu_spec r (by unfold stepX; simp only [hc]; rfl)⟩
      · exact ⟨81, by rw [hc]; kernel_rfl, by rw [hc]; decide, by kernel_rfl, malu_spec r (by unfold stepX; simp only [hc]; rfl)⟩
      · exact ⟨81, by rw [hc]; kernel_rfl, by rw [hc]; decide, by kernel_rfl, malu_spec r (by unfold stepX; simp only [hc]; rfl)⟩
      · exact ⟨81, by rw [hc]; kernel_rfl, by rw [hc]; decide, by kernel_rfl, malu_spec r (by unfold stepX; simp only [hc]; rfl)⟩
      · exact ⟨81, by rw [hc]; kernel_rfl, by rw [hc]; decide, by kernel_rfl, malu_spec r (by unfold stepX; simp only [hc]; rfl)⟩
      · exact ⟨81, by rw [hc]; kernel_rfl, by rw [hc]; decide, by kernel_rfl, malu_spec r (by unfold stepX; simp only [hc]; rfl)⟩
      · exact ⟨81, by rw [hc]; kernel_rfl, by rw [hc]; decide, by kernel_rfl, malu_spec r (by unfold stepX; simp only [hc]; rfl)⟩
      · exact ⟨81, by rw [hc]; kernel_rfl, by rw [hc]; decide, by kernel_rfl, malu_spec r (by unfold stepX; simp only [hc]; rfl)⟩
      · exact ⟨78, by rw [hc]; kernel_rfl, by rw [hc]; decide, by kernel_rfl, neg_spec r hc⟩
      · exact ⟨81, by rw [hc]; kernel_rfl, by rw [hc]; decide, by kernel_rfl, malu_spec r (by unfold stepX; simp only [hc]; rfl)⟩
      · exact ⟨81, by rw [hc]; kernel_rfl, by rw [hc]; decide, by kernel_rfl, malu_spec r (by unfold stepX; simp only [hc]; rfl)⟩
      · exact ⟨81, by rw [hc]; kernel_rfl, by rw [hc]; decide, by kernel_rfl, malu_spec r (by unfold stepX; simp only [hc]; rfl)⟩
      · exact ⟨81, by rw [hc]; kernel_rfl, by rw [hc]; decide, by kernel_rfl, malu_spec r (by unfold stepX; simp only [hc]; rfl)⟩
    · simp only [testL, List.mem_cons, List.not_mem_nil, or_false] at hk
      rcases hk with hc | hc | hc | hc | hc | hc | hc | hc
      · exact absurd (show classOf i.c = 5 by rw [hc]; rfl) h5
      · exact absurd (show classOf i.c = 5 by rw [hc]; rfl) h5
      · exact absurd (show classOf i.c = 5 by rw [hc]; rfl) h5
      · exact absurd (show classOf i.c = 5 by rw [hc]; rfl) h5
      · exact absurd (show classOf i.c = 5 by rw [hc]; rfl) h5
      · exact absurd (show classOf i.c = 5 by rw [hc]; rfl) h5
      · exact absurd (show classOf i.c = 5 by rw [hc]; rfl) h5
      · exact absurd (show classOf i.c = 5 by rw [hc]; rfl) h5
end
end Go.Proofs.Ytllooifbiapeoaa
