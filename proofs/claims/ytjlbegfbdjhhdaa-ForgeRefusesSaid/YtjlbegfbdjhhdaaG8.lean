/- The document's forge: what fits. -/
import Derived.Test.YtjlbegfbdjhhdaaG7
namespace Go.Proofs.Ytjlbegfbdjhhdaa
open Go.Rd Go.RowKit
set_option linter.unusedVariables false
set_option linter.unusedSimpArgs false

theorem rzero_loop {w : World} {a : Addr} {f : Nat → Int} {R : Value → World → Prop} (hc : ∀ i, i < 16 → w.cell? (a.add (i * 1)) = some (.int .u8 (f i))) : ∀ (d i : Nat), 16 - i = d → i ≤ 16 → R (.bool (allZ f (List.range' i d))) w → ref8_zero.L0 R a i w := by
  intro d
  induction d with
  | zero =>
    intro i hd hi hR
    exact ref8_zero.L0_step (ifP_no (by omega) hR)
  | succ d ih =>
    intro i hd hi hR
    refine ref8_zero.L0_step (ifP_yes (by omega) ⟨by omega, by omega, _, by rw [Int.toNat_natCast]; exact hc i (by omega), ifP_bne.2 ⟨fun hne => ?_, fun heq => ?_⟩⟩)
    · have : allZ f (List.range' i (d + 1)) = false := by
        rw [List.range'_succ]; simp [allZ, hne]
      rw [this] at hR; exact hR
    · have e1 : IntKind.i64.wrap ((i : Int) + 1) = ((i + 1 : Nat) : Int) := wrap_i64 (by omega) (by omega)
      rw [e1]
      refine ih (i + 1) (by omega) (by omega) ?_
      have : allZ f (List.range' i (d + 1)) = allZ f (List.range' (i + 1) d) := by
        rw [List.range'_succ]; simp [allZ, heq]
      rw [← this]; exact hR
theorem rzero_spec {w : World} {f : Nat → Int} {i : Nat} (hi : i ≤ 16) : Run Try.prog 41 #[.agg #[.int .u8 (f 0), .int .u8 (f 1), .int .u8 (f 2), .int .u8 (f 3), .int .u8 (f 4), .int .u8 (f 5), .int .u8 (f 6), .int .u8 (f 7), .int .u8 (f 8), .int .u8 (f 9), .int .u8 (f 10), .int .u8 (f 11), .int .u8 (f 12), .int .u8 (f 13), .int .u8 (f 14), .int .u8 (f 15)], .int .i64 (i : Int)] w fun v w' => v = .bool (allZ f (List.range' i (16 - i))) ∧ Ext w w' := by
  refine ref8_zero.ok (letA fun w1 h1 x1 s1 => rzero_loop (f := f) (fun j hj => ?_) _ i rfl hi ⟨rfl, x1⟩)
  rw [newA, add_mk, cell_of h1, Nat.zero_add, Nat.mul_one]
  match j, hj with
  | 0, _ | 1, _ | 2, _ | 3, _ | 4, _ | 5, _ | 6, _ | 7, _ | 8, _ | 9, _ | 10, _ | 11, _ | 12, _ | 13, _ | 14, _ | 15, _ => rfl
  | m + 16, h => exact absurd h (by omega)
theorem rspace_spec {w : World} {k : Lnk} : Run Try.prog 40 #[.agg #[.bool k.ac, .bool k.pf, .int .i64 k.mp]] w fun v w' => v = .int .u32 (seqsN k + 1) ∧ Ext w w' := by
  refine ref8_Space.ok (letA fun w1 h1 x1 s1 => ?_)
  have hk : LAt w1 w.heap.size k := h1
  exact ⟨_, hk.c2, ifP_beq.2 ⟨fun h => ⟨by rw [seqsN, if_pos h]; rfl, x1⟩, fun h => ⟨by rw [seqsN, if_neg h]; rfl, x1⟩⟩⟩
end Go.Proofs.Ytjlbegfbdjhhdaa
