/- Lists of Bools: alike, copied, lent, spoilt. -/
import Derived.Test.YtllooifbiapeoaaV
import Derived.Test.YtllooifbiapeoaaM3
namespace Go.Proofs.Ytllooifbiapeoaa
open Go.Rd Go.RowKit
set_option linter.unusedVariables false

theorem slBools : SliceOf Try.prog 54 4 1 1 (.bool false) := ⟨by kernel_rfl, by kernel_rfl, rfl, by decide⟩
abbrev IBools (w : World) (A : Option Addr) (n : Nat) (xs : List Bool) : Prop := Rd Value.bool w A n xs
abbrev OBools (w : World) (A : Option Addr) (c : Nat) (xs : List Bool) : Prop := Own 4 1 w A c (xs.map Value.bool)
theorem cellsBools (xs : List Bool) : (xs.map Value.bool).all isCell = true := by simp [isCell]

/-- New memory that reads 'xs', and what else stood stands. -/
def NewBools (w w' : World) (v : Value) (n : Nat) (xs : List Bool) : Prop :=
  ∃ A c, v = .slice A n c ∧ OBools w' A c xs ∧ xs.length = n ∧ (∀ k, blk A k → w.heap.size ≤ k) ∧ Ext w w'

end Go.Proofs.Ytllooifbiapeoaa
