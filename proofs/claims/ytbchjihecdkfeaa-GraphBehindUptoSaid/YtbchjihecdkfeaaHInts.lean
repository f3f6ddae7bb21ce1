/- Lists of Ints: alike, copied, lent, spoilt. -/
import Derived.Test.YtbchjihecdkfeaaV
import Derived.Test.YtbchjihecdkfeaaM3
namespace Go.Proofs.Ytbchjihecdkfeaa
open Go.Rd Go.RowKit
set_option linter.unusedVariables false

theorem slInts : SliceOf Try.prog 62 3 1 8 (.int .i64 0) := ⟨by kernel_rfl, by kernel_rfl, rfl, by decide⟩
abbrev IInts (w : World) (A : Option Addr) (n : Nat) (xs : List Int) : Prop := Rd (Value.int .i64) w A n xs
abbrev OInts (w : World) (A : Option Addr) (c : Nat) (xs : List Int) : Prop := Own 3 1 w A c (xs.map (Value.int .i64))
theorem cellsInts (xs : List Int) : (xs.map (Value.int .i64)).all isCell = true := by simp [isCell]

/-- New memory that reads 'xs', and what else stood stands. -/
def NewInts (w w' : World) (v : Value) (n : Nat) (xs : List Int) : Prop :=
  ∃ A c, v = .slice A n c ∧ OInts w' A c xs ∧ xs.length = n ∧ (∀ k, blk A k → w.heap.size ≤ k) ∧ Ext w w'

end Go.Proofs.Ytbchjihecdkfeaa
