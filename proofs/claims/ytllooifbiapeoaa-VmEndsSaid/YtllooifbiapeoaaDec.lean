/- What Decode makes of bytes. -/
import Derived.Test.YtllooifbiapeoaaWGet
import Derived.Test.YtllooifbiapeoaaHInsns
namespace Go.Proofs.Ytllooifbiapeoaa
open Go.Rd Go.RowKit
set_option linter.unusedVariables false
set_option linter.unusedSimpArgs false

/-- The instruction whose bytes stand from 'at' on. -/
def decAt (xs : List Int) (at_ : Nat) : Ins := ⟨IntKind.u16.wrap (getV xs at_ 2), xs.getD (at_ + 2) 0, xs.getD (at_ + 3) 0, getV xs ((at_ + 4 : Nat) : Int) 4⟩
def decL (xs : List Int) (k : Nat) : List Ins := (List.range k).map fun i => decAt xs (8 * i)
theorem decL_length (xs : List Int) (k : Nat) : (decL xs k).length = k := by simp [decL]
theorem decL_succ (xs : List Int) (k : Nat) : decL xs (k + 1) = decL xs k ++ [decAt xs (8 * k)] := by simp [decL, List.range_succ]

/-- What Decode tells. -/
def DecOf (w : World) (n : Nat) (xs : List Int) (v : Value) (w' : World) : Prop :=
  if n % 8 ≠ 0 then v = .tuple #[.slice none 0 0, .int .i64 20] ∧ w' = w
  else if 32768 < n then v = .tuple #[.slice none 0 0, .int .i64 21] ∧ w' = w
  else ∃ A c, v = .tuple #[.slice A (n / 8) c, .int .i64 0] ∧ OInsns w' A c (decL xs (n / 8)) ∧ (∀ k, blk A k → w.heap.size ≤ k) ∧ Ext w w'
end Go.Proofs.Ytllooifbiapeoaa
