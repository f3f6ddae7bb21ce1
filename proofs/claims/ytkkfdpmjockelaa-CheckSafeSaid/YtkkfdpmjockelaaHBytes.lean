/- Lists of Bytes: alike, copied, lent, spoilt. -/
import Derived.Test.YtkkfdpmjockelaaV
import Derived.Test.YtkkfdpmjockelaaM3
namespace Go.Proofs.Ytkkfdpmjockelaa
open Go.Rd Go.RowKit
set_option linter.unusedVariables false

theorem slBytes : SliceOf Try.prog 44 5 1 1 (.int .u8 0) := ⟨by kernel_rfl, by kernel_rfl, rfl, by decide⟩
abbrev IBytes (w : World) (A : Option Addr) (n : Nat) (xs : List Int) : Prop := Rd (Value.int .u8) w A n xs
abbrev OBytes (w : World) (A : Option Addr) (c : Nat) (xs : List Int) : Prop := Own 5 1 w A c (xs.map (Value.int .u8))
theorem cellsBytes (xs : List Int) : (xs.map (Value.int .u8)).all isCell = true := by simp [isCell]

/-- New memory that reads 'xs', and what else stood stands. -/
def NewBytes (w w' : World) (v : Value) (n : Nat) (xs : List Int) : Prop :=
  ∃ A c, v = .slice A n c ∧ OBytes w' A c xs ∧ xs.length = n ∧ (∀ k, blk A k → w.heap.size ≤ k) ∧ Ext w w'

theorem copyBytes_spec {w : World} {A : Option Addr} {n c : Nat} {xs : List Int} (hx : IBytes w A n xs) (hn : n * 1 ≤ 140737488355328) :
    Run Try.prog 24 #[.slice A n c] w fun v w' => NewBytes w w' v n xs := by
  refine law0_CopyBytes.ok (letA fun w1 h1 x1 s1 => ?_)
  have hO : Own 5 1 w1 (some (newA w)) 0 [] := .inr ⟨_, [], rfl, h1, rfl⟩
  obtain ⟨A', c', w2, hr, hO', hc', hk, hb⟩ := append_own slBytes (ty := 44) (n := 0) (d := c) hO rfl (hx.cells.ext x1) (m := n) (by simp [hx.len]) (cellsBytes xs) (by omega) (by omega)
  refine ⟨_, w2, hr, _, _, _, rfl, A', c', by simp, by simpa using hO', hx.len, ?_, ?_⟩
  · intro k hk'
    rcases hb k hk' with h | h
    · rw [blk_some.1 h]; exact Nat.le_refl _
    · omega
  · exact x1.fresh hk fun k h => by rw [blk_some.1 h]; exact Nat.le_refl _

end Go.Proofs.Ytkkfdpmjockelaa
