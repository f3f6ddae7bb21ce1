/- The statement's lend. -/
import Derived.Test.YtjlbegfbdjhhdaaG13
namespace Go.Proofs.Ytjlbegfbdjhhdaa
open Go.Rd Go.RowKit
set_option linter.unusedVariables false
set_option linter.unusedSimpArgs false

def lentS (s : Sp) (A : Option Addr) (c : Nat) : Sp := { s with dA := A, dc := c }
theorem lend_spec {W : World} {s : Sp} {xs : List Int} (hd : IBytes W s.dA s.dn xs) (hb : s.dn ≤ 140737488351232) : Run Try.prog 9 #[s.v] W fun v w' => ∃ A c, v = (lentS s A c).v ∧ OBytes w' A c (xs ++ [201, 201, 201]) ∧ (∀ k, blk A k → W.heap.size ≤ k) ∧ Ext W w' := by
  refine law8_lend.ok (letA fun w1 h1 x1 s1 => letA fun w2 h2 x2 s2 => ?_)
  have x02 := x1.trans x2
  have hs2 : SAt w2 W.heap.size s := x2.heap h1
  refine ⟨_, _, _, hs2.at_ 43 rfl, (lendBytes_spec (hd.ext x02) (by omega)).mono ?_⟩
  rintro v w3 ⟨A, c, rfl, o3, b3, x3⟩
  have hs3 := hs2.ext x3
  have L3 := o3.lt
  refine ⟨_, _, _, rfl, cell_put hs3 (i := 43) (by show 43 < 44; decide) (by rw [newA, add_mk]) fun w4 h4 k4 => ?_⟩
  have hs4 : SAt w4 W.heap.size (lentS s A c) := h4
  have hz4 : w4.heap[w1.heap.size]? = some (.cells sp0.row.toArray 28 (0, 0)) := k4.heap (x3.heap h2) (by omega)
  have o4 := o3.keep k4 fun k hk hk2 => by have := b3 k hk; have := x02.size; omega
  refine hs4.rd (SAt.put (s := lentS s A c) hz4 fun w5 hs5 k5 => hs5.rd ⟨A, c, rfl, o4.keep k5 fun k hk hk2 => by have := b3 k hk; omega, fun k hk => by have := b3 k hk; have := x02.size; omega, ?_⟩)
  exact ((x02.trans x3).fresh k4 fun i hi => by rw [hi]; exact Nat.le_refl _).fresh k5 fun i hi => by rw [hi]; omega
end Go.Proofs.Ytjlbegfbdjhhdaa
