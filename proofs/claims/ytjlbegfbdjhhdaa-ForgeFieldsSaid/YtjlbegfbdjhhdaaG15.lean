/- The statement's lend. -/
import Derived.Test.YtjlbegfbdjhhdaaG13
namespace Go.Proofs.Ytjlbegfbdjhhdaa
open Go.Rd Go.RowKit
set_option linter.unusedVariables false
set_option linter.unusedSimpArgs false

def lentS (s : Sp) (A : Option Addr) (c : Nat) : Sp := { s with dA := A, dc := c }
theorem lend_spec {W : World} {s : Sp} {xs : List Int} (hd : IBytes W s.dA s.dn xs) (hb : s.dn ≤ 140737488351232) : Run Try.prog 9 #[s.v] W fun v w' => ∃ A c, v = (lentS s A c).v ∧ OBytes w' A c (xs ++ [201, 201, 201]) ∧ (∀ k, blk A k → W.heap.size ≤ k) ∧ Ext W w' := by
  refine law8_lend.ok (letA fun w1 h1 x1 s1 => letA fun w2 h2 x2 s2 => ?_)
  have x02 := x1.trans x2
  have hs2 : SAt w2 W.heap.size s := x2.heap h1
  refine ⟨_, _, _, hs2.at_ 43 rfl, (lendBytes_spec (hd.ext x02) (by omega)).mono ?_⟩
  rintro v w3 ⟨A, c, rfl, o3, b3, x3⟩
  have hs3 := hs2.ext x3
  have L3 := o3.lt
  refine ⟨_, _, _, rfl, cell_put hs3 (i := 43) (by show 43 < 44; decide) (by rw [newA, add_mk]) fun w4 h4 k4 => ?_⟩
  have hs4 : SAt w4 W.heap.size (lentS s A c) := h4
  have hz4 : w4.heap[w1.heap.size]? = some (.cells sp0.row.toArray 28 (0, 0)) := k4.heap (x3.heap h2) (by omega)
  have o4 := o3.keep k4 fun k hk hk2 => by have := b3 k hk; have := x02.size; omega
  refine hs4.rd (SAt.put (s := lentS s A c) hz4 fun w5 hs5 k5 => hs5.rd ⟨A, c, rfl, o4.keep k5 fun k hk hk2 => by have := b3 k hk; omega, fun k hk => by have := b3 k hk; have := x02.size; omega, ?_⟩)
  exact ((x02.trans x3).fresh k4 fun i hi => by rw [hi]; exact Nat.le_refl _).fresh k5 fun i hi => by rw [hi]; omega
end Go.Proofs.Ytjlbegfbdjhhdaa

namespace Go.Proofs.Ytjlbegfbdjhhdaa
open Go.Rd Go.RowKit
set_option linter.unusedVariables false
set_option linter.unusedSimpArgs false

def Good (W : World) (v : Value) (w' : World) : Prop := v = .bool true ∧ Fr W w'
def spA (A : Option Addr) : Sp := { sp0 with wd := true, pr := 49185, dA := A, dn := 1, dc := 1 }
def spB : Sp := { sp0 with pr := 49185 }
theorem awake_a (A : Option Addr) : makeX ⟨false, false, 0⟩ (spA A) [1] = .ok [255, 3, 192, 33, 1] := by kernel_rfl
theorem awake_b : makeX ⟨false, false, 0⟩ spB [] = .error 80 := by kernel_rfl
theorem gawake_spec {w : World} : Run Try.prog 14 #[] w fun v w' => v = .bool true ∧ Ext w w' := by
  refine law8_awake.ok (letA fun w1 h1 x1 s1 => ?_)
  have i1 : IBytes w1 (some (newA w)) 1 [1] := lit_rd (f := Value.int .u8) (xs := [1]) h1 rfl
  refine (make_spec (k := ⟨false, false, 0⟩) (s := spA (some (newA w))) i1 (by show 1 ≤ 140737488351232; decide) (by show (0 : Int) ≤ 49185; decide) (by show (49185 : Int) ≤ 4294967295; decide)).mono ?_
  intro v w2 hv
  rw [awake_a] at hv
  obtain ⟨A2, c2, rfl, o2, b2, x2⟩ := hv
  refine ⟨_, _, _, _, rfl, (make_spec (k := ⟨false, false, 0⟩) (s := spB) (xs := []) Rd.nil (by decide) (by decide) (by decide)).mono ?_⟩
  intro v w3 hv
  rw [awake_b] at hv
  obtain ⟨rfl, x3⟩ := hv
  refine ⟨_, _, _, _, rfl, ifP_t rfl (letA fun w4 h4 x4 s4 => ?_)⟩
  have i4 : IBytes w4 (some (newA w3)) 5 [255, 3, 192, 33, 1] := lit_rd (f := Value.int .u8) (xs := [255, 3, 192, 33, 1]) h4 rfl
  refine (sameBytes_spec (((o2.ext x3).ext x4).rd rfl) i4 (by decide)).mono ?_
  rintro v w5 ⟨rfl, x5⟩
  exact ⟨_, rfl, ifP_t rfl ⟨rfl, (((x1.trans x2).trans x3).trans x4).trans x5⟩⟩

def ysR : Except Int (List Int) → List Int
  | .ok ys => ys
  | .error _ => []
def erR : Except Int (List Int) → Int
  | .ok _ => 0
  | .error e => e
theorem MakeOf.form {W w' : World} {r : Except Int (List Int)} {v : Value} (h : MakeOf W r v w') : ∃ A c, v = .tuple #[.slice A (ysR r).length c, .int .i64 (erR r)] ∧ OBytes w' A c (ysR r) ∧ (∀ k, blk A k → W.heap.size ≤ k) ∧ Ext W w' := by
  cases r with
  | ok ys => exact h
  | error e =>
    obtain ⟨rfl, x⟩ := h
    exact ⟨none, 0, rfl, .inl ⟨rfl, rfl, rfl⟩, fun k hk => absurd hk blk_none, x⟩
theorem ysR_le {k : Lnk} {s : Sp} {xs : List Int} : (ysR (makeX k s xs)).length ≤ 65535 := by
  unfold makeX
  split
  · decide
  · split
    · decide
    · split
      · decide
      · simp only [ysR]; omega
end Go.Proofs.Ytjlbegfbdjhhdaa
