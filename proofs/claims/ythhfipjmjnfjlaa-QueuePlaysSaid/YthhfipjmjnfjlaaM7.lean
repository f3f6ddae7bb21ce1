/- A cell of an own list is written. -/
import Derived.Test.YthhfipjmjnfjlaaM5
namespace Go.Rd
open Go.RowKit
set_option linter.unusedVariables false
set_option linter.unusedSimpArgs false

theorem Own.put1 {e : TypeId} {w : World} {A : Option Addr} {c : Nat} {cs : List Value} (h : Own e 1 w A c cs) {i : Nat} {j : Int} (hj : j = i) (hi : i < cs.length) {v : Value} {f : World → Prop}
    (hf : ∀ w', Own e 1 w' A c (cs.set i v) → Keep (blk A) w w' → w'.heap.size = w.heap.size → f w') :
    ∃ p, A = some p ∧ (∃ u, w.cell? (p.add (Int.toNat j * 1)) = some u) ∧ w.frozen? (p.add (Int.toNat j * 1)) = false ∧ letW (w.setCell (p.add (Int.toNat j * 1)) v) f := by
  subst hj
  rcases h with ⟨rfl, rfl, rfl⟩ | ⟨b, sp, rfl, hb, hl⟩
  · simp at hi
  · have e1 : (Addr.mk b 0 none).add (Int.toNat (i : Int) * 1) = ⟨b, i, none⟩ := by rw [add_mk]; simp
    refine ⟨_, rfl, ?_⟩
    rw [e1]
    refine ⟨st_cell hb (by simp; omega), frozen_of hb, letS hb fun w' h' k' s' => hf w' (.inr ⟨b, sp, rfl, ?_, ?_⟩) (k'.mono fun k _ h => blk_some.2 h) s'⟩
    · rw [h']
      congr 2
      apply Array.ext'
      simp [List.set_append, hi]
    · simpa using hl

theorem setFrom_list : ∀ (vs : List Value) (l : List Value) (i : Nat), i + vs.length ≤ l.length → setFrom l.toArray i vs = (l.take i ++ (vs ++ l.drop (i + vs.length))).toArray
  | [], l, i, h => by simp [setFrom]
  | v :: vs, l, i, h => by
    simp only [List.length_cons] at h
    have e : l.toArray.setIfInBounds i v = (l.set i v).toArray := by simp
    rw [setFrom, e, setFrom_list vs (l.set i v) (i + 1) (by rw [List.length_set]; omega)]
    have e1 : (l.set i v).take (i + 1) = l.take i ++ [v] := by
      rw [List.set_eq_take_append_cons_drop, if_pos (by omega), List.take_append, List.length_take, List.take_of_length_le (by rw [List.length_take]; omega), show i + 1 - min i l.length = 1 by omega]
      rfl
    have e2 : (l.set i v).drop (i + 1 + vs.length) = l.drop (i + (vs.length + 1)) := by
      rw [List.drop_set, if_pos (by omega), show i + 1 + vs.length = i + (vs.length + 1) by omega]
    rw [e1, e2]
    simp

theorem setFrom_all (l vs : List Value) (h : l.length = vs.length) : setFrom l.toArray (0 + 0) vs = vs.toArray := by
  rw [setFrom_list vs l (0 + 0) (by omega)]
  simp [List.drop_of_length_le (show l.length ≤ vs.length by omega)]

/-- An element of an own list is written. -/
theorem Own.putM {α : Type} {f : α → List Value} {sz : Nat} (h0 : 0 < sz) (hf : ∀ x, (f x).length = sz) {e : TypeId} {w : World} {A : Option Addr} {c : Nat} {xs : List α} (h : Own e sz w A c (xs.flatMap f)) {i : Nat} {j : Int} (hj : j = i) (hi : i < xs.length) {y : α} (hy : ((f y).all isCell) = true) {φ : World → Prop}
    (hφ : ∀ w', Own e sz w' A c ((xs.set i y).flatMap f) → Keep (blk A) w w' → φ w') : ∃ p, A = some p ∧ storeRow (p.add (Int.toNat j * sz)) 0 (f y) w φ := by
  subst hj
  have hlen := flat_len hf xs
  have h1 : (i + 1) * sz ≤ xs.length * sz := Nat.mul_le_mul_right _ hi
  rw [Nat.add_mul, Nat.one_mul] at h1
  rcases h with ⟨rfl, rfl, he⟩ | ⟨b, sp, rfl, hb, hl⟩
  · rw [he] at hlen
    have := Nat.mul_pos (show 0 < xs.length by omega) h0
    simp at hlen
    omega
  · have e : (Addr.mk b 0 none).add (Int.toNat (i : Int) * sz) = ⟨b, i * sz, none⟩ := by rw [add_mk]; simp
    refine ⟨_, rfl, ?_⟩
    rw [e]
    refine storeRow_block hb (by rw [List.size_toArray, List.length_append, hlen, hf]; omega) hy fun w' hw hk hs => hφ w' (.inr ⟨b, sp, rfl, ?_, ?_⟩) (hk.mono fun k _ h => blk_some.2 h)
    · rw [hw, setFrom_list _ _ _ (by rw [List.length_append, hf]; omega)]
      congr 3
      have e2 : xs.set i y = xs.take i ++ (y :: xs.drop (i + 1)) := by
        rw [List.set_eq_take_append_cons_drop, if_pos hi]
      rw [e2, List.flatMap_append, List.flatMap_cons, flat_take hf, flat_drop hf, Nat.add_zero, hf, List.take_append_of_le_length (by omega), List.drop_append_of_le_length (by omega), Nat.add_mul, Nat.one_mul]
      simp
    · rw [List.length_append] at hl ⊢
      rw [flat_len hf, List.length_set]
      omega
end Go.Rd
