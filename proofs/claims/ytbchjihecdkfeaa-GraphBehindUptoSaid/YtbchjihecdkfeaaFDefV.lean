/- One cell of a block is written; a byte at a place (out of FDef, for a seat without frames). -/
import Derived.Test.YtbchjihecdkfeaaHBytes
import Derived.Test.YtbchjihecdkfeaaM7
namespace Go.Proofs.Ytbchjihecdkfeaa
open Go.Rd Go.RowKit
set_option linter.unusedVariables false
set_option linter.unusedSimpArgs false

/-- One cell is written. -/
theorem cell_put {w : World} {b i : Nat} {cs : Array Value} {t : TypeId} {a : Addr} {v : Value} {φ : World → Prop} (h : w.heap[b]? = some (.cells cs t (0, 0))) (hi : i < cs.size) (ha : a = ⟨b, i, none⟩)
    (hφ : ∀ w', w'.heap[b]? = some (.cells (cs.setIfInBounds i v) t (0, 0)) → Keep (· = b) w w' → φ w') : (∃ u, w.cell? a = some u) ∧ w.frozen? a = false ∧ letW (w.setCell a v) φ := by
  subst ha
  exact ⟨st_cell h hi, frozen_of h, letS h fun w' h' k' _ => hφ w' h' k'⟩

theorem IBytes.get {w : World} {A : Option Addr} {n : Nat} {xs : List Int} (h : IBytes w A n xs) {j : Int} (h0 : 0 ≤ j) (h1 : j < n) : ∃ p, A = some p ∧ w.cell? (p.add (Int.toNat j * 1)) = some (.int .u8 (xs.getD j.toNat 0)) := by
  obtain ⟨a, ha, hc⟩ := Rd.at h (i := j.toNat) (by omega)
  refine ⟨a, ha, ?_⟩
  rw [hc, List.getD_eq_getElem?_getD, List.getElem?_eq_getElem (by rw [h.len]; omega)]
  rfl
theorem getD_byte {xs : List Int} (h : ∀ x ∈ xs, 0 ≤ x ∧ x ≤ 255) (j : Nat) : 0 ≤ xs.getD j 0 ∧ xs.getD j 0 ≤ 255 := by
  rw [List.getD_eq_getElem?_getD]
  cases hj : xs[j]? with
  | none => exact ⟨by decide, by decide⟩
  | some y => exact h y (List.mem_of_getElem? hj)
end Go.Proofs.Ytbchjihecdkfeaa
