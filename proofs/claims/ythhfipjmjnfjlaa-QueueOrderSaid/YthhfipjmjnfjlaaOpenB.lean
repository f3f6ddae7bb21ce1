/- An argument that is a list of truths, opened. -/
import Derived.Test.YthhfipjmjnfjlaaM2
import Derived.WideShapes
import Derived.WalkKit
import Derived.ProofKit
import Derived.Deep.Grids
namespace Go.Rd
open Go.ChangeShapes Go.WideShapes Go.Deep Go.RowKit
set_option linter.unusedVariables false
theorem open_truths {H : Type} {enc : TypeId × Value → H} {P : Program} {W : World} {t e : TypeId} {v : Value} {d : DataW H} {ps : List MemPlace} (hok : Value.okWide P W .any 0 t v) (hu : P.underlying t = some (.slice e)) (he : P.underlying e = some .bool) (hC : P.cellsOf e = 1)
    (h : DataW.Trod enc P W 0 (fun _ => true) true t v d ps) : ∃ (a : Option Addr) (len cap : Nat) (zs : List Bool), v = .slice a len cap ∧ len ≤ cap ∧ Rd Value.bool W a len zs := by
  obtain ⟨a, len, cap, rfl⟩ := okWide_slice hu hok
  obtain ⟨fuel, hf⟩ := h
  rcases Go.Deep.open_bools hu he hC hf with ⟨hcs, _⟩ | ⟨x, l, c, B, hcs, _, hl, _, _, hcell⟩
  · simp [Value.cells] at hcs
    obtain ⟨rfl, rfl, rfl⟩ := hcs
    exact ⟨none, 0, 0, [], rfl, Nat.le_refl _, Rd.nil⟩
  · simp [Value.cells] at hcs
    obtain ⟨rfl, rfl, rfl⟩ := hcs
    refine ⟨some x, len, cap, (List.range len).map B, rfl, hl, by simp, fun i y hy => ⟨x, rfl, ?_⟩⟩
    obtain ⟨hi, hy⟩ := List.getElem?_eq_some_iff.1 hy
    simp at hi hy
    rw [Nat.mul_one, hcell i (by omega), hy]
end Go.Rd
