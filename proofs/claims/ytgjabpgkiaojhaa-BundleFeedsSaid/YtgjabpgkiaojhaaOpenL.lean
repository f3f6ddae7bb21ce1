/- An argument that is a link, opened. -/
import Derived.WideShapes
import Derived.WalkKit
import Derived.ProofKit
import Derived.Deep.Strs
namespace Go.Rd
open Go.ChangeShapes Go.WideShapes Go.Deep
set_option linter.unusedVariables false
theorem open_link {H : Type} {enc : TypeId × Value → H} {P : Program} {W : World} {t : TypeId} {f0 f1 f2 : Field} {v : Value} {d : DataW H} {ps : List MemPlace} {base b0 : Nat} {r : Reach} {spare : Nat → Bool} {held : Bool}
    (hu : P.underlying t = some (.struct #[f0, f1, f2])) (hC : P.cellsOf t = 3) (o0 : f0.offset = 0) (o1 : f1.offset = 1) (o2 : f2.offset = 2) (k0 : P.cellsOf f0.type = 1) (k1 : P.cellsOf f1.type = 1) (k2 : P.cellsOf f2.type = 1)
    (u0 : P.underlying f0.type = some .bool) (u1 : P.underlying f1.type = some .bool) (u2 : P.underlying f2.type = some (.int .i64)) (hok : Value.okWide P W r b0 t v) (h : DataW.Trod enc P W base spare held t v d ps) :
    ∃ (x y : Bool) (n : Int), v = .agg #[.bool x, .bool y, .int .i64 n] ∧ -9223372036854775808 ≤ n ∧ n ≤ 9223372036854775807 := by
  obtain ⟨cs, rfl, hs⟩ := okWide_struct hu hok
  obtain ⟨fuel, hf⟩ := h
  obtain ⟨y0, y1, y2, n, _, _, t0, t1, t2⟩ := trod_struct3 hu hf
  rw [hC] at hs
  obtain ⟨l⟩ := cs
  match l, hs with
  | [c0, c1, c2], _ =>
    rw [o0, k0] at t0
    rw [o1, k1] at t1
    rw [o2, k2] at t2
    obtain ⟨x, e0, _⟩ := DataW.trod_bool u0 t0
    obtain ⟨y, e1, _⟩ := DataW.trod_bool u1 t1
    obtain ⟨z, e2, _, w2⟩ := DataW.trod_int u2 t2
    obtain rfl : c0 = _ := by simpa [Value.cells] using e0
    obtain rfl : c1 = _ := by simpa [Value.cells] using e1
    obtain rfl : c2 = _ := by simpa [Value.cells] using e2
    have w2 : -9223372036854775808 ≤ z ∧ z ≤ 9223372036854775807 := by simpa [Lit.wf, IntKind.min, IntKind.max, IntKind.signed, IntKind.bits] using w2
    exact ⟨x, y, z, rfl, w2⟩
end Go.Rd
