/- Printed by a program of this repo (wip/tools/spopen.py): an argument that is an api.Spec, opened. -/
import Derived.Test.YtjlbegfbdjhhdaaGDef
import Derived.WideShapes
import Derived.WalkKit
import Derived.ProofKit
import Derived.OpenShut
import Derived.SizedLaws
import Derived.ChangeSlices
namespace Go.Proofs.Ytjlbegfbdjhhdaa
open Go.ChangeShapes Go.WideShapes Go.Rd Go.RowKit
set_option linter.unusedVariables false
set_option linter.unusedSimpArgs false
set_option maxRecDepth 100000

theorem take1 {l : List Value} {o : Nat} {v : Value} (h : (l.drop o).take 1 = [v]) : l[o]? = some v := by
  have := congrArg (fun l => l[0]?) h
  simpa using this
theorem wf_u8 {n : Int} (h : (Lit.int .u8 n).wf = true) : 0 ≤ n ∧ n ≤ 255 := by simpa [Lit.wf, IntKind.min, IntKind.max, IntKind.signed, IntKind.bits] using h
theorem wf_u32 {n : Int} (h : (Lit.int .u32 n).wf = true) : 0 ≤ n ∧ n ≤ 4294967295 := by simpa [Lit.wf, IntKind.min, IntKind.max, IntKind.signed, IntKind.bits] using h
theorem wf_i64 {n : Int} (h : (Lit.int .i64 n).wf = true) : -9223372036854775808 ≤ n ∧ n ≤ 9223372036854775807 := by simpa [Lit.wf, IntKind.min, IntKind.max, IntKind.signed, IntKind.bits] using h

section
variable {H : Type} {enc : TypeId × Value → H} {W : World}
/-- Sixteen bytes of a row. -/
theorem open16 {l : List Value} {o m : Nat} {y : DataW H × List MemPlace} (hl : o + 16 ≤ l.length) (h : DataW.trod enc Try.prog W 0 (fun _ => true) true m 25 ((l.drop o).take 16) = some y) :
    ∃ f : Nat → Int, (∀ i, 0 ≤ f i ∧ f i ≤ 255) ∧ ∀ i, i < 16 → l[o + i]? = some (.int .u8 (f i)) := by
  have hu : Try.prog.underlying 25 = some (.array 16 5) := by kernel_rfl
  have he : Try.prog.underlying 5 = some (.int .u8) := by kernel_rfl
  have hc : Try.prog.cellsOf 5 = 1 := by kernel_rfl
  obtain ⟨ys, m', _, _, _, hy, hi⟩ := DataW.trod_array hu h
  have key : ∀ i, i < 16 → ∃ n : Int, (0 ≤ n ∧ n ≤ 255) ∧ l[o + i]? = some (.int .u8 n) := by
    intro i him
    have h1 := hi i him
    rw [hc, Nat.mul_one, List.getElem?_eq_getElem (by omega)] at h1
    obtain ⟨n, e, _, w⟩ := DataW.trod_int he h1
    have e2 := take1 e
    rw [List.getElem?_take, if_pos him, List.getElem?_drop] at e2
    exact ⟨n, wf_u8 w, e2⟩
  refine ⟨fun i => if h : i < 16 then Classical.choose (key i h) else 0, fun i => ?_, fun i him => ?_⟩
  · by_cases him : i < 16
    · simp only [dif_pos him]; exact (Classical.choose_spec (key i him)).1
    · simp only [dif_neg him]; omega
  · simp only [dif_pos him]; exact (Classical.choose_spec (key i him)).2

theorem field_at {fs : Array Field} {xs : List (DataW H × List MemPlace)} {n : Nat} {cs : List Value} (hl : xs.length = fs.size) (hf : ∀ (i : Nat) (f : Field), fs[i]? = some f → DataW.trod enc Try.prog W 0 (fun _ => true) true n f.type ((cs.drop f.offset).take (Try.prog.cellsOf f.type)) = xs[i]?) {i : Nat} {f : Field} {t : TypeId} {o c : Nat}
    (hi : fs[i]? = some f) (ho : f.offset = o) (ht : f.type = t) (hc : Try.prog.cellsOf t = c) : ∃ y, xs[i]? = some y ∧ DataW.trod enc Try.prog W 0 (fun _ => true) true n t ((cs.drop o).take c) = some y := by
  subst ho; subst ht; subst hc
  have hlt : i < xs.length := by rw [hl]; exact (Array.getElem?_eq_some_iff.1 hi).1
  refine ⟨xs[i]'hlt, List.getElem?_eq_getElem hlt, ?_⟩
  rw [hf i f hi, List.getElem?_eq_getElem hlt]

structure Sp.ok (s : Sp) : Prop where
  sq : 0 ≤ s.sq ∧ s.sq ≤ 4294967295
  pr : 0 ≤ s.pr ∧ s.pr ≤ 4294967295
  nx : -9223372036854775808 ≤ s.nx ∧ s.nx ≤ 9223372036854775807
  sr : ∀ i, 0 ≤ s.sr i ∧ s.sr i ≤ 255
  ds : ∀ i, 0 ≤ s.ds i ∧ s.ds i ≤ 255
  fr : 0 ≤ s.fr ∧ s.fr ≤ 4294967295
  to : 0 ≤ s.to ∧ s.to ≤ 4294967295

/-- What is asked for, opened. -/
theorem open_spec {v : Value} {d : DataW H} {ps : List MemPlace} {r : Reach} {b0 : Nat} {ts : List TypeId} {gs : List (DataW H)} {j : Nat} (hok : Value.okWide Try.prog W r b0 28 v)
    (hsz : (DataW.weightsEach Try.prog ts gs).all (· ≤ reachBytes) = true) (ht : ts[j]? = some 28) (hd : gs[j]? = some d) (h : DataW.Trod enc Try.prog W 0 (fun _ => true) true 28 v d ps) :
    ∃ (s : Sp) (xs : List Int), v = s.v ∧ IBytes W s.dA s.dn xs ∧ s.ok ∧ s.dn ≤ 140737488351232 ∧ s.dn ≤ s.dc ∧ (∀ x ∈ xs, 0 ≤ x ∧ x ≤ 255) ∧ (∀ x, s.dA = some x → 0 < s.dn → x.block < W.heap.size) := by
  have ub : Try.prog.underlying 4 = some .bool := by kernel_rfl
  have u32 : Try.prog.underlying 24 = some (.int .u32) := by kernel_rfl
  have u64 : Try.prog.underlying 3 = some (.int .i64) := by kernel_rfl
  have us : Try.prog.underlying 26 = some (.slice 5) := by kernel_rfl
  have u8 : Try.prog.underlying 5 = some (.int .u8) := by kernel_rfl
  have cb : Try.prog.cellsOf 4 = 1 := by kernel_rfl
  have c32 : Try.prog.cellsOf 24 = 1 := by kernel_rfl
  have c64 : Try.prog.cellsOf 3 = 1 := by kernel_rfl
  have cs' : Try.prog.cellsOf 26 = 1 := by kernel_rfl
  have c8 : Try.prog.cellsOf 5 = 1 := by kernel_rfl
  have c16 : Try.prog.cellsOf 25 = 16 := by kernel_rfl
  have hB : Try.prog.bytesOf 5 = 1 := by kernel_rfl
  have hC : Try.prog.cellsOf 28 = 44 := by kernel_rfl
  obtain ⟨cs, rfl, hs⟩ := okWide_struct Try.underlying28 hok
  obtain ⟨fuel, hf⟩ := h
  obtain ⟨ys, n, _, hx, hlen, hyl, hfs⟩ := DataW.trod_struct Try.underlying28 hf
  obtain ⟨l⟩ := cs
  have hl : l.length = 44 := by rw [← hC]; exact hs
  have hcs : (Value.agg ⟨l⟩).cells.toList = l := rfl
  rw [hcs] at hfs
  obtain ⟨y0, g0, t0⟩ := field_at (i := 0) (o := 0) (t := 4) hyl hfs rfl rfl rfl cb
  obtain ⟨y1, g1, t1⟩ := field_at (i := 1) (o := 1) (t := 4) hyl hfs rfl rfl rfl cb
  obtain ⟨y2, g2, t2⟩ := field_at (i := 2) (o := 2) (t := 4) hyl hfs rfl rfl rfl cb
  obtain ⟨y3, g3, t3⟩ := field_at (i := 3) (o := 3) (t := 4) hyl hfs rfl rfl rfl cb
  obtain ⟨y4, g4, t4⟩ := field_at (i := 4) (o := 4) (t := 4) hyl hfs rfl rfl rfl cb
  obtain ⟨y5, g5, t5⟩ := field_at (i := 5) (o := 5) (t := 24) hyl hfs rfl rfl rfl c32
  obtain ⟨y6, g6, t6⟩ := field_at (i := 6) (o := 6) (t := 24) hyl hfs rfl rfl rfl c32
  obtain ⟨y7, g7, t7⟩ := field_at (i := 7) (o := 7) (t := 3) hyl hfs rfl rfl rfl c64
  obtain ⟨y8, g8, t8⟩ := field_at (i := 8) (o := 8) (t := 25) hyl hfs rfl rfl rfl c16
  obtain ⟨y9, g9, t9⟩ := field_at (i := 9) (o := 24) (t := 25) hyl hfs rfl rfl rfl c16
  obtain ⟨y10, g10, t10⟩ := field_at (i := 10) (o := 40) (t := 4) hyl hfs rfl rfl rfl cb
  obtain ⟨y11, g11, t11⟩ := field_at (i := 11) (o := 41) (t := 24) hyl hfs rfl rfl rfl c32
  obtain ⟨y12, g12, t12⟩ := field_at (i := 12) (o := 42) (t := 24) hyl hfs rfl rfl rfl c32
  obtain ⟨y13, g13, t13⟩ := field_at (i := 13) (o := 43) (t := 26) hyl hfs rfl rfl rfl cs'
  obtain ⟨n0, e0, _⟩ := DataW.trod_bool ub t0
  obtain ⟨n1, e1, _⟩ := DataW.trod_bool ub t1
  obtain ⟨n2, e2, _⟩ := DataW.trod_bool ub t2
  obtain ⟨n3, e3, _⟩ := DataW.trod_bool ub t3
  obtain ⟨n4, e4, _⟩ := DataW.trod_bool ub t4
  obtain ⟨n5, e5, _, w5⟩ := DataW.trod_int u32 t5
  obtain ⟨n6, e6, _, w6⟩ := DataW.trod_int u32 t6
  obtain ⟨n7, e7, _, w7⟩ := DataW.trod_int u64 t7
  obtain ⟨n8, w8, e8⟩ := open16 (by omega) t8
  obtain ⟨n9, w9, e9⟩ := open16 (by omega) t9
  obtain ⟨n10, e10, _⟩ := DataW.trod_bool ub t10
  obtain ⟨n11, e11, _, w11⟩ := DataW.trod_int u32 t11
  obtain ⟨n12, e12, _, w12⟩ := DataW.trod_int u32 t12
  have fin : ∀ (A : Option Addr) (len cap : Nat) (xs : List Int), (l.drop 43).take 1 = [.slice A len cap] → IBytes W A len xs → len ≤ 140737488351232 → len ≤ cap → (∀ x ∈ xs, 0 ≤ x ∧ x ≤ 255) → (∀ x, A = some x → 0 < len → x.block < W.heap.size) →
      ∃ (s : Sp) (xs : List Int), Value.agg ⟨l⟩ = s.v ∧ IBytes W s.dA s.dn xs ∧ s.ok ∧ s.dn ≤ 140737488351232 ∧ s.dn ≤ s.dc ∧ (∀ x ∈ xs, 0 ≤ x ∧ x ≤ 255) ∧ (∀ x, s.dA = some x → 0 < s.dn → x.block < W.heap.size) := by
    intro A len cap xs e13 hx1 hx2 hx3 hx4 hx5
    refine ⟨⟨n0, n1, n2, n3, n4, n5, n6, n7, n8, n9, n10, n11, n12, A, len, cap⟩, xs, ?_, hx1, ⟨wf_u32 w5, wf_u32 w6, wf_i64 w7, w8, w9, wf_u32 w11, wf_u32 w12⟩, hx2, hx3, hx4, hx5⟩
    have e : l = (Sp.mk n0 n1 n2 n3 n4 n5 n6 n7 n8 n9 n10 n11 n12 A len cap).row := List.ext_getElem? fun i => by
      match i with
      | 0 => exact take1 e0
      | 1 => exact take1 e1
      | 2 => exact take1 e2
      | 3 => exact take1 e3
      | 4 => exact take1 e4
      | 5 => exact take1 e5
      | 6 => exact take1 e6
      | 7 => exact take1 e7
      | 8 => exact e8 0 (by omega)
      | 9 => exact e8 1 (by omega)
      | 10 => exact e8 2 (by omega)
      | 11 => exact e8 3 (by omega)
      | 12 => exact e8 4 (by omega)
      | 13 => exact e8 5 (by omega)
      | 14 => exact e8 6 (by omega)
      | 15 => exact e8 7 (by omega)
      | 16 => exact e8 8 (by omega)
      | 17 => exact e8 9 (by omega)
      | 18 => exact e8 10 (by omega)
      | 19 => exact e8 11 (by omega)
      | 20 => exact e8 12 (by omega)
      | 21 => exact e8 13 (by omega)
      | 22 => exact e8 14 (by omega)
      | 23 => exact e8 15 (by omega)
      | 24 => exact e9 0 (by omega)
      | 25 => exact e9 1 (by omega)
      | 26 => exact e9 2 (by omega)
      | 27 => exact e9 3 (by omega)
      | 28 => exact e9 4 (by omega)
      | 29 => exact e9 5 (by omega)
      | 30 => exact e9 6 (by omega)
      | 31 => exact e9 7 (by omega)
      | 32 => exact e9 8 (by omega)
      | 33 => exact e9 9 (by omega)
      | 34 => exact e9 10 (by omega)
      | 35 => exact e9 11 (by omega)
      | 36 => exact e9 12 (by omega)
      | 37 => exact e9 13 (by omega)
      | 38 => exact e9 14 (by omega)
      | 39 => exact e9 15 (by omega)
      | 40 => exact take1 e10
      | 41 => exact take1 e11
      | 42 => exact take1 e12
      | 43 => exact take1 e13
      | i + 44 => rw [List.getElem?_eq_none (by omega), List.getElem?_eq_none (by show 44 ≤ i + 44; omega)]
    rw [e]
    rfl
  rcases open_ints us u8 c8 t13 with ⟨hcs, _⟩ | ⟨x, len, cap, zs, hcs, _, hl2, _, hz, hy, hcell, hwf⟩
  · exact fin none 0 0 [] hcs Go.Rd.Rd.nil (by omega) (Nat.le_refl _) (fun x hx => by cases hx) (fun x hx => by cases hx)
  · have hz : zs.length = cap := by simpa using hz
    have hdd : d = .agg (ys.map (·.1)) := (Prod.mk.inj hx).1
    subst hdd
    have z := List.all_eq_true.1 hsz _ (DataW.weights_mem_each ht hd (cap * 1) (by
      simp only [DataW.weights, Try.underlying28]
      refine DataW.weights_mem_each (j := 13) (t := 26) (d := y13.1) rfl (by rw [List.getElem?_map, g13]; rfl) _ ?_
      rw [hy]
      simp only [DataW.weights, us, hB, lits, List.length_map, List.length_take, List.length_drop]
      rw [show min len zs.length + (zs.length - len) = cap by omega]
      exact List.mem_cons_self ..))
    have z : cap * 1 ≤ reachBytes := by simpa using z
    rw [show reachBytes = 140737488351232 from rfl] at z
    refine fin (some x) len cap (zs.take len) hcs ?_ (by omega) hl2 (fun y hy => wf_u8 (hwf y (List.mem_of_mem_take hy))) ?_
    · refine ⟨by rw [List.length_take]; omega, fun i y hy => ⟨x, rfl, ?_⟩⟩
      obtain ⟨hi, hy⟩ := List.getElem?_eq_some_iff.1 hy
      rw [List.length_take] at hi
      rw [Nat.mul_one, hcell i (by omega), ← hy]
      simp [List.getD, List.getElem?_eq_getElem (show i < zs.length by omega)]
    · rintro y hy h0
      obtain rfl := Option.some.inj hy
      have := hcell 0 (by omega)
      have := Go.Rd.cell_lt this
      rwa [Go.Rd.add_block] at this
end
end Go.Proofs.Ytjlbegfbdjhhdaa
