/- An argument that is a list of instructions, opened to its cells. -/
import Derived.Test.YthhfipjmjnfjlaaM4
import Derived.Deep.Slices
import Derived.Deep.Fields
import Derived.ChangeSame
import Derived.SizedLaws
import Derived.ChangeSlices
import Derived.WalkKit
import Derived.ProofKit
namespace Go.Rd
open Go.ChangeShapes Go.WideShapes Go.Deep
set_option linter.unusedVariables false
set_option linter.unusedSimpArgs false
section
variable {H : Type} {enc : TypeId × Value → H} {P : Program} {w : World} {base : Nat} {spare : Nat → Bool} {held : Bool}
theorem open_slice_fields {t e : TypeId} {fs : Array Field} {fuel : Nat} {cs : List Value} {x : DataW H × List MemPlace} (ht : P.underlying t = some (.slice e)) (he : P.underlying e = some (.struct fs))
    (hone : oneCellFields P fs = true) (hC : P.cellsOf e = fs.size) (h : DataW.trod enc P w base spare held fuel t cs = some x) :
    (cs = [.slice none 0 0] ∧ x = (.nil, [])) ∨
    ∃ (a : Addr) (len cap m : Nat) (D : Nat → DataW H) (Pl : Nat → List MemPlace), cs = [.slice (some a) len cap] ∧ base ≤ a.block ∧ len ≤ cap ∧ cap ≤ maxLen ∧ m = (if spare a.block then cap else len) ∧
      x = (.slice ((List.range len).map D) ((List.range (m - len)).map fun j => D (len + j)), MemPlace.row a (m * fs.size) ++ (List.range m).flatMap Pl) ∧
      ∀ i, i < m → ∃ (ys : List (DataW H × List MemPlace)) (n : Nat), D i = .agg (ys.map (·.1)) ∧ Pl i = ys.flatMap (·.2) ∧ ys.length = fs.size ∧
        ∀ (j : Nat) (f : Field), fs[j]? = some f → ∃ (v : Value) (y : DataW H × List MemPlace), w.cell? (a.add (i * fs.size + j)) = some v ∧ ys[j]? = some y ∧ DataW.trod enc P w base spare held n f.type [v] = some y := by
  rcases open_slice ht h with h0 | ⟨a, len, cap, m, n, D, Pl, hcs, hb, hl, hm, hmm, hx, hi⟩
  · exact .inl h0
  · refine .inr ⟨a, len, cap, m, D, Pl, hcs, hb, hl, hm, hmm, by rw [hC] at hx; exact hx, fun i him => ?_⟩
    obtain ⟨cs', hc, ht'⟩ := hi i him
    rw [hC] at hc
    obtain ⟨ys, n', hn', hy, hlen, hyl, hf⟩ := DataW.trod_struct he ht'
    obtain ⟨_, hcl, hat⟩ := World.cells?_some hc
    simp only [Prod.mk.injEq] at hy
    refine ⟨ys, n', hy.1, hy.2, hyl, fun j f hj => ?_⟩
    obtain ⟨ho, hk⟩ := hone_of hone j f hj
    have hjl : j < fs.size := (Array.getElem?_eq_some_iff.1 hj).1
    have hcell := hat j hjl
    have hv : cs'[j]? = some (cs'[j]'(by omega)) := List.getElem?_eq_getElem (by omega)
    have h1 := hf j f hj
    rw [ho, hk] at h1
    have hone' : (cs'.drop j).take 1 = [cs'[j]'(by omega)] := by
      rw [List.drop_eq_getElem_cons (by omega)]
      rfl
    rw [hone'] at h1
    have hys : ys[j]? = some (ys[j]'(by omega)) := List.getElem?_eq_getElem (by omega)
    refine ⟨_, _, ?_, hys, h1.trans hys⟩
    rw [← Go.Deep.add_add, hcell, hv]
end

theorem RdC.of {α : Type} {f : α → List Value} {sz : Nat} (hf : ∀ x, (f x).length = sz) (h0 : 0 < sz) {w : World} {a : Addr} {xs : List α}
    (h : ∀ (i : Nat) (x : α), xs[i]? = some x → ∀ (j : Nat) (v : Value), (f x)[j]? = some v → w.cell? (a.add (i * sz + j)) = some v) : RdC w (some a) (xs.flatMap f) := fun j v hv => by
  refine ⟨a, rfl, ?_⟩
  have hj : j < (xs.flatMap f).length := (List.getElem?_eq_some_iff.1 hv).1
  rw [flat_len hf] at hj
  have hd := Nat.div_add_mod j sz
  have hr : j % sz < sz := Nat.mod_lt _ h0
  have hi : j / sz < xs.length := Nat.div_lt_of_lt_mul (by rw [Nat.mul_comm]; exact hj)
  have e : j / sz * sz + j % sz = j := by rw [Nat.mul_comm]; exact hd
  have hx : xs[j / sz]? = some (xs[j / sz]'hi) := List.getElem?_eq_getElem hi
  have := flat_get hf hx hr
  rw [e, hv] at this
  have := h _ _ hx _ _ this.symm
  rwa [e] at this

/-- A list of instructions that came in. -/
theorem open_insns {H : Type} {enc : TypeId × Value → H} {P : Program} {W : World} {t e : TypeId} {f0 f1 f2 f3 : Field} {v : Value} {d : DataW H} {ps : List MemPlace} {ts : List TypeId} {ds : List (DataW H)} {j : Nat}
    (hok : Value.okWide P W .any 0 t v) (hsz : (DataW.weightsEach P ts ds).all (· ≤ reachBytes) = true) (ht : ts[j]? = some t) (hd : ds[j]? = some d) (hu : P.underlying t = some (.slice e)) (he : P.underlying e = some (.struct #[f0, f1, f2, f3]))
    (hone : oneCellFields P #[f0, f1, f2, f3] = true) (hC : P.cellsOf e = 4) (hB : P.bytesOf e = 8)
    (h0 : P.underlying f0.type = some (.int .u16)) (h1 : P.underlying f1.type = some (.int .u8)) (h2 : P.underlying f2.type = some (.int .u8)) (h3 : P.underlying f3.type = some (.int .u32))
    (h : DataW.Trod enc P W 0 (fun _ => true) true t v d ps) :
    ∃ (a : Option Addr) (len cap : Nat) (zs : List Ins), v = .slice a len cap ∧ len ≤ cap ∧ len * 8 ≤ 140737488351232 ∧ RdM Ins.v W a len zs ∧ (∀ x ∈ zs, x.ok) ∧
      (∀ x, a = some x → 0 < len → x.block < W.heap.size) ∧ ((∃ E S : List (DataW H), d = .slice E S ∧ E.length = len) ∨ len = 0) := by
  obtain ⟨a, len, cap, rfl⟩ := okWide_slice hu hok
  obtain ⟨fuel, hf⟩ := h
  rcases open_slice_fields hu he hone hC hf with ⟨hcs, _⟩ | ⟨x, l, c, m, D, Pl, hcs, _, hl, _, hm, hx, hel⟩
  · simp [Value.cells] at hcs
    obtain ⟨rfl, rfl, rfl⟩ := hcs
    exact ⟨none, 0, 0, [], rfl, Nat.le_refl _, (by omega), RdM.nil, (fun x hx => (by cases hx)), (fun x hx => (by cases hx)), .inr rfl⟩
  · simp [Value.cells] at hcs
    obtain ⟨rfl, rfl, rfl⟩ := hcs
    obtain ⟨hx, _⟩ := Prod.mk.inj hx
    subst hx
    have z := sized_slice hsz ht hd hu
    rw [hB] at z
    have hm : m = cap := by simpa using hm
    subst hm
    simp only [List.length_map, List.length_range] at z
    rw [show len + (m - len) = m by omega] at z
    have z : m * 8 ≤ 140737488351232 := z
    have key : ∀ i, i < len → ∃ p : Ins, p.ok ∧ ∀ (j : Nat) (v : Value), p.v[j]? = some v → W.cell? (x.add (i * 4 + j)) = some v := by
      intro i hi
      obtain ⟨ys, n, _, _, _, hf⟩ := hel i (by omega)
      obtain ⟨v0, y0, c0, _, t0⟩ := hf 0 f0 rfl
      obtain ⟨v1, y1, c1, _, t1⟩ := hf 1 f1 rfl
      obtain ⟨v2, y2, c2, _, t2⟩ := hf 2 f2 rfl
      obtain ⟨v3, y3, c3, _, t3⟩ := hf 3 f3 rfl
      obtain ⟨n0, e0, _, w0⟩ := DataW.trod_int h0 t0
      obtain ⟨n1, e1, _, w1⟩ := DataW.trod_int h1 t1
      obtain ⟨n2, e2, _, w2⟩ := DataW.trod_int h2 t2
      obtain ⟨n3, e3, _, w3⟩ := DataW.trod_int h3 t3
      obtain rfl : v0 = _ := by simpa using e0
      obtain rfl : v1 = _ := by simpa using e1
      obtain rfl : v2 = _ := by simpa using e2
      obtain rfl : v3 = _ := by simpa using e3
      refine ⟨⟨n0, n1, n2, n3⟩, ⟨by simpa [Lit.wf, IntKind.min, IntKind.max, IntKind.signed, IntKind.bits] using w0, by simpa [Lit.wf, IntKind.min, IntKind.max, IntKind.signed, IntKind.bits] using w1,
        by simpa [Lit.wf, IntKind.min, IntKind.max, IntKind.signed, IntKind.bits] using w2, by simpa [Lit.wf, IntKind.min, IntKind.max, IntKind.signed, IntKind.bits] using w3⟩, fun j v hv => ?_⟩
      match j, hv with
      | 0, hv => obtain rfl := Option.some.inj hv; exact c0
      | 1, hv => obtain rfl := Option.some.inj hv; exact c1
      | 2, hv => obtain rfl := Option.some.inj hv; exact c2
      | 3, hv => obtain rfl := Option.some.inj hv; exact c3
      | (j + 4), hv => simp [Ins.v] at hv
    let g : Nat → Ins := fun i => if h : i < len then Classical.choose (key i h) else ⟨0, 0, 0, 0⟩
    have hg : ∀ i, i < len → (g i).ok ∧ ∀ (j : Nat) (v : Value), (g i).v[j]? = some v → W.cell? (x.add (i * 4 + j)) = some v := by
      intro i hi
      have : g i = Classical.choose (key i hi) := dif_pos hi
      rw [this]
      exact Classical.choose_spec (key i hi)
    have hat : ∀ (i : Nat) (p : Ins), ((List.range len).map g)[i]? = some p → i < len ∧ p = g i := by
      intro i p hp
      obtain ⟨hi, hp⟩ := List.getElem?_eq_some_iff.1 hp
      simp at hi hp
      exact ⟨hi, hp.symm⟩
    refine ⟨some x, len, m, (List.range len).map g, rfl, hl, by omega, ⟨by simp, RdC.of Ins.len (by omega) fun i p hp j v hv => ?_⟩, fun p hp => ?_, ?_, .inl ⟨_, _, rfl, by simp⟩⟩
    · obtain ⟨hi, rfl⟩ := hat i p hp
      exact (hg i hi).2 j v hv
    · obtain ⟨i, hi, rfl⟩ := List.mem_map.1 hp
      exact (hg i (List.mem_range.1 hi)).1
    · rintro y hy h0
      obtain rfl := Option.some.inj hy
      have := (hg 0 h0).2 0 _ rfl
      have := cell_lt this
      rwa [add_block] at this
end Go.Rd
