/- An argument that is a list of lists of bytes, opened. -/
import Derived.Test.YthhfipjmjnfjlaaWJoin
import Derived.Deep.Slices
import Derived.ChangeSame
import Derived.SizedLaws
import Derived.ChangeSlices
import Derived.WalkKit
import Derived.ProofKit
namespace Go.Proofs.Ythhfipjmjnfjlaa
open Go.ChangeShapes Go.WideShapes Go.Rd Go.RowKit
set_option linter.unusedVariables false
set_option linter.unusedSimpArgs false
set_option maxRecDepth 100000

/-- A list of bytes that came in. -/
structure PIn (w : World) (p : Part) : Prop where
  rd : IBytes w p.A p.n p.xs
  cap : p.n ≤ p.c
  size : p.n ≤ 140737488351232
  bytes : ∀ x ∈ p.xs, 0 ≤ x ∧ x ≤ 255
  lt : ∀ x, p.A = some x → 0 < p.n → x.block < w.heap.size

theorem weightsAll_in {H : Type} {P : Program} {e : TypeId} : ∀ {l : List (DataW H)} {d : DataW H}, d ∈ l → ∀ n ∈ d.weights P e, n ∈ DataW.weightsAll P e l
  | d0 :: l, d, hd, n, hn => by
    simp only [DataW.weightsAll, List.mem_append]
    rcases List.mem_cons.1 hd with rfl | hd
    · exact .inl hn
    · exact .inr (weightsAll_in hd n hn)

theorem open_lists {H : Type} {enc : TypeId × Value → H} {W : World} {v : Value} {d : DataW H} {ps : List MemPlace} {ts : List TypeId} {ds : List (DataW H)} {j : Nat} (hok : Value.okWide Try.prog W .any 0 45 v)
    (hsz : (DataW.weightsEach Try.prog ts ds).all (· ≤ reachBytes) = true) (ht : ts[j]? = some 45) (hd : ds[j]? = some d) (h : DataW.Trod enc Try.prog W 0 (fun _ => true) true 45 v d ps) :
    ∃ (a : Option Addr) (len cap : Nat) (zs : List Part), v = .slice a len cap ∧ len ≤ cap ∧ len * 24 ≤ 140737488351232 ∧ Rd Part.v W a len zs ∧ (∀ p ∈ zs, PIn W p) ∧ (∀ x, a = some x → 0 < len → x.block < W.heap.size) ∧
      ((∃ (E S : List (DataW H)), d = .slice E S ∧ E.length = len ∧ ∀ (i : Nat) (p : Part), zs[i]? = some p → ∃ D, E[i]? = some D ∧ ((∃ E S : List (DataW H), D = .slice E S ∧ E.length = p.n) ∨ p.n = 0)) ∨ len = 0) := by
  have uo : Try.prog.underlying 45 = some (.slice 35) := by kernel_rfl
  have us : Try.prog.underlying 35 = some (.slice 5) := by kernel_rfl
  have u8 : Try.prog.underlying 5 = some (.int .u8) := by kernel_rfl
  have cs' : Try.prog.cellsOf 35 = 1 := by kernel_rfl
  have c8 : Try.prog.cellsOf 5 = 1 := by kernel_rfl
  have hB : Try.prog.bytesOf 5 = 1 := by kernel_rfl
  have hBo : Try.prog.bytesOf 35 = 24 := by kernel_rfl
  obtain ⟨a, len, cap, rfl⟩ := okWide_slice uo hok
  obtain ⟨fuel, hf⟩ := h
  rcases Go.Deep.open_slice uo hf with ⟨hcs, _⟩ | ⟨x, l, c, m, n, D, Pl, hcs, _, hl, _, hm, hx, hel⟩
  · simp [Value.cells] at hcs
    obtain ⟨rfl, rfl, rfl⟩ := hcs
    exact ⟨none, 0, 0, [], rfl, Nat.le_refl _, (by omega), Go.Rd.Rd.nil, (fun x hx => (by cases hx)), (fun x hx => (by cases hx)), .inr rfl⟩
  · simp [Value.cells] at hcs
    obtain ⟨rfl, rfl, rfl⟩ := hcs
    obtain ⟨hx, _⟩ := Prod.mk.inj hx
    have hm : m = cap := by simpa using hm
    subst hm
    subst hx
    have z := sized_slice hsz ht hd uo
    rw [hBo] at z
    simp only [List.length_map, List.length_range] at z
    rw [show len + (m - len) = m by omega] at z
    have z : m * 24 ≤ 140737488351232 := z
    have key : ∀ i, i < len → ∃ p : Part, W.cell? (x.add i) = some p.v ∧ PIn W p ∧ ((∃ E S : List (DataW H), D i = .slice E S ∧ E.length = p.n) ∨ p.n = 0) := by
      intro i hi
      obtain ⟨cs, hc, htr⟩ := hel i (by omega)
      rw [cs', Nat.mul_one] at hc
      obtain ⟨_, hcl, hat⟩ := World.cells?_some hc
      have hcl : cs.length = 1 := hcl
      have cell := hat 0 (by omega)
      rw [Go.Deep.add_add, Nat.add_zero] at cell
      rcases open_ints us u8 c8 htr with ⟨hcs, _⟩ | ⟨y, ln, cp, zs, hcs, _, hl2, _, hz, hy, hcell, hwf⟩
      · subst hcs
        exact ⟨⟨none, 0, 0, []⟩, cell, ⟨Go.Rd.Rd.nil, Nat.le_refl _, by decide, fun x hx => (by cases hx), fun x hx => (by cases hx)⟩, .inr rfl⟩
      · subst hcs
        have hz : zs.length = cp := by simpa using hz
        have z2 := List.all_eq_true.1 hsz _ (DataW.weights_mem_each ht hd (cp * 1) (by
          simp only [DataW.weights, uo]
          refine List.mem_cons_of_mem _ (List.mem_append.2 (.inl (weightsAll_in (d := D i) (List.mem_map.2 ⟨i, List.mem_range.2 hi, rfl⟩) _ ?_)))
          rw [(Prod.mk.inj hy).1]
          simp only [DataW.weights, us, hB, lits, List.length_map, List.length_take, List.length_drop]
          rw [show min ln zs.length + (zs.length - ln) = cp by omega]
          exact List.mem_cons_self ..))
        have z2 : cp * 1 ≤ reachBytes := by simpa using z2
        rw [show reachBytes = 140737488351232 from rfl] at z2
        refine ⟨⟨some y, ln, cp, zs.take ln⟩, cell, ⟨⟨by rw [List.length_take]; show min ln _ = ln; omega, fun i q hq => ⟨y, rfl, ?_⟩⟩, hl2, by show ln ≤ _; omega, fun q hq => by have := hwf q (List.mem_of_mem_take hq); simpa [Lit.wf, IntKind.min, IntKind.max, IntKind.signed, IntKind.bits] using this, ?_⟩, .inl ⟨_, _, (Prod.mk.inj hy).1, by simp [lits]; omega⟩⟩
        · obtain ⟨hi, hq⟩ := List.getElem?_eq_some_iff.1 hq
          rw [List.length_take] at hi
          rw [Nat.mul_one, hcell i (by omega), ← hq]
          simp [List.getD, List.getElem?_eq_getElem (show i < zs.length by omega)]
        · rintro q hq h0
          obtain rfl := Option.some.inj hq
          have h0 : 0 < ln := h0
          have := hcell 0 (by omega)
          have := Go.Rd.cell_lt this
          rwa [Go.Rd.add_block] at this
    let g : Nat → Part := fun i => if h : i < len then Classical.choose (key i h) else ⟨none, 0, 0, []⟩
    have hg : ∀ i, i < len → W.cell? (x.add i) = some (g i).v ∧ PIn W (g i) ∧ ((∃ E S : List (DataW H), D i = .slice E S ∧ E.length = (g i).n) ∨ (g i).n = 0) := by
      intro i hi
      have : g i = Classical.choose (key i hi) := dif_pos hi
      rw [this]
      exact Classical.choose_spec (key i hi)
    have hgi : ∀ (i : Nat) (p : Part), ((List.range len).map g)[i]? = some p → i < len ∧ p = g i := by
      intro i p hp
      obtain ⟨hi, hp⟩ := List.getElem?_eq_some_iff.1 hp
      simp at hi hp
      exact ⟨hi, hp.symm⟩
    refine ⟨some x, len, m, (List.range len).map g, rfl, hl, by omega, ⟨by simp, fun i p hp => ⟨x, rfl, ?_⟩⟩, fun p hp => ?_, ?_, .inl ⟨_, _, rfl, by simp, fun i p hp => ?_⟩⟩
    · obtain ⟨hi, rfl⟩ := hgi i p hp
      rw [Nat.mul_one]
      exact (hg i hi).1
    · obtain ⟨i, hi, rfl⟩ := List.mem_map.1 hp
      exact (hg i (List.mem_range.1 hi)).2.1
    · rintro y hy h0
      obtain rfl := Option.some.inj hy
      have := (hg 0 h0).1
      have := cell_lt this
      rwa [add_block] at this
    · obtain ⟨hi, rfl⟩ := hgi i p hp
      refine ⟨D i, ?_, (hg i hi).2.2⟩
      rw [List.getElem?_map, List.getElem?_range hi]
      rfl
end Go.Proofs.Ythhfipjmjnfjlaa
