/- An argument that is a list of calls, opened. -/
import Derived.Test.YthhfipjmjnfjlaaOpenLL
import Derived.Test.YthhfipjmjnfjlaaOpenI
import Derived.WideShapes
import Derived.OpenShut
import Derived.Deep.Fields
namespace Go.Proofs.Ythhfipjmjnfjlaa
open Go.ChangeShapes Go.WideShapes Go.Deep Go.Rd Go.RowKit
set_option linter.unusedVariables false
set_option linter.unusedSimpArgs false
set_option maxRecDepth 100000

/-- A call: its kind, its class, its frame and where that lies. -/
structure AP where
  k : Int
  cl : Int
  p : Part
def AP.v (a : AP) : List Value := [.int .i64 a.k, .int .i64 a.cl, .slice a.p.A a.p.n a.p.c]
theorem AP.len (a : AP) : a.v.length = 3 := rfl
theorem take_one {l : List Value} {o : Nat} {v : Value} (h : (l.drop o).take 1 = [v]) : l[o]? = some v := by
  have := congrArg (fun l => l[0]?) h
  simpa using this
theorem wfi64 {n : Int} (h : (Lit.int .i64 n).wf = true) : -9223372036854775808 ≤ n ∧ n ≤ 9223372036854775807 := by simpa [Lit.wf, IntKind.min, IntKind.max, IntKind.signed, IntKind.bits] using h
structure AIn (w : World) (a : AP) : Prop where
  fr : PIn w a.p
  k : -9223372036854775808 ≤ a.k ∧ a.k ≤ 9223372036854775807
  cl : -9223372036854775808 ≤ a.cl ∧ a.cl ≤ 9223372036854775807
section
variable {H : Type} {enc : TypeId × Value → H} {W : World}
theorem act_struct : ∃ f0 f1 f2 : Field, Try.prog.underlying 37 = some (.struct #[f0, f1, f2]) ∧ f0.type = 3 ∧ f1.type = 3 ∧ f2.type = 35 ∧ f0.offset = 0 ∧ f1.offset = 1 ∧ f2.offset = 2 :=
  ⟨(Try.prog.fieldsOf 37)[0]!, (Try.prog.fieldsOf 37)[1]!, (Try.prog.fieldsOf 37)[2]!, by kernel_rfl, by kernel_rfl, by kernel_rfl, by kernel_rfl, by kernel_rfl, by kernel_rfl, by kernel_rfl⟩
theorem open_acts {v : Value} {d : DataW H} {ps : List MemPlace} {ts : List TypeId} {ds : List (DataW H)} {j : Nat} (hok : Value.okWide Try.prog W .any 0 23 v)
    (hsz : (DataW.weightsEach Try.prog ts ds).all (· ≤ reachBytes) = true) (ht : ts[j]? = some 23) (hd : ds[j]? = some d) (h : DataW.Trod enc Try.prog W 0 (fun _ => true) true 23 v d ps) :
    ∃ (a : Option Addr) (len cap : Nat) (zs : List AP), v = .slice a len cap ∧ len ≤ cap ∧ len * 40 ≤ 140737488351232 ∧ RdM AP.v W a len zs ∧ (∀ p ∈ zs, AIn W p) ∧ (∀ x, a = some x → 0 < len → x.block < W.heap.size) ∧ True := by
  have uA : Try.prog.underlying 23 = some (.slice 37) := by kernel_rfl
  have us : Try.prog.underlying 35 = some (.slice 5) := by kernel_rfl
  have u8 : Try.prog.underlying 5 = some (.int .u8) := by kernel_rfl
  have uI : Try.prog.underlying 3 = some (.int .i64) := by kernel_rfl
  have cs' : Try.prog.cellsOf 35 = 1 := by kernel_rfl
  have cI : Try.prog.cellsOf 3 = 1 := by kernel_rfl
  have c8 : Try.prog.cellsOf 5 = 1 := by kernel_rfl
  have cA : Try.prog.cellsOf 37 = 3 := by kernel_rfl
  have hB : Try.prog.bytesOf 5 = 1 := by kernel_rfl
  have bA : Try.prog.bytesOf 37 = 40 := by kernel_rfl
  obtain ⟨a, len, cap, rfl⟩ := okWide_slice uA hok
  obtain ⟨fuel, hf⟩ := h
  obtain ⟨f0, f1, f2, he, t0, t1, t2, o0, o1, o2⟩ := act_struct
  rcases Go.Deep.open_slice uA hf with ⟨hcs, _⟩ | ⟨x, l, c, m, n, D, Pl, hcs, _, hl, _, hm, hx, hel⟩
  · simp [Value.cells] at hcs
    obtain ⟨rfl, rfl, rfl⟩ := hcs
    exact ⟨none, 0, 0, [], rfl, Nat.le_refl _, (by omega), RdM.nil, (fun x hx => (by cases hx)), (fun x hx => (by cases hx)), trivial⟩
  · simp [Value.cells] at hcs
    obtain ⟨rfl, rfl, rfl⟩ := hcs
    obtain ⟨hx, _⟩ := Prod.mk.inj hx
    have hm : m = cap := by simpa using hm
    subst hm
    subst hx
    have z := sized_slice hsz ht hd uA
    rw [bA] at z
    simp only [List.length_map, List.length_range] at z
    rw [show len + (m - len) = m by omega] at z
    have z : m * 40 ≤ 140737488351232 := z
    have key : ∀ i, i < len → ∃ p : AP, (∀ (j : Nat) (v : Value), p.v[j]? = some v → W.cell? (x.add (i * 3 + j)) = some v) ∧ AIn W p := by
      intro i hi
      obtain ⟨cs, hc, htr⟩ := hel i (by omega)
      rw [cA] at hc
      obtain ⟨_, hcl, hat⟩ := World.cells?_some hc
      obtain ⟨ys, n', hn', hy, hlen, hyl, hfl⟩ := DataW.trod_struct he htr
      have hlen : cs.length = 3 := by rw [hlen]; exact cA
      have hyl : ys.length = 3 := hyl
      have y0 := hfl 0 f0 rfl
      have y1 := hfl 1 f1 rfl
      have y2 := hfl 2 f2 rfl
      rw [t0, o0, cI, List.getElem?_eq_getElem (by omega)] at y0
      rw [t1, o1, cI, List.getElem?_eq_getElem (by omega)] at y1
      rw [t2, o2, cs', List.getElem?_eq_getElem (by omega)] at y2
      obtain ⟨e0, v0, _, w0⟩ := DataW.trod_int uI y0
      obtain ⟨e1, v1, _, w1⟩ := DataW.trod_int uI y1
      have k0 := take_one v0
      have k1 := take_one v1
      have hD : D i = .agg (ys.map (·.1)) := (Prod.mk.inj hy).1
      have hz : ∀ n ∈ ys[2].1.weights Try.prog 35, n ≤ reachBytes := by
        intro n hn
        have z2 := List.all_eq_true.1 hsz n (DataW.weights_mem_each ht hd n (by
          simp only [DataW.weights, uA]
          refine List.mem_cons_of_mem _ (List.mem_append.2 (.inl (weightsAll_in (d := D i) (List.mem_map.2 ⟨i, List.mem_range.2 hi, rfl⟩) _ ?_)))
          rw [hD]
          simp only [DataW.weights, he]
          exact DataW.weights_mem_each (j := 2) (t := 35) (by rw [← t2]; rfl) (by rw [List.getElem?_map, List.getElem?_eq_getElem (by omega)]; rfl) n hn))
        simpa using z2
      have at_ : ∀ j, j < 3 → W.cell? (x.add (i * 3 + j)) = cs[j]? := by
        intro j hj
        have := hat j (by omega)
        rwa [Go.Deep.add_add] at this
      rcases open_ints us u8 c8 y2 with ⟨hcs, _⟩ | ⟨y, ln, cp, zs, hcs, _, hl2, _, hz2, hy2, hcell, hwf⟩
      · have k2 := take_one hcs
        refine ⟨⟨e0, e1, ⟨none, 0, 0, []⟩⟩, fun j v hv => ?_, ⟨⟨Go.Rd.Rd.nil, Nat.le_refl _, Nat.zero_le _, (fun x hx => (by cases hx)), (fun x hx => (by cases hx))⟩, wfi64 w0, wfi64 w1⟩⟩
        match j, hv with
        | 0, hv => obtain rfl := Option.some.inj hv; rw [at_ 0 (by decide)]; exact k0
        | 1, hv => obtain rfl := Option.some.inj hv; rw [at_ 1 (by decide)]; exact k1
        | 2, hv => obtain rfl := Option.some.inj hv; rw [at_ 2 (by decide)]; exact k2
        | (j + 3), hv => simp [AP.v] at hv
      · have k2 := take_one hcs
        have hzl : zs.length = cp := by simpa using hz2
        have z2 : cp * 1 ≤ reachBytes := hz (cp * 1) (by
          have e2 : ys[2].1 = _ := (Prod.mk.inj hy2).1
          rw [e2]
          simp only [DataW.weights, us, hB, lits, List.length_map, List.length_take, List.length_drop]
          rw [show min ln zs.length + (zs.length - ln) = cp by omega]
          exact List.mem_cons_self ..)
        rw [show reachBytes = 140737488351232 from rfl] at z2
        refine ⟨⟨e0, e1, ⟨some y, ln, cp, zs.take ln⟩⟩, fun j v hv => ?_, ⟨⟨⟨by rw [List.length_take]; show min ln _ = ln; omega, fun i q hq => ⟨y, rfl, ?_⟩⟩, hl2, by show ln ≤ _; omega, fun q hq => by have := hwf q (List.mem_of_mem_take hq); simpa [Lit.wf, IntKind.min, IntKind.max, IntKind.signed, IntKind.bits] using this, ?_⟩, wfi64 w0, wfi64 w1⟩⟩
        · match j, hv with
          | 0, hv => obtain rfl := Option.some.inj hv; rw [at_ 0 (by decide)]; exact k0
          | 1, hv => obtain rfl := Option.some.inj hv; rw [at_ 1 (by decide)]; exact k1
          | 2, hv => obtain rfl := Option.some.inj hv; rw [at_ 2 (by decide)]; exact k2
          | (j + 3), hv => simp [AP.v] at hv
        · obtain ⟨hi, hq⟩ := List.getElem?_eq_some_iff.1 hq
          rw [List.length_take] at hi
          rw [Nat.mul_one, hcell i (by omega), ← hq]
          simp [List.getD, List.getElem?_eq_getElem (show i < zs.length by omega)]
        · rintro q hq h0
          obtain rfl := Option.some.inj hq
          have h0 : 0 < ln := h0
          have := hcell 0 (by omega)
          have := Go.Rd.cell_lt this
          rwa [Go.Rd.add_block] at this
    let g : Nat → AP := fun i => if h : i < len then Classical.choose (key i h) else ⟨0, 0, ⟨none, 0, 0, []⟩⟩
    have hg : ∀ i, i < len → (∀ (j : Nat) (v : Value), (g i).v[j]? = some v → W.cell? (x.add (i * 3 + j)) = some v) ∧ AIn W (g i) := by
      intro i hi
      have : g i = Classical.choose (key i hi) := dif_pos hi
      rw [this]
      exact Classical.choose_spec (key i hi)
    have hgi : ∀ (i : Nat) (p : AP), ((List.range len).map g)[i]? = some p → i < len ∧ p = g i := by
      intro i p hp
      obtain ⟨hi, hp⟩ := List.getElem?_eq_some_iff.1 hp
      simp at hi hp
      exact ⟨hi, hp.symm⟩
    refine ⟨some x, len, m, (List.range len).map g, rfl, hl, by omega, ⟨by simp, RdC.of AP.len (by omega) fun i p hp j v hv => ?_⟩, fun p hp => ?_, ?_, trivial⟩
    · obtain ⟨hi, rfl⟩ := hgi i p hp
      exact (hg i hi).1 j v hv
    · obtain ⟨i, hi, rfl⟩ := List.mem_map.1 hp
      exact (hg i (List.mem_range.1 hi)).2
    · rintro y hy h0
      obtain rfl := Option.some.inj hy
      have := (hg 0 h0).1 0 _ rfl
      have := cell_lt this
      rwa [add_block] at this
end
end Go.Proofs.Ythhfipjmjnfjlaa
