/- An argument that is a list of a graph's blocks, opened to its cells. -/
import Derived.Test.YtbchjihecdkfeaaBlDef
import Derived.Test.YtbchjihecdkfeaaOpenI
import Derived.WideShapes
import Derived.OpenShut
namespace Go.Proofs.Ytbchjihecdkfeaa
open Go.ChangeShapes Go.WideShapes Go.Deep Go.Rd Go.RowKit
set_option linter.unusedVariables false
set_option linter.unusedSimpArgs false
set_option maxRecDepth 100000

theorem take1 {l : List Value} {o : Nat} {v : Value} (h : (l.drop o).take 1 = [v]) : l[o]? = some v := by
  have := congrArg (fun l => l[0]?) h
  simpa using this
theorem wf_u8 {n : Int} (h : (Lit.int .u8 n).wf = true) : 0 ≤ n ∧ n ≤ 255 := by simpa [Lit.wf, IntKind.min, IntKind.max, IntKind.signed, IntKind.bits] using h
theorem wf_u16 {n : Int} (h : (Lit.int .u16 n).wf = true) : 0 ≤ n ∧ n ≤ 65535 := by simpa [Lit.wf, IntKind.min, IntKind.max, IntKind.signed, IntKind.bits] using h
theorem wf_u32 {n : Int} (h : (Lit.int .u32 n).wf = true) : 0 ≤ n ∧ n ≤ 4294967295 := by simpa [Lit.wf, IntKind.min, IntKind.max, IntKind.signed, IntKind.bits] using h
theorem wf_i64 {n : Int} (h : (Lit.int .i64 n).wf = true) : -9223372036854775808 ≤ n ∧ n ≤ 9223372036854775807 := by simpa [Lit.wf, IntKind.min, IntKind.max, IntKind.signed, IntKind.bits] using h
theorem weightsAll_mem {H : Type} {P : Program} {e : TypeId} : ∀ {l : List (DataW H)} {d : DataW H}, d ∈ l → ∀ n ∈ d.weights P e, n ∈ DataW.weightsAll P e l
  | d0 :: l, d, hd, n, hn => by
    simp only [DataW.weightsAll, List.mem_append]
    rcases List.mem_cons.1 hd with rfl | hd
    · exact .inl hn
    · exact .inr (weightsAll_mem hd n hn)
/-- What is told of a block that came in. -/
structure BIn (w : World) (p : BP) : Prop where
  rd : IInsns w p.A p.n p.b.code
  cap : p.n ≤ p.c
  size : p.n * 8 ≤ 140737488351232
  ok : p.b.ok
  lt : ∀ x, p.A = some x → 0 < p.n → x.block < w.heap.size

section
variable {H : Type} {enc : TypeId × Value → H} {W : World}
theorem uI : Try.prog.underlying 39 = some (.slice 47) := by kernel_rfl
theorem uB : Try.prog.underlying 22 = some (.slice 49) := by kernel_rfl
theorem insn_struct : ∃ f0 f1 f2 f3 : Field, Try.prog.underlying 47 = some (.struct #[f0, f1, f2, f3]) ∧ oneCellFields Try.prog #[f0, f1, f2, f3] = true ∧ f0.type = 45 ∧ f1.type = 5 ∧ f2.type = 5 ∧ f3.type = 31 ∧ f0.offset = 0 ∧ f1.offset = 1 ∧ f2.offset = 2 ∧ f3.offset = 3 :=
  ⟨(Try.prog.fieldsOf 47)[0]!, (Try.prog.fieldsOf 47)[1]!, (Try.prog.fieldsOf 47)[2]!, (Try.prog.fieldsOf 47)[3]!, by kernel_rfl, by kernel_rfl, by kernel_rfl, by kernel_rfl, by kernel_rfl, by kernel_rfl, by kernel_rfl, by kernel_rfl, by kernel_rfl, by kernel_rfl⟩
theorem block_struct : ∃ f0 f1 f2 f3 f4 : Field, Try.prog.underlying 49 = some (.struct #[f0, f1, f2, f3, f4]) ∧ f0.type = 39 ∧ f1.type = 3 ∧ f2.type = 47 ∧ f3.type = 3 ∧ f4.type = 3 ∧ f0.offset = 0 ∧ f1.offset = 1 ∧ f2.offset = 2 ∧ f3.offset = 6 ∧ f4.offset = 7 :=
  ⟨(Try.prog.fieldsOf 49)[0]!, (Try.prog.fieldsOf 49)[1]!, (Try.prog.fieldsOf 49)[2]!, (Try.prog.fieldsOf 49)[3]!, (Try.prog.fieldsOf 49)[4]!, by kernel_rfl, by kernel_rfl, by kernel_rfl, by kernel_rfl, by kernel_rfl, by kernel_rfl, by kernel_rfl, by kernel_rfl, by kernel_rfl, by kernel_rfl, by kernel_rfl⟩
theorem uInt : Try.prog.underlying 3 = some (.int .i64) := by kernel_rfl
theorem uU16 : Try.prog.underlying 45 = some (.int .u16) := by kernel_rfl
theorem uU8 : Try.prog.underlying 5 = some (.int .u8) := by kernel_rfl
theorem uU32 : Try.prog.underlying 31 = some (.int .u32) := by kernel_rfl
theorem cInsn : Try.prog.cellsOf 47 = 4 := by kernel_rfl
theorem cBlock : Try.prog.cellsOf 49 = 8 := by kernel_rfl
theorem cInt : Try.prog.cellsOf 3 = 1 := by kernel_rfl
theorem cU8 : Try.prog.cellsOf 5 = 1 := by kernel_rfl
theorem cU16 : Try.prog.cellsOf 45 = 1 := by kernel_rfl
theorem cU32 : Try.prog.cellsOf 31 = 1 := by kernel_rfl
theorem cInsns : Try.prog.cellsOf 39 = 1 := by kernel_rfl
theorem bInsn : Try.prog.bytesOf 47 = 8 := by kernel_rfl
theorem bBlock : Try.prog.bytesOf 49 = 56 := by kernel_rfl
/-- A list of instructions inside something that came in. -/
theorem insns_in {m : Nat} {cs : List Value} {x : DataW H × List MemPlace} (h : DataW.trod enc Try.prog W 0 (fun _ => true) true m 39 cs = some x) (hz : ∀ n ∈ x.1.weights Try.prog 39, n ≤ reachBytes) :
    ∃ (a : Option Addr) (len cap : Nat) (zs : List Ins), cs = [.slice a len cap] ∧ len ≤ cap ∧ len * 8 ≤ 140737488351232 ∧ IInsns W a len zs ∧ (∀ x ∈ zs, x.ok) ∧
      (∀ x, a = some x → 0 < len → x.block < W.heap.size) ∧ ((∃ E S : List (DataW H), x.1 = .slice E S ∧ E.length = len) ∨ len = 0) := by
  obtain ⟨f0, f1, f2, f3, he, hone, e0, e1, e2, e3, _⟩ := insn_struct
  have h0 : Try.prog.underlying f0.type = some (.int .u16) := by rw [e0]; exact uU16
  have h1 : Try.prog.underlying f1.type = some (.int .u8) := by rw [e1]; exact uU8
  have h2 : Try.prog.underlying f2.type = some (.int .u8) := by rw [e2]; exact uU8
  have h3 : Try.prog.underlying f3.type = some (.int .u32) := by rw [e3]; exact uU32
  rcases open_slice_fields uI he hone cInsn h with ⟨hcs, hx⟩ | ⟨x, l, cap, m, D, Pl, hcs, _, hl, _, hm, hx, hel⟩
  · subst hcs
    exact ⟨none, 0, 0, [], rfl, Nat.le_refl _, (by omega), RdM.nil, (fun x hx => (by cases hx)), (fun x hx => (by cases hx)), .inr rfl⟩
  · subst hcs
    subst hx
    have hm : m = cap := by simpa using hm
    subst hm
    have z := hz (m * 8) (by
      simp only [DataW.weights, uI, bInsn, List.length_map, List.length_range]
      rw [show l + (m - l) = m by omega]
      exact List.mem_cons_self ..)
    have z : m * 8 ≤ 140737488351232 := z
    have key : ∀ i, i < l → ∃ p : Ins, p.ok ∧ ∀ (j : Nat) (v : Value), p.v[j]? = some v → W.cell? (x.add (i * 4 + j)) = some v := by
      intro i hi
      obtain ⟨ys, n, _, _, _, hf⟩ := hel i (by omega)
      obtain ⟨v0, y0, c0, _, t0⟩ := hf 0 f0 rfl
      obtain ⟨v1, y1, c1, _, t1⟩ := hf 1 f1 rfl
      obtain ⟨v2, y2, c2, _, t2⟩ := hf 2 f2 rfl
      obtain ⟨v3, y3, c3, _, t3⟩ := hf 3 f3 rfl
      obtain ⟨n0, e0, _, w0⟩ := DataW.trod_int h0 t0
      obtain ⟨n1, e1, _, w1⟩ := DataW.trod_int h1 t1
      obtain ⟨n2, e2, _, w2⟩ := DataW.trod_int h2 t2
      obtain ⟨n3, e3, _, w3⟩ := DataW.trod_int h3 t3
      obtain rfl : v0 = _ := by simpa using e0
      obtain rfl : v1 = _ := by simpa using e1
      obtain rfl : v2 = _ := by simpa using e2
      obtain rfl : v3 = _ := by simpa using e3
      refine ⟨⟨n0, n1, n2, n3⟩, ⟨wf_u16 w0, wf_u8 w1, wf_u8 w2, wf_u32 w3⟩, fun j v hv => ?_⟩
      match j, hv with
      | 0, hv => obtain rfl := Option.some.inj hv; exact c0
      | 1, hv => obtain rfl := Option.some.inj hv; exact c1
      | 2, hv => obtain rfl := Option.some.inj hv; exact c2
      | 3, hv => obtain rfl := Option.some.inj hv; exact c3
      | (j + 4), hv => simp [Ins.v] at hv
    let g : Nat → Ins := fun i => if h : i < l then Classical.choose (key i h) else ⟨0, 0, 0, 0⟩
    have hg : ∀ i, i < l → (g i).ok ∧ ∀ (j : Nat) (v : Value), (g i).v[j]? = some v → W.cell? (x.add (i * 4 + j)) = some v := by
      intro i hi
      have : g i = Classical.choose (key i hi) := dif_pos hi
      rw [this]
      exact Classical.choose_spec (key i hi)
    have hat : ∀ (i : Nat) (p : Ins), ((List.range l).map g)[i]? = some p → i < l ∧ p = g i := by
      intro i p hp
      obtain ⟨hi, hp⟩ := List.getElem?_eq_some_iff.1 hp
      simp at hi hp
      exact ⟨hi, hp.symm⟩
    refine ⟨some x, l, m, (List.range l).map g, rfl, hl, by omega, ⟨by simp, RdC.of Ins.len (by omega) fun i p hp j v hv => ?_⟩, fun p hp => ?_, ?_, .inl ⟨_, _, rfl, by simp⟩⟩
    · obtain ⟨hi, rfl⟩ := hat i p hp
      exact (hg i hi).2 j v hv
    · obtain ⟨i, hi, rfl⟩ := List.mem_map.1 hp
      exact (hg i (List.mem_range.1 hi)).1
    · rintro y hy h0
      obtain rfl := Option.some.inj hy
      have := (hg 0 h0).2 0 _ rfl
      have := cell_lt this
      rwa [add_block] at this
theorem drop_take {l : List Value} {o n : Nat} (h : o + n ≤ l.length) {i : Nat} (hi : i < n) : ((l.drop o).take n)[i]? = l[o + i]? := by
  rw [List.getElem?_take, if_pos hi, List.getElem?_drop]
theorem open_blocks {v : Value} {d : DataW H} {ps : List MemPlace} {ts : List TypeId} {ds : List (DataW H)} {j : Nat} (hok : Value.okWide Try.prog W .any 0 22 v)
    (hsz : (DataW.weightsEach Try.prog ts ds).all (· ≤ reachBytes) = true) (ht : ts[j]? = some 22) (hd : ds[j]? = some d) (h : DataW.Trod enc Try.prog W 0 (fun _ => true) true 22 v d ps) :
    ∃ (a : Option Addr) (len cap : Nat) (zs : List BP), v = .slice a len cap ∧ len ≤ cap ∧ len * 56 ≤ 140737488351232 ∧ RdM BP.v W a len zs ∧ (∀ p ∈ zs, BIn W p) ∧ (∀ x, a = some x → 0 < len → x.block < W.heap.size) ∧
      ((∃ (E S : List (DataW H)), d = .slice E S ∧ E.length = len ∧ ∀ (i : Nat) (p : BP), zs[i]? = some p → ∃ D E2, E[i]? = some (.agg (D :: E2)) ∧ ((∃ E S : List (DataW H), D = .slice E S ∧ E.length = p.n) ∨ p.n = 0)) ∨ len = 0) := by
  obtain ⟨a, len, cap, rfl⟩ := okWide_slice uB hok
  obtain ⟨fuel, hf⟩ := h
  obtain ⟨f0, f1, f2, f3, f4, he, t0, t1, t2, t3, t4, o0, o1, o2, o3, o4⟩ := block_struct
  obtain ⟨g0, g1, g2, g3, ge, _, s0, s1, s2, s3, q0, q1, q2, q3⟩ := insn_struct
  rcases Go.Deep.open_slice uB hf with ⟨hcs, _⟩ | ⟨x, l, c, m, n, D, Pl, hcs, _, hl, _, hm, hx, hel⟩
  · simp [Value.cells] at hcs
    obtain ⟨rfl, rfl, rfl⟩ := hcs
    exact ⟨none, 0, 0, [], rfl, Nat.le_refl _, (by omega), RdM.nil, (fun x hx => (by cases hx)), (fun x hx => (by cases hx)), .inr rfl⟩
  · simp [Value.cells] at hcs
    obtain ⟨rfl, rfl, rfl⟩ := hcs
    obtain ⟨hx, _⟩ := Prod.mk.inj hx
    have hm : m = cap := by simpa using hm
    subst hm
    subst hx
    have z := sized_slice hsz ht hd uB
    rw [bBlock] at z
    simp only [List.length_map, List.length_range] at z
    rw [show len + (m - len) = m by omega] at z
    have z : m * 56 ≤ 140737488351232 := z
    have key : ∀ i, i < len → ∃ p : BP, (∀ (j : Nat) (v : Value), p.v[j]? = some v → W.cell? (x.add (i * 8 + j)) = some v) ∧ BIn W p ∧ ∃ D' E2, D i = .agg (D' :: E2) ∧ ((∃ E S : List (DataW H), D' = .slice E S ∧ E.length = p.n) ∨ p.n = 0) := by
      intro i hi
      obtain ⟨cs, hc, htr⟩ := hel i (by omega)
      rw [cBlock] at hc
      obtain ⟨_, hcl, hat⟩ := World.cells?_some hc
      obtain ⟨ys, n', hn', hy, hlen, hyl, hfl⟩ := DataW.trod_struct he htr
      have hlen : cs.length = 8 := by rw [hlen]; exact cBlock
      have hyl : ys.length = 5 := hyl
      have y0 := hfl 0 f0 rfl
      have y1 := hfl 1 f1 rfl
      have y2 := hfl 2 f2 rfl
      have y3 := hfl 3 f3 rfl
      have y4 := hfl 4 f4 rfl
      rw [t0, o0, cInsns, List.getElem?_eq_getElem (by omega)] at y0
      rw [t1, o1, cInt, List.getElem?_eq_getElem (by omega)] at y1
      rw [t2, o2, cInsn, List.getElem?_eq_getElem (by omega)] at y2
      rw [t3, o3, cInt, List.getElem?_eq_getElem (by omega)] at y3
      rw [t4, o4, cInt, List.getElem?_eq_getElem (by omega)] at y4
      obtain ⟨e1, v1, _, w1⟩ := DataW.trod_int uInt y1
      obtain ⟨e3, v3, _, w3⟩ := DataW.trod_int uInt y3
      obtain ⟨e4, v4, _, w4⟩ := DataW.trod_int uInt y4
      obtain ⟨zs2, n2, _, _, hlen2, hyl2, hf2⟩ := DataW.trod_struct ge y2
      have hyl2 : zs2.length = 4 := hyl2
      have i0 := hf2 0 g0 rfl
      have i1 := hf2 1 g1 rfl
      have i2 := hf2 2 g2 rfl
      have i3 := hf2 3 g3 rfl
      rw [s0, q0, cU16, List.getElem?_eq_getElem (by omega)] at i0
      rw [s1, q1, cU8, List.getElem?_eq_getElem (by omega)] at i1
      rw [s2, q2, cU8, List.getElem?_eq_getElem (by omega)] at i2
      rw [s3, q3, cU32, List.getElem?_eq_getElem (by omega)] at i3
      obtain ⟨b0, u0, _, x0⟩ := DataW.trod_int uU16 i0
      obtain ⟨b1, u1, _, x1⟩ := DataW.trod_int uU8 i1
      obtain ⟨b2, u2, _, x2⟩ := DataW.trod_int uU8 i2
      obtain ⟨b3, u3, _, x3⟩ := DataW.trod_int uU32 i3
      have k0 := take1 u0
      have k1 := take1 u1
      have k2 := take1 u2
      have k3 := take1 u3
      rw [drop_take (by omega) (by decide)] at k0 k1 k2 k3
      have hD : D i = .agg (ys.map (·.1)) := (Prod.mk.inj hy).1
      have mem : ys[0].1 ∈ ys.map (·.1) := List.mem_map.2 ⟨ys[0], List.getElem_mem _, rfl⟩
      have hz : ∀ n ∈ ys[0].1.weights Try.prog 39, n ≤ reachBytes := by
        intro n hn
        have z2 := List.all_eq_true.1 hsz n (DataW.weights_mem_each ht hd n (by
          simp only [DataW.weights, uB]
          refine List.mem_cons_of_mem _ (List.mem_append.2 (.inl (weightsAll_mem (d := D i) (List.mem_map.2 ⟨i, List.mem_range.2 hi, rfl⟩) _ ?_)))
          rw [hD]
          simp only [DataW.weights, he]
          exact DataW.weights_mem_each (j := 0) (t := 39) (by rw [← t0]; rfl) (by rw [List.getElem?_map, List.getElem?_eq_getElem (by omega)]; rfl) n hn))
        simpa using z2
      obtain ⟨ca, cl, cc, zs, hcs, c1, c2, c3, c4, c5, c6⟩ := insns_in y0 hz
      have k4 := take1 hcs
      have k5 := take1 v1
      have k6 := take1 v3
      have k7 := take1 v4
      have at_ : ∀ j, j < 8 → W.cell? (x.add (i * 8 + j)) = cs[j]? := by
        intro j hj
        have := hat j (by omega)
        rwa [Go.Deep.add_add] at this
      refine ⟨⟨ca, cl, cc, ⟨zs, e1, ⟨b0, b1, b2, b3⟩, e3, e4⟩⟩, fun j v hv => ?_, ⟨c3, c1, c2, ⟨c4, ⟨wf_u16 x0, wf_u8 x1, wf_u8 x2, wf_u32 x3⟩, wf_i64 w1, wf_i64 w3, wf_i64 w4⟩, c5⟩, ?_⟩
      · match j, hv with
        | 0, hv => obtain rfl := Option.some.inj hv; rw [at_ 0 (by decide)]; exact k4
        | 1, hv => obtain rfl := Option.some.inj hv; rw [at_ 1 (by decide)]; exact k5
        | 2, hv => obtain rfl := Option.some.inj hv; rw [at_ 2 (by decide)]; exact k0
        | 3, hv => obtain rfl := Option.some.inj hv; rw [at_ 3 (by decide)]; exact k1
        | 4, hv => obtain rfl := Option.some.inj hv; rw [at_ 4 (by decide)]; exact k2
        | 5, hv => obtain rfl := Option.some.inj hv; rw [at_ 5 (by decide)]; exact k3
        | 6, hv => obtain rfl := Option.some.inj hv; rw [at_ 6 (by decide)]; exact k6
        | 7, hv => obtain rfl := Option.some.inj hv; rw [at_ 7 (by decide)]; exact k7
        | (j + 8), hv => simp [BP.v] at hv
      · rw [hD]
        obtain ⟨y, r, hyr⟩ : ∃ y r, ys = y :: r := by
          cases ys with
          | nil => simp at hyl
          | cons y r => exact ⟨y, r, rfl⟩
        subst hyr
        exact ⟨y.1, r.map (·.1), rfl, c6⟩
    let g : Nat → BP := fun i => if h : i < len then Classical.choose (key i h) else ⟨none, 0, 0, ⟨[], 0, ⟨0, 0, 0, 0⟩, 0, 0⟩⟩
    have hg : ∀ i, i < len → (∀ (j : Nat) (v : Value), (g i).v[j]? = some v → W.cell? (x.add (i * 8 + j)) = some v) ∧ BIn W (g i) ∧ ∃ D' E2, D i = .agg (D' :: E2) ∧ ((∃ E S : List (DataW H), D' = .slice E S ∧ E.length = (g i).n) ∨ (g i).n = 0) := by
      intro i hi
      have : g i = Classical.choose (key i hi) := dif_pos hi
      rw [this]
      exact Classical.choose_spec (key i hi)
    have hgi : ∀ (i : Nat) (p : BP), ((List.range len).map g)[i]? = some p → i < len ∧ p = g i := by
      intro i p hp
      obtain ⟨hi, hp⟩ := List.getElem?_eq_some_iff.1 hp
      simp at hi hp
      exact ⟨hi, hp.symm⟩
    refine ⟨some x, len, m, (List.range len).map g, rfl, hl, by omega, ⟨by simp, RdC.of BP.len (by omega) fun i p hp j v hv => ?_⟩, fun p hp => ?_, ?_, .inl ⟨_, _, rfl, by simp, fun i p hp => ?_⟩⟩
    · obtain ⟨hi, rfl⟩ := hgi i p hp
      exact (hg i hi).1 j v hv
    · obtain ⟨i, hi, rfl⟩ := List.mem_map.1 hp
      exact (hg i (List.mem_range.1 hi)).2.1
    · rintro y hy h0
      obtain rfl := Option.some.inj hy
      have := (hg 0 h0).1 0 _ rfl
      have := cell_lt this
      rwa [add_block] at this
    · obtain ⟨hi, rfl⟩ := hgi i p hp
      obtain ⟨D', E2, h1, h2⟩ := (hg i hi).2.2
      refine ⟨D', E2, ?_, h2⟩
      rw [List.getElem?_map, List.getElem?_range hi]
      exact congrArg some h1
end
end Go.Proofs.Ytbchjihecdkfeaa
