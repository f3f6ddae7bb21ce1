/- The statement over straight programs, walked. -/
import Derived.Test.YtllooifbiapeoaaV2
import Derived.Test.YtllooifbiapeoaaD17
namespace Go.Proofs.Ytllooifbiapeoaa
open Go.Rd Go.RowKit
set_option linter.unusedVariables false
set_option linter.unusedSimpArgs false
set_option maxRecDepth 100000

section
variable {W : World} {a b s : Int} {A B : Option Addr} {i : Nat} {R : Value → World → Prop} {wl : List Int}
theorem okX {op : Int} (hop : op ∈ xops) (ha : U a) (hb : U b) (hs : 0 ≤ s ∧ s < 16) : Inss (progX op a b s) := by
  intro y hy
  have us : U s := ⟨by omega, by omega⟩
  have ho := (xop_facts hop).2.2.2.2.2.1
  simp only [progX, List.mem_cons, List.not_mem_nil, or_false] at hy
  rcases hy with rfl | rfl | rfl | rfl | rfl | rfl
  · exact ok4 (by decide) (by decide) (by decide) hb
  · exact ok4 (by decide) (by decide) (by decide) us
  · exact ok4 (by decide) (by decide) (by decide) ha
  · exact ok4 (by decide) (by decide) (by decide) us
  · exact ok4 ho (by decide) (by decide) ⟨by decide, by decide⟩
  · exact ok4 (by decide) (by decide) (by decide) ⟨by decide, by decide⟩
theorem okK {op : Int} (hop : op ∈ xops) (ha : U a) (hb : U b) : Inss (progK (andNotI .u16 op 8) a b) := by
  intro y hy
  have ho := (xop_facts hop).2.2.2.2.2.2.2.2.2.2.2.2.2.1
  simp only [progK, List.mem_cons, List.not_mem_nil, or_false] at hy
  rcases hy with rfl | rfl | rfl
  · exact ok4 (by decide) (by decide) (by decide) ha
  · exact ok4 ho (by decide) (by decide) hb
  · exact ok4 (by decide) (by decide) (by decide) ⟨by decide, by decide⟩
/-- What stands through the rounds: the program, with some code in its fifth; the codes; what is wanted. -/
structure Vs (W w : World) (pb : Nat) (a b s : Int) (A B : Option Addr) (wl : List Int) : Prop where
  x : Go.Rd.Ext W w
  hpb : W.heap.size ≤ pb
  p : ∃ op, w.heap[pb]? = some (.cells ((progX op a b s).flatMap Ins.v).toArray 45 (0, 0))
  ro : Rd (Value.int .u16) w A 10 xops
  rw : Rd (Value.int .u32) w B 10 wl
  nA : ∀ z, A = some z → z.block ≠ pb
  nB : ∀ z, B = some z → z.block ≠ pb
theorem Vs.ext {w w' : World} {pb : Nat} (h : Vs W w pb a b s A B wl) (e : Go.Rd.Ext w w') : Vs W w' pb a b s A B wl :=
  ⟨h.x.trans e, h.hpb, h.p.imp fun _ h => e.heap h, h.ro.ext e, h.rw.ext e, h.nA, h.nB⟩
theorem vs_one {w : World} {pb : Nat} {op want : Int} (hV : Vs W w pb a b s A B wl) (ha : U a) (hb : U b) (hs : 0 ≤ s ∧ s < 16) (hi : i < 10) (hop : xops[i]? = some op) (hw : wl[i]? = some want) (hm : op ∈ xops)
    (hv : aluX op a b = if b = 0 ∧ 7 < i then none else some want) (hz : b = 0 ∧ 7 < i → want = 0) (hf : ¬ (b = 0 ∧ 7 < i) → ¬ (31 < b ∧ (i = 6 ∨ i = 7)) → faultOf ⟨andNotI .u16 op 8, 0, 0, b⟩ = 0)
    (hnext : ∀ w', Vs W w' pb a b s A B wl → law5_VmStraight.L0 R a b (some ⟨pb, 0, none⟩) 6 6 A 10 10 B 10 10 ((i + 1 : Nat) : Int) w') :
    law5_VmStraight.L0 R a b (some ⟨pb, 0, none⟩) 6 6 A 10 10 B 10 10 (i : Int) w := by
  have tI : Int.toNat ((i : Nat) : Int) = i := Int.toNat_natCast i
  have co : ∀ {u : World}, Vs W u pb a b s A B wl → ∃ z, A = some z ∧ u.cell? (z.add (Int.toNat ((i : Nat) : Int) * 1)) = some (.int .u16 op) := by
    intro u hu
    rw [tI]
    exact hu.ro.2 i op hop
  have cb : ∀ {u : World}, Vs W u pb a b s A B wl → ∃ z, B = some z ∧ u.cell? (z.add (Int.toNat ((i : Nat) : Int) * 1)) = some (.int .u32 want) := by
    intro u hu
    rw [tI]
    exact hu.rw.2 i want hw
  obtain ⟨z, hz1, hz2⟩ := co hV
  obtain ⟨y, hy1, _⟩ := cb hV
  obtain ⟨op0, hp0⟩ := hV.p
  have tick : ∀ w', Vs W w' pb a b s A B wl → law5_VmStraight.J7 R a b (some ⟨pb, 0, none⟩) 6 6 A 10 10 B 10 10 i w' := by
    intro w' h'
    unfold law5_VmStraight.J7
    rw [wrap_i64 (by omega) (by omega)]
    exact hnext w' h'
  refine law5_VmStraight.L0_step (ifP_yes (by omega) ⟨by omega, by omega, z, hz1, op, hz2, by omega, by omega, _, rfl, cell_put hp0 (i := 16) (show 16 < 24 by decide) (by rw [add_mk]; rfl) fun w1 h1 k1 => ?_⟩)
  have p1 : w1.heap[pb]? = some (.cells ((progX op a b s).flatMap Ins.v).toArray 45 (0, 0)) := h1
  have V1 : Vs W w1 pb a b s A B wl := ⟨hV.x.fresh k1 fun j hj => by rw [hj]; exact hV.hpb, hV.hpb, ⟨op, p1⟩, hV.ro.keep k1 (by intro z hz; exact hV.nA z hz), hV.rw.keep k1 (by intro z hz; exact hV.nB z hz), hV.nA, hV.nB⟩
  have i1 : IInsns w1 (some ⟨pb, 0, none⟩) 6 (progX op a b s) := by
    have : OInsns w1 (some ⟨pb, 0, none⟩) 6 (progX op a b s) := .inr ⟨_, [], rfl, by rw [List.append_nil]; exact p1, rfl⟩
    exact this.rdM rfl
  refine (copyInsns_spec i1 (by decide)).mono ?_
  rintro v w2 ⟨A2, c2, rfl, o2, l2, b2, x2⟩
  refine ⟨_, _, _, rfl, (vrun_spec (o2.rdM l2) (okX hm ha hb hs) (by decide) (P := none) (pn := 0) (pc := 0) (pkt := []) Rd.nil (Nat.le_refl _)).mono ?_⟩
  rintro v w3 ⟨rfl, x3⟩
  obtain ⟨ec, ev⟩ := progX_verd (a := a) (b := b) hm hs.1 hs.2
  refine ⟨_, _, _, _, rfl, vstore (x := verdV (progX op a b s) []) fun w4 v4 x4 s4 => ?_⟩
  have V4 := V1.ext ((x2.trans x3).trans x4)
  -- behind the first program
  have five : ∀ w', Vs W w' pb a b s A B wl → law5_VmStraight.J5 R a b (some ⟨pb, 0, none⟩) 6 6 A 10 10 B 10 10 i w' := by
    intro w' V'
    have second : ¬ (b = 0 ∧ 7 < i) → ¬ (31 < b ∧ (i = 6 ∨ i = 7)) → law5_VmStraight.J6 R a b (some ⟨pb, 0, none⟩) 6 6 A 10 10 B 10 10 i false w' := by
      intro n1 n2
      rw [if_neg n1] at hv
      obtain ⟨fc, fv⟩ := progK_verd hm (hf n1 n2) hv
      obtain ⟨z2, hz3, hz4⟩ := co V'
      refine ifP_f rfl ?_
      unfold law5_VmStraight.J8
      refine ⟨by omega, by omega, z2, hz3, op, hz4, letA fun w5 h5 x5 s5 => ?_⟩
      have i5 : IInsns w5 (some (newA w')) 3 (progK (andNotI .u16 op 8) a b) := (lit_insns (xs := progK (andNotI .u16 op 8) a b) h5 rfl).rdM rfl
      refine (vrun_spec i5 (okK hm ha hb) (by decide) (P := none) (pn := 0) (pc := 0) (pkt := []) Rd.nil (Nat.le_refl _)).mono ?_
      rintro v w6 ⟨rfl, x6⟩
      refine ⟨_, _, _, _, rfl, vstore (x := verdV (progK (andNotI .u16 op 8) a b) []) fun w7 v7 x7 s7 => ?_⟩
      have V7 := V'.ext ((x5.trans x6).trans x7)
      rw [fv] at v7
      refine ⟨fun u => VAt u w6.heap.size (want, 0, 3) ∧ Vs W u pb a b s A B wl, ⟨v7.ext (Go.Rd.Ext.drew w7), V7.ext (Go.Rd.Ext.drew w7)⟩, letD fun w8 _ x8 => ifP_nne fc ?_⟩
      refine ⟨_, fun u hu => hu.1.c0, _, fun u hu => hu.1.c1, _, fun u hu => hu.1.c2, by omega, by omega, y, hy1, want, fun u hu => ?_, _, _, verd_neq, _, rfl, ?_⟩
      · obtain ⟨y2, hy2, hy3⟩ := cb hu.2
        rw [hy1] at hy2
        obtain rfl := Option.some.inj hy2
        exact hy3
      · exact ifP_f (by simp) (tick w8 (V7.ext x8))
    have big : ¬ (b = 0 ∧ 7 < i) → (ifP (decide ((b : Int) > 31)) (ifP ((i : Int) == 6) (law5_VmStraight.J6 R a b (some ⟨pb, 0, none⟩) 6 6 A 10 10 B 10 10 i true w') (law5_VmStraight.J6 R a b (some ⟨pb, 0, none⟩) 6 6 A 10 10 B 10 10 i ((i : Int) == 7) w')) (law5_VmStraight.J6 R a b (some ⟨pb, 0, none⟩) 6 6 A 10 10 B 10 10 i false w')) := by
      intro n1
      refine ifP_decide.2 ⟨fun h31 => ifP_beq.2 ⟨fun h6 => ifP_t rfl (tick w' V'), fun h6 => ?_⟩, fun h31 => second n1 fun h => h31 h.1⟩
      by_cases h7 : (i : Int) = 7
      · rw [show ((i : Int) == 7) = true by rw [h7]; rfl]
        exact ifP_t rfl (tick w' V')
      · rw [show ((i : Int) == 7) = false by simpa using h7]
        exact second n1 fun h => by omega
    refine ifP_beq.2 ⟨fun h0 => ifP_decide.2 ⟨fun h7 => ifP_t rfl (tick w' V'), fun h7 => big fun h => by omega⟩, fun h0 => big fun h => h0 h.1⟩
  have three : ∀ fault steps : Int, verdV (progX op a b s) [] = (want, fault, steps) → law5_VmStraight.J3 R a b (some ⟨pb, 0, none⟩) 6 6 A 10 10 B 10 10 i ⟨w3.heap.size, 0, none⟩ (codeV (progX op a b s) []) fault steps w4 := by
    intro fault steps e
    rw [e] at v4
    refine ⟨fun u => VAt u w3.heap.size (want, fault, steps) ∧ Vs W u pb a b s A B wl, ⟨v4.ext (Go.Rd.Ext.drew w4), V4.ext (Go.Rd.Ext.drew w4)⟩, letD fun w5 _ x5 => ifP_nne ec ?_⟩
    refine ⟨_, fun u hu => hu.1.c0, _, fun u hu => hu.1.c1, _, fun u hu => hu.1.c2, by omega, by omega, y, hy1, want, fun u hu => ?_, _, _, verd_neq, _, rfl, ?_⟩
    · obtain ⟨y2, hy2, hy3⟩ := cb hu.2
      rw [hy1] at hy2
      obtain rfl := Option.some.inj hy2
      exact hy3
    · exact ifP_f (by simp) (five w5 (V4.ext x5))
  by_cases hzz : b = 0 ∧ 7 < i
  · rw [if_pos hzz] at hv
    rw [hv] at ev
    refine ifP_t (by rw [hzz.1]; rfl) ?_
    rw [show decide (((i : Nat) : Int) > 7) = true by rw [decide_eq_true_eq]; omega]
    exact ifP_t rfl (three 2 5 (by rw [ev, hz hzz]))
  · rw [if_neg hzz] at hv
    rw [hv] at ev
    have go := three 0 6 ev
    refine ifP_beq.2 ⟨fun h0 => ?_, fun h0 => ifP_f rfl go⟩
    rw [show decide (((i : Nat) : Int) > 7) = false by rw [decide_eq_false_iff_not]; omega]
    exact ifP_f rfl go
end
/-- What the operations tell. -/
theorem want_at {a b l r d m : Int} (ha : U a) (hb : U b) (hl : l = if b < 32 then IntKind.u32.wrap (a * 2 ^ (min (Int.toNat b) (IntKind.bits .u32))) else 0) (hr : r = if b < 32 then Int.fdiv a (2 ^ (min (Int.toNat b) (IntKind.bits .u32))) else 0) (hd : b ≠ 0 → d = IntKind.u32.wrap (Int.tdiv a b)) (hm : b ≠ 0 → m = Int.tmod a b) {i : Nat} {op want : Int} (hop : xops[i]? = some op) (hw : (wantL a b l r d m)[i]? = some want) :
    aluX op a b = if b = 0 ∧ 7 < i then none else some want := by
  have ho : ∀ x ∈ [((12 : Int), (4 : Int)), (28, 20), (44, 36), (76, 68), (92, 84), (172, 164), (108, 100), (124, 116), (60, 52), (156, 148)], opOf x.1 = x.2 := by decide +kernel
  unfold U at ha hb
  match i, hop, hw with
  | 0, hop, hw => obtain rfl := Option.some.inj hop; obtain rfl := Option.some.inj hw; rw [aluX, ho (12, 4) (by decide), if_pos rfl, if_neg (by omega)]
  | 1, hop, hw => obtain rfl := Option.some.inj hop; obtain rfl := Option.some.inj hw; rw [aluX, ho (28, 20) (by decide), if_neg (by decide), if_pos rfl, if_neg (by omega)]
  | 2, hop, hw => obtain rfl := Option.some.inj hop; obtain rfl := Option.some.inj hw; rw [aluX, ho (44, 36) (by decide), if_neg (by decide), if_neg (by decide), if_pos rfl, if_neg (by omega)]
  | 3, hop, hw => obtain rfl := Option.some.inj hop; obtain rfl := Option.some.inj hw; rw [aluX, ho (76, 68) (by decide), if_neg (by decide), if_neg (by decide), if_neg (by decide), if_pos rfl, if_neg (by omega)]
  | 4, hop, hw => obtain rfl := Option.some.inj hop; obtain rfl := Option.some.inj hw; rw [aluX, ho (92, 84) (by decide), if_neg (by decide), if_neg (by decide), if_neg (by decide), if_neg (by decide), if_pos rfl, if_neg (by omega)]
  | 5, hop, hw => obtain rfl := Option.some.inj hop; obtain rfl := Option.some.inj hw; rw [aluX, ho (172, 164) (by decide), if_neg (by decide), if_neg (by decide), if_neg (by decide), if_neg (by decide), if_neg (by decide), if_pos rfl, if_neg (by omega)]
  | 6, hop, hw =>
    obtain rfl := Option.some.inj hop
    obtain rfl : l = want := Option.some.inj hw
    rw [aluX, ho (108, 100) (by decide), if_neg (by decide), if_neg (by decide), if_neg (by decide), if_neg (by decide), if_neg (by decide), if_neg (by decide), if_pos rfl, if_neg (by omega), hl]
    split
    · rfl
    · have e : min (Int.toNat b) (IntKind.bits .u32) = 32 := by
        show min (Int.toNat b) 32 = 32
        omega
      rw [e, wrap_u32_mod]
      congr 1
      show a * 4294967296 % 4294967296 = 0
      omega
  | 7, hop, hw =>
    obtain rfl := Option.some.inj hop
    obtain rfl : r = want := Option.some.inj hw
    rw [aluX, ho (124, 116) (by decide), if_neg (by decide), if_neg (by decide), if_neg (by decide), if_neg (by decide), if_neg (by decide), if_neg (by decide), if_neg (by decide), if_pos rfl, if_neg (by omega), hr]
    split
    · rfl
    · have e : min (Int.toNat b) (IntKind.bits .u32) = 32 := by
        show min (Int.toNat b) 32 = 32
        omega
      rw [e, Int.fdiv_eq_ediv_of_nonneg a (by decide)]
      congr 1
      show a / 4294967296 = 0
      omega
  | 8, hop, hw =>
    obtain rfl := Option.some.inj hop
    obtain rfl : d = want := Option.some.inj hw
    rw [aluX, ho (60, 52) (by decide), if_neg (by decide), if_neg (by decide), if_neg (by decide), if_neg (by decide), if_neg (by decide), if_neg (by decide), if_neg (by decide), if_neg (by decide)]
    by_cases h0 : b = 0
    · rw [if_pos h0, if_pos ⟨h0, by decide⟩]
    · rw [if_neg h0, if_pos (show ((60 : Int), (52 : Int)).2 = 52 from rfl), if_neg (fun h => h0 h.1), hd h0]
  | 9, hop, hw =>
    obtain rfl := Option.some.inj hop
    obtain rfl : m = want := Option.some.inj hw
    rw [aluX, ho (156, 148) (by decide), if_neg (by decide), if_neg (by decide), if_neg (by decide), if_neg (by decide), if_neg (by decide), if_neg (by decide), if_neg (by decide), if_neg (by decide)]
    by_cases h0 : b = 0
    · rw [if_pos h0, if_pos ⟨h0, by decide⟩]
    · rw [if_neg h0, if_neg (show ¬ ((156 : Int), (148 : Int)).2 = 52 by decide), if_neg (fun h => h0 h.1), hm h0]
  | i + 10, hop, hw => cases hop
theorem fault_at {b : Int} (hb : U b) {i : Nat} {op : Int} (hop : xops[i]? = some op) (h1 : ¬ (b = 0 ∧ 7 < i)) (h2 : ¬ (31 < b ∧ (i = 6 ∨ i = 7))) : faultOf ⟨andNotI .u16 op 8, 0, 0, b⟩ = 0 := by
  have hi : i < 10 := (List.getElem?_eq_some_iff.1 hop).1
  have f := xop_facts (List.mem_of_getElem? hop)
  have hz : ∀ (j : Fin 10) (x : Int), xops[j.val]? = some x → ((andNotI .u16 x 8 = 52 ∨ andNotI .u16 x 8 = 148) → 7 < j.val) ∧ ((andNotI .u16 x 8 = 100 ∨ andNotI .u16 x 8 = 116) → (j.val = 6 ∨ j.val = 7)) := by
    intro j x hx
    have : ∀ j : Fin 10, ((andNotI .u16 (xops.getD j.val 0) 8 = 52 ∨ andNotI .u16 (xops.getD j.val 0) 8 = 148) → 7 < j.val) ∧ ((andNotI .u16 (xops.getD j.val 0) 8 = 100 ∨ andNotI .u16 (xops.getD j.val 0) 8 = 116) → (j.val = 6 ∨ j.val = 7)) := by decide +kernel
    have := this j
    rwa [List.getD_eq_getElem?_getD, hx] at this
  obtain ⟨z1, z2⟩ := hz ⟨i, hi⟩ op hop
  unfold faultOf
  rw [if_pos f.2.2.2.2.2.2.2.2.2.1, if_neg (fun h => f.2.2.2.2.2.2.2.2.2.2.1 h.1), if_neg (fun h => h1 ⟨h.2, z1 h.1⟩), if_neg (fun h => h2 ⟨h.2, z2 h.1⟩)]
theorem and15m (k : Int) : andI .u32 k 15 = k % 16 := by
  unfold andI
  have e : (BitVec.ofInt IntKind.u32.bits k &&& BitVec.ofInt IntKind.u32.bits 15).toNat = (k % 4294967296).toNat % 16 := by
    rw [BitVec.toNat_and, toNat_ofInt, toNat_ofInt]
    exact Nat.and_two_pow_sub_one_eq_mod (n := 4) _
  rw [e, wrap_u32 (by omega) (by omega)]
  omega
section
variable {W : World} {a b k : Int}
theorem VmStraight_main (ha : U a) (hb : U b) (hk : U k) : Run Try.prog 5 #[.int .u32 a, .int .u32 b, .int .u32 k] W (Good W) := by
  have hs : 0 ≤ andI .u32 k 15 ∧ andI .u32 k 15 < 16 := by
    rw [and15m]
    omega
  refine law5_VmStraight.ok (letA fun w1 h1 x1 s1 => letA fun w2 h2 x2 s2 => ?_)
  generalize andI .u32 k 15 = s at hs h1
  have rA : Rd (Value.int .u16) w2 (some (newA w1)) 10 xops := lit_rd (f := Value.int .u16) (xs := xops) h2 rfl
  have h12 := x2.heap h1
  -- from the list of what is wanted on
  have one : ∀ (l r d m : Int) (w : World) (B : Nat), l = (if b < 32 then IntKind.u32.wrap (a * 2 ^ (min (Int.toNat b) (IntKind.bits .u32))) else 0) → r = (if b < 32 then Int.fdiv a (2 ^ (min (Int.toNat b) (IntKind.bits .u32))) else 0) → (b ≠ 0 → d = IntKind.u32.wrap (Int.tdiv a b)) → (b ≠ 0 → m = Int.tmod a b) → (b = 0 → d = 0 ∧ m = 0) → Go.Rd.Ext w2 w → w2.heap.size ≤ B → w.heap[B]? = some (.cells ((wantL a b l r d m).map (Value.int .u32)).toArray 24 (0, 0)) →
      law5_VmStraight.J1 (Good W) a b (some (newA W)) 6 6 (some (newA w1)) 10 10 (some ⟨B, 0, none⟩) 10 10 w := by
    intro l r d m w B hl hr hd hm hz x hB h
    have z1 := x1.size
    have rB : Rd (Value.int .u32) w (some ⟨B, 0, none⟩) 10 (wantL a b l r d m) := Rd.block h (by intro i x hi; simp [hi])
    have V : Vs W w W.heap.size a b s (some (newA w1)) (some ⟨B, 0, none⟩) (wantL a b l r d m) :=
      ⟨(x1.trans x2).trans x, Nat.le_refl _, ⟨12, x.heap h12⟩, rA.ext x, rB, fun z hz => by obtain rfl := Option.some.inj hz; show w1.heap.size ≠ _; omega, fun z hz => by obtain rfl := Option.some.inj hz; show B ≠ _; omega⟩
    have all : ∀ (d' i : Nat), 10 - i = d' → i ≤ 10 → ∀ w, Vs W w W.heap.size a b s (some (newA w1)) (some ⟨B, 0, none⟩) (wantL a b l r d m) → law5_VmStraight.L0 (Good W) a b (some (newA W)) 6 6 (some (newA w1)) 10 10 (some ⟨B, 0, none⟩) 10 10 (i : Int) w := by
      intro d'
      induction d' with
      | zero =>
        intro i hd hi w V
        refine law5_VmStraight.L0_step (ifP_no (by omega) (awake_spec.mono ?_))
        rintro v w7 ⟨rfl, x7⟩
        exact ⟨_, rfl, rfl, Fr.of_ext (V.x.trans x7)⟩
      | succ d' ih =>
        intro i hd' hi w V
        have hop : xops[i]? = some (xops[i]'(by show i < 10; omega)) := List.getElem?_eq_getElem _
        have hw : (wantL a b l r d m)[i]? = some ((wantL a b l r d m)[i]'(by show i < 10; omega)) := List.getElem?_eq_getElem _
        refine vs_one (R := Good W) V ha hb hs (by omega) hop hw (List.getElem_mem _) (want_at ha hb hl hr hd hm hop hw) (fun h0 => ?_) (fun n1 n2 => fault_at hb hop n1 n2) fun w' V' => ih (i + 1) (by omega) (by omega) w' V'
        obtain ⟨d0, m0⟩ := hz h0.1
        obtain rfl | rfl : i = 8 ∨ i = 9 := by omega
        · exact d0
        · exact m0
    exact all 10 0 rfl (by omega) w V
  have two : ∀ (l r : Int), l = (if b < 32 then IntKind.u32.wrap (a * 2 ^ (min (Int.toNat b) (IntKind.bits .u32))) else 0) → r = (if b < 32 then Int.fdiv a (2 ^ (min (Int.toNat b) (IntKind.bits .u32))) else 0) → law5_VmStraight.J0 (Good W) a b (some (newA W)) 6 6 (some (newA w1)) 10 10 l r w2 := by
    intro l r hl hr
    unfold law5_VmStraight.J0
    refine letA fun w3 h3 x3 s3 => ifP_bne.2 ⟨fun hb0 => ?_, fun hb0 => one l r 0 0 w3 w2.heap.size hl hr (fun h => absurd hb0 h) (fun h => absurd hb0 h) (fun _ => ⟨rfl, rfl⟩) x3 (Nat.le_refl _) h3⟩
    refine ⟨hb0, by omega, by omega, _, rfl, cell_put h3 (i := 8) (show 8 < 10 by decide) (by rw [newA, add_mk]; rfl) fun w4 h4 k4 => ⟨hb0, by omega, by omega, _, rfl, cell_put h4 (i := 9) (show 9 < 10 by decide) (by rw [newA, add_mk]; rfl) fun w5 h5 k5 => ?_⟩⟩
    exact one l r _ _ w5 w2.heap.size hl hr (fun _ => rfl) (fun _ => rfl) (fun h => absurd h hb0) ((x3.fresh k4 fun j hj => by rw [hj]; exact Nat.le_refl _).fresh k5 fun j hj => by rw [hj]; exact Nat.le_refl _) (Nat.le_refl _) h5
  refine ifP_decide.2 ⟨fun h32 => ⟨hb.1, hb.1, two _ _ ?_ ?_⟩, fun h32 => two 0 0 ?_ ?_⟩
  · rw [if_pos h32]
  · rw [if_pos h32]
  · rw [if_neg h32]
  · rw [if_neg h32]
end
end Go.Proofs.Ytllooifbiapeoaa
