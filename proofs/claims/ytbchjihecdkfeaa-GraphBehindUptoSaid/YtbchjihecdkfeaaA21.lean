/- The statement on what is put behind a graph, or ahead. -/
import Derived.Test.YtbchjihecdkfeaaA11
import Derived.Test.YtbchjihecdkfeaaGrBehind
namespace Go.Proofs.Ytbchjihecdkfeaa
open Go.Rd Go.RowKit
set_option linter.unusedVariables false
set_option linter.unusedSimpArgs false
set_option maxRecDepth 100000
theorem own_cell {e sz : Nat} {w : World} {A : Option Addr} {c : Nat} {cs : List Value} (h : Own e sz w A c cs) {i : Nat} (hi : i < cs.length) {v : Value} {f : World → Prop}
    (hf : ∀ w', Own e sz w' A c (cs.set i v) → Keep (blk A) w w' → f w') :
    ∃ p, A = some p ∧ (∃ u, w.cell? (p.add i) = some u) ∧ w.frozen? (p.add i) = false ∧ letW (w.setCell (p.add i) v) f := by
  rcases h with ⟨rfl, rfl, rfl⟩ | ⟨b, sp, rfl, hb, hl⟩
  · simp at hi
  · have e1 : (Addr.mk b 0 none).add i = ⟨b, i, none⟩ := by rw [add_mk]; simp
    refine ⟨_, rfl, ?_⟩
    rw [e1]
    refine ⟨st_cell hb (by simp; omega), frozen_of hb, letS hb fun w' h' k' s' => hf w' (.inr ⟨b, sp, rfl, ?_, ?_⟩) (k'.mono fun k _ h => blk_some.2 h)⟩
    · rw [h']
      congr 2
      apply Array.ext'
      simp [List.set_append, hi]
    · simpa using hl
section
variable {W w : World} {A P : Option Addr} {n c pn pc : Nat} {ps : List BP} {pkt : List Int}
theorem copied_by {w w' : World} {P : Option Addr} {pn pc : Nat} {pkt : List Int} (h : IBytes w P pn pkt) (hn : pn ≤ 140737488351232) {R : Value → World → Prop} (hR : ∀ (P' : Option Addr) (c' : Nat) (w' : World), IBytes w' P' pn pkt → pn ≤ c' → Go.Rd.Ext w w' → R (.slice P' pn c') w') :
    Run Try.prog 29 #[.slice P pn pc] w R := by
  refine (copyBytes_spec h (by omega)).mono ?_
  rintro v w1 ⟨P', c', rfl, o, l, b, x⟩
  exact hR P' c' w1 (o.rd l) (Own.len (n := pn) (by decide) o (by rw [List.length_map, l, Nat.mul_one])) x
theorem weigh_big (bs : List Blk) : weighV 1 0 1 bs ≤ ((bs.map (·.code.length)).sum : Nat) + 3 * (bs.length : Int) := (weigh_le (by decide) (by decide) (by decide) bs).2
theorem GraphBehind_main {k : Int} (hx : RdM BP.v W A n ps) (hb : ∀ p ∈ ps, BIn W p) (hn : n * 56 ≤ 140737488351232) (hp : IBytes W P pn pkt) (hpn : pn ≤ 140737488351232) (hk : 0 ≤ k ∧ k ≤ 4294967295) :
    Run Try.prog 6 #[.slice A n c, .slice P pn pc, .int .u32 k] W (Good W) := by
  have hpl := hp.len
  have hi : IBl W A n ps := ⟨hx, fun p hp => (hb p hp).rd⟩
  have hbl : (blks ps).length = n := by rw [blks, List.length_map, hx.len]
  have hs8 : ∀ p ∈ ps, p.n * 8 ≤ 140737488351232 := fun p hp => (hb p hp).size
  have hok : ∀ b ∈ blks ps, Inss b.code := fun b hbm => by
    obtain ⟨p, hp, rfl⟩ := List.mem_map.1 hbm
    exact (hb p hp).ok.code
  have hlen : ∀ b ∈ blks ps, b.code.length ≤ 140737488351232 := fun b hbm => by
    obtain ⟨p, hp, rfl⟩ := List.mem_map.1 hbm
    have hl : p.b.code.length = p.n := (hi.code p hp).len
    have := hs8 p hp
    omega
  have sizes : ∀ {T : List Ins} {X : List BP} {w : World} {A : Option Addr} {c : Nat} {qs : List BP}, GOk T X w A c qs → blks qs = blks ps → ∀ q ∈ qs, q.n ≤ 140737488351232 := by
    intro T X w A c qs g hq q hqm
    rw [← (g.part q hqm).2]
    exact hlen q.b (by rw [← hq]; exact blks_mem hqm)
  have oks : ∀ {qs : List BP}, blks qs = blks ps → ∀ q ∈ qs, Inss q.b.code := by
    intro qs hq q hqm
    exact hok q.b (by rw [← hq]; exact blks_mem hqm)
  refine law15_GraphBehind.ok ((copyBlocks_spec hi hs8 hn).mono ?_)
  rintro v w1 ⟨A1, c1, q1, rfl, g1, e1, l1, f1, x1⟩
  refine ⟨_, _, _, rfl, copied_by (w' := W) (hp.ext x1) hpn fun P2 c2 w2 p2 cap2 x2 => ⟨_, _, _, rfl, ?_⟩⟩
  refine (grun_spec ((g1.ext x2).read l1) (sizes g1 e1) (oks e1) p2 cap2).mono ?_
  rintro v w3 ⟨rfl, x3⟩
  rw [e1]
  refine ⟨_, _, _, _, rfl, vstore (x := gverdV (blks ps) pkt) fun w4 v4 x4 s4 => ?_⟩
  have x04 := ((x1.trans x2).trans x3).trans x4
  have out : law15_GraphBehind.J0 (Good W) A n c P pn pc k (newA w3) true w4 := by
    refine ifP_t rfl (gawake_spec.mono ?_)
    rintro v w5 ⟨rfl, x5⟩
    exact ⟨_, rfl, rfl, Fr.of_ext (x04.trans x5)⟩
  refine ifP_bne.2 ⟨fun _ => out, fun h0 => ?_⟩
  by_cases hbig : ((n : Nat) : Int) ≥ 4096
  · rw [decide_eq_true hbig]
    exact out
  rw [decide_eq_false hbig]
  obtain ⟨T, hpk⟩ := gcode_taken h0
  have hTc := T.codes
  have hT0 := T.pos
  obtain ⟨m1, m2⟩ := behind_verd (pkt := pkt) h0 (by omega) k
  obtain ⟨gb1, gb2, _⟩ := gverd_bounds h0
  have gb3 := weigh_big (blks ps)
  -- one more block
  refine ifP_f rfl ((copyBlocks_spec (hi.ext x04) hs8 hn).mono ?_)
  rintro v w5 ⟨A5, c5, q5, rfl, g5, e5, l5, f5, x5⟩
  refine ⟨_, _, _, rfl, letA fun w6 h6 x6 s6 => ?_⟩
  have hf6 : ∀ j, gff A5 q5 j → W.heap.size ≤ j := fun j hj => by have := f5 j hj; have := x04.size; omega
  obtain ⟨A7, c7, w7, hr7, g7, k7, b7⟩ := GOk.push (p := ⟨none, 0, 0, moreB k⟩) (ty := 22) (d := 1) (g5.ext x6) l5 (by omega) Own.empty rfl (fun j hj _ => absurd hj blk_none) (temp_block h6 rfl)
  have x06 := (x04.trans x5).trans x6
  have x07 : Go.Rd.Ext W w7 := x06.fresh k7 fun j hj => hf6 j (.inl hj)
  refine ⟨_, w7, hr7, _, _, _, rfl, copied_by (w' := W) (hp.ext x07) hpn fun P8 c8 w8 p8 cap8 x8 => ⟨_, _, _, rfl, ?_⟩⟩
  have e7 : blks (q5 ++ [⟨none, 0, 0, moreB k⟩]) = blks ps ++ [moreB k] := by
    rw [blks, List.map_append]
    show blks q5 ++ [moreB k] = _
    rw [e5]
  have mem7 : ∀ q ∈ q5 ++ [(⟨none, 0, 0, moreB k⟩ : BP)], q.n ≤ 140737488351232 ∧ Inss q.b.code := fun q hq => by
    rcases List.mem_append.1 hq with hq | hq
    · exact ⟨sizes g5 e5 q hq, oks e5 q hq⟩
    · obtain rfl : q = ⟨none, 0, 0, moreB k⟩ := by simpa using hq
      exact ⟨Nat.zero_le _, fun i hi => (by cases hi)⟩
  refine (grun_spec ((g7.ext x8).read (by rw [List.length_append, l5]; rfl)) (fun q hq => (mem7 q hq).1) (fun q hq => (mem7 q hq).2) p8 cap8).mono ?_
  rintro v w9 ⟨rfl, x9⟩
  rw [e7, m1, m2]
  have z34 := heap_lt v4
  have v9 := ((((v4.ext x5).ext x6).keep k7 fun h => by have := f5 _ (.inl h); omega).ext x8).ext x9
  refine ⟨_, _, _, _, rfl, vstore (x := gverdV (blks ps) pkt) fun w10 v10 x10 s10 => ?_⟩
  have x010 := ((x07.trans x8).trans x9).trans x10
  have v310 := v9.ext x10
  -- the codes are counted
  have after : ∀ (many : Int), many = (((blks ps).map (·.code.length)).sum : Nat) → law15_GraphBehind.J1 (Good W) A n c P pn pc k (newA w3) many false w10 := by
    intro many hmany
    refine ifP_f rfl (ifP_decide.2 ⟨fun h => gawake_spec.mono ?_, fun hm => (copyBlocks_spec (hi.ext x010) hs8 hn).mono ?_⟩)
    · rintro v w11 ⟨rfl, x11⟩
      exact ⟨_, rfl, rfl, Fr.of_ext (x010.trans x11)⟩
    rintro v w11 ⟨A11, c11, q11, rfl, g11, e11, l11, f11, x11⟩
    refine ⟨_, _, _, rfl, letA fun w12 h12 x12 s12 => ?_⟩
    obtain ⟨q, r, hqr⟩ : ∃ q r, q11 = q :: r := by
      cases q11 with
      | nil => simp at l11; omega
      | cons q r => exact ⟨q, r, rfl⟩
    subst hqr
    have g12 := g11.ext x12
    obtain ⟨t, p0, ht, hp0, h8⟩ := (g12.read l11).at8 (i := 0) (by omega)
    obtain rfl : q = p0 := by simpa using hp0
    have hqm : q ∈ q :: r := List.mem_cons_self ..
    have hO : Own 47 4 w12 (some (newA w11)) 2 ((aheadL k).flatMap Ins.v) := .inr ⟨_, [], rfl, h12, rfl⟩
    have hB := (g12.code hqm)
    have hql := (g12.part q hqm).2
    have hqn : q.n ≤ 4096 := by
      have hmem : q.b ∈ blks ps := by rw [← e11]; exact blks_mem hqm
      obtain ⟨j, hj⟩ := List.getElem?_of_mem hmem
      have h1 := sum_take_succ hj
      have h2 := sum_take_le (blks ps) (j + 1)
      omega
    obtain ⟨A13, c13, w13, hr13, o13, hc13, k13, b13⟩ := append_own slInsns (ty := 39) (n := 2) (d := q.c) hO rfl hB.2 (m := q.n) (by rw [flat_len Ins.len, hql]) (Ins.isCell _) (by omega) (by omega)
    have x012 := (x010.trans x11).trans x12
    have z10 := x010.size
    have z11 := x11.size
    have z12 := x12.size
    have kb13 : Keep (· = w11.heap.size) w12 w13 := k13.mono fun j _ h => blk_some.1 h
    have x13 : Go.Rd.Ext w11 w13 := x12.fresh kb13 fun j hj => by rw [hj]; exact Nat.le_refl _
    have g13 := g11.ext x13
    have new13 : ∀ j, blk A13 j → w11.heap.size ≤ j := fun j hj => by
      rcases b13 j hj with h | h
      · rw [blk_some.1 h]; exact Nat.le_refl _
      · omega
    refine ⟨by omega, by omega, t, ht, _, _, _, by rw [show Int.toNat 0 * 8 = 0 * 8 from rfl]; exact h8.s, _, w13, hr13, _, _, _, rfl, by omega, by omega, ?_⟩
    have ow := g13.own
    rw [List.append_nil] at ow
    refine own_cell ow (i := 0) (by rw [flat_len BP.len, List.length_cons]; omega) fun w14 h14 k14 => ?_
    have e14 : ((q :: r).flatMap BP.v).set 0 (.slice A13 (2 + q.n) c13) = ((⟨A13, 2 + q.n, c13, aheadB k q.b⟩ : BP) :: r).flatMap BP.v := by
      rw [List.flatMap_cons, List.flatMap_cons]
      rfl
    rw [e14] at h14
    have x14 : Go.Rd.Ext W w14 := ((x010.trans x11).trans x13).fresh k14 fun j hj => by have := f11 j (.inl hj); omega
    have lt11 : ∀ j, blk A11 j → j < w11.heap.size := fun j hj => g11.lt (.inl hj)
    have o14 : OInsns w14 A13 c13 (aheadL k ++ q.b.code) := by
      rw [OInsns, List.flatMap_append]
      exact o13.keep k14 fun j hj h => by have := new13 j hj; have := lt11 j h; omega
    have lcode : (aheadL k ++ q.b.code).length = 2 + q.n := by
      rw [List.length_append, hql]
      rfl
    have ib : IBl w14 A11 n (⟨A13, 2 + q.n, c13, aheadB k q.b⟩ :: r) := by
      refine ⟨h14.rdM (by rw [← l11]; rfl), fun p hpm => ?_⟩
      rcases List.mem_cons.1 hpm with rfl | hpm
      · exact o14.rdM lcode
      · have hpm' : p ∈ q :: r := List.mem_cons_of_mem _ hpm
        exact (g13.code hpm').keep k14 fun j hj h => g13.sep hpm' h hj
    have mem14 : ∀ p ∈ (⟨A13, 2 + q.n, c13, aheadB k q.b⟩ : BP) :: r, p.n ≤ 140737488351232 ∧ Inss p.b.code := fun p hpm => by
      rcases List.mem_cons.1 hpm with rfl | hpm
      · refine ⟨by show 2 + q.n ≤ _; omega, fun i hii => ?_⟩
        rcases List.mem_append.1 (show i ∈ aheadL k ++ q.b.code from hii) with h | h
        · simp only [aheadL, List.mem_cons, List.not_mem_nil, or_false] at h
          rcases h with rfl | rfl
          · exact ⟨by simp, by simp, by simp, hk.1, hk.2⟩
          · exact ⟨by simp, by simp, by simp, by simp, by simp⟩
        · exact oks e11 q hqm i h
      · have hpm' : p ∈ q :: r := List.mem_cons_of_mem _ hpm
        exact ⟨sizes g11 e11 p hpm', oks e11 p hpm'⟩
    have eps : blks ps = q.b :: blks r := by rw [← e11]; rfl
    have hsum : (((q.b :: blks r).map (·.code.length)).sum) ≤ 4094 := by
      rw [← eps]
      omega
    have hg0 : gcodeV (q.b :: blks r) pkt = 0 := by rw [← eps]; exact h0
    obtain ⟨a1, a2⟩ := ahead_verd hg0 hsum k
    rw [← eps] at a2
    refine copied_by (w' := W) (hp.ext x14) hpn fun P15 c15 w15 p15 cap15 x15 => ⟨_, _, _, rfl, ?_⟩
    refine (grun_spec (ib.ext x15) (fun p hpm => (mem14 p hpm).1) (fun p hpm => (mem14 p hpm).2) p15 cap15).mono ?_
    rintro v w16 ⟨rfl, x16⟩
    have eb : blks ((⟨A13, 2 + q.n, c13, aheadB k q.b⟩ : BP) :: r) = aheadB k q.b :: blks r := rfl
    rw [eb, a1, a2]
    have hv3 := heap_lt v310
    have v316 := (((v310.ext (x11.trans x13)).keep k14 fun h => by have := f11 _ (.inl h); omega).ext x15).ext x16
    refine ⟨_, _, _, _, rfl, vstore (x := ((gverdV (blks ps) pkt).1, (gverdV (blks ps) pkt).2.1, (gverdV (blks ps) pkt).2.2 + 2)) fun w17 v17 x17 s17 => ?_⟩
    have v317 := v316.ext x17
    have z316 := heap_lt v316
    refine ⟨_, by rw [newA, add_mk]; exact (cell_of v317).trans rfl, ?_⟩
    rw [wrap_i64 (x := (gverdV (blks ps) pkt).2.2 + 2) (by omega) (by omega)]
    refine cell_put v317 (show 2 < 3 by decide) (by rw [newA, add_mk]) fun w18 h18 k18 => ?_
    have v18 : VAt w18 w3.heap.size ((gverdV (blks ps) pkt).1, (gverdV (blks ps) pkt).2.1, (gverdV (blks ps) pkt).2.2 + 2) := h18
    have v1718 := v17.keep k18 fun h => by have h : w16.heap.size = w3.heap.size := h; omega
    refine ifP_eq rfl (v1718.rd (v18.rd ⟨_, _, verd_eql, _, rfl, ifP_t (by simp) (gawake_spec.mono ?_)⟩))
    rintro v w19 ⟨rfl, x19⟩
    have x018 : Go.Rd.Ext W w18 := (((x14.trans x15).trans x16).trans x17).fresh k18 fun j hj => by rw [hj]; have := ((x1.trans x2).trans x3).size; omega
    exact ⟨_, rfl, rfl, Fr.of_ext (x018.trans x19)⟩
  suffices H : ∀ (d i : Nat), n - i = d → i ≤ n → ∀ (many : Int), many = ((((blks ps).take i).map (·.code.length)).sum : Nat) → law15_GraphBehind.L0 (Good W) A n c P pn pc k (newA w3) (newA w9) 0 many (i : Int) w10 from H n 0 (by omega) (by omega) 0 (by simp)
  intro d
  induction d with
  | zero =>
    intro i hd hi' many hm
    have hin : i = n := by omega
    subst hin
    rw [List.take_of_length_le (by omega)] at hm
    refine law15_GraphBehind.L0_step (ifP_no (by omega) (ifP_nne rfl (v10.rd (v310.rd ⟨_, _, verd_neq, _, rfl, ?_⟩))))
    rw [decide_eq_true rfl]
    exact after many hm
  | succ d ih =>
    intro i hd hi' many hm
    obtain ⟨t, p, ht, hpi, h8⟩ := (hi.ext x010).at8 (i := i) (by omega)
    have hbi := blks_get hpi
    have hpl' : p.b.code.length = p.n := (hi.code p (List.mem_of_getElem? hpi)).len
    have h1 := sum_take_succ hbi
    have h2 := sum_take_le (blks ps) (i + 1)
    have hti : Int.toNat ((i : Nat) : Int) = i := Int.toNat_natCast i
    refine law15_GraphBehind.L0_step (ifP_yes (by omega) ⟨by omega, by omega, t, ht, _, _, _, by rw [hti]; exact h8.s, ?_⟩)
    rw [wrap_i64 (x := many + ((p.n : Nat) : Int)) (by omega) (by omega), wrap_i64 (by omega) (by omega)]
    exact ih (i + 1) (by omega) (by omega) _ (by rw [hm, h1]; omega)
end
end Go.Proofs.Ytbchjihecdkfeaa
