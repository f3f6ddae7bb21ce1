/- The statement on bounds. -/
import Derived.Test.YtbchjihecdkfeaaA13
import Derived.Test.YtbchjihecdkfeaaGrBound
namespace Go.Proofs.Ytbchjihecdkfeaa
open Go.Rd Go.RowKit
set_option linter.unusedVariables false
set_option linter.unusedSimpArgs false
set_option maxRecDepth 100000
section
variable {W w : World} {A P : Option Addr} {n c pn pc : Nat} {ps : List BP} {pkt : List Int}
theorem copied_bytes {w w' : World} {P : Option Addr} {pn pc : Nat} {pkt : List Int} (h : IBytes w P pn pkt) (hn : pn ≤ 140737488351232) {R : Value → World → Prop} (hR : ∀ (P' : Option Addr) (c' : Nat) (w' : World), IBytes w' P' pn pkt → pn ≤ c' → (∀ k, blk P' k → w.heap.size ≤ k) → Go.Rd.Ext w w' → R (.slice P' pn c') w') :
    Run Try.prog 29 #[.slice P pn pc] w R := by
  refine (copyBytes_spec h (by omega)).mono ?_
  rintro v w1 ⟨P', c', rfl, o, l, b, x⟩
  exact hR P' c' w1 (o.rd l) (Own.len (n := pn) (by decide) o (by rw [List.length_map, l, Nat.mul_one])) b x
theorem GraphBounds_main (hx : RdM BP.v W A n ps) (hb : ∀ p ∈ ps, BIn W p) (hn : n * 56 ≤ 140737488351232) (hp : IBytes W P pn pkt) (hpn : pn ≤ 140737488351232) :
    Run Try.prog 8 #[.slice A n c, .slice P pn pc] W (Good W) := by
  have hpl := hp.len
  have hi : IBl W A n ps := ⟨hx, fun p hp => (hb p hp).rd⟩
  have hbl : (blks ps).length = n := by rw [blks, List.length_map, hx.len]
  have hs8 : ∀ p ∈ ps, p.n * 8 ≤ 140737488351232 := fun p hp => (hb p hp).size
  have hs : ∀ p ∈ ps, p.n ≤ 140737488351232 := fun p hp => by have := hs8 p hp; omega
  have hok : ∀ b ∈ blks ps, Inss b.code := fun b hbm => by
    obtain ⟨p, hp, rfl⟩ := List.mem_map.1 hbm
    exact (hb p hp).ok.code
  have hlen : ∀ b ∈ blks ps, b.code.length ≤ 140737488351232 := fun b hbm => by
    obtain ⟨p, hp, rfl⟩ := List.mem_map.1 hbm
    have hl : p.b.code.length = p.n := (hi.code p hp).len
    have := hs p hp
    omega
  have sizes : ∀ {T : List Ins} {X : List BP} {w : World} {A : Option Addr} {c : Nat} {qs : List BP}, GOk T X w A c qs → blks qs = blks ps → ∀ q ∈ qs, q.n ≤ 140737488351232 := by
    intro T X w A c qs g hq q hqm
    rw [← (g.part q hqm).2]
    exact hlen q.b (by rw [← hq]; exact blks_mem hqm)
  have oks : ∀ {qs : List BP}, blks qs = blks ps → ∀ q ∈ qs, Inss q.b.code := by
    intro qs hq q hqm
    exact hok q.b (by rw [← hq]; exact blks_mem hqm)
  refine law15_GraphBounds.ok ((copyBlocks_spec hi hs8 hn).mono ?_)
  rintro v w1 ⟨A1, c1, q1, rfl, g1, e1, l1, f1, x1⟩
  refine ⟨_, _, _, rfl, (gsize_spec (g1.read l1) (sizes g1 e1)).mono ?_⟩
  rintro v w2 ⟨rfl, x2⟩
  rw [e1]
  have x02 := x1.trans x2
  have out : ∀ (m : Int), law15_GraphBounds.J0 (Good W) A n c P pn pc m true w2 := by
    intro m
    refine ifP_t rfl (gawake_spec.mono ?_)
    rintro v w3 ⟨rfl, x3⟩
    exact ⟨_, rfl, rfl, Fr.of_ext (x02.trans x3)⟩
  refine ⟨_, _, rfl, ?_⟩
  by_cases hc : (gcheckV (blks ps)).2 ≠ 0
  · have e2 : sizeR (blks ps) = (0, 155) := by rw [sizeR, weighR, if_pos hc]
    rw [e2]
    exact ifP_t rfl (out _)
  have hc := Classical.not_not.1 hc
  obtain ⟨T, _⟩ := gtaken_of hc
  have hTl := T.le
  have hT0 := T.pos
  have e2 : sizeR (blks ps) = (weighV 1 0 1 (blks ps), 0) := by rw [sizeR, weighR, if_neg (not_not_intro hc)]
  have e3 : measureR (blks ps) = (weighV 1 1 3 (blks ps), 0) := by rw [measureR, weighR, if_neg (not_not_intro hc)]
  have e4 : reachR (blks ps) = (reachL (blks ps), 0) := by rw [reachR, if_neg (not_not_intro hc)]
  rw [e2]
  refine ifP_f rfl ?_
  by_cases hbig : ((pn : Nat) : Int) > 65536
  · rw [decide_eq_true hbig]
    exact out _
  rw [decide_eq_false hbig]
  have eg : gcodeV (blks ps) pkt = 0 := by rw [gcodeV, if_neg (not_not_intro hc), if_neg (by omega)]
  obtain ⟨b1, b2, b3⟩ := gverd_bounds eg
  refine ifP_f rfl ((copyBlocks_spec (hi.ext x02) hs8 hn).mono ?_)
  rintro v w3 ⟨A3, c3, q3, rfl, g3, e5, l3, f3, x3⟩
  refine ⟨_, _, _, rfl, (gmeasure_spec (g3.read l3) (sizes g3 e5)).mono ?_⟩
  rintro v w4 ⟨rfl, x4⟩
  rw [e5, e3]
  have x04 := (x02.trans x3).trans x4
  refine ⟨_, _, rfl, (copyBlocks_spec (hi.ext x04) hs8 hn).mono ?_⟩
  rintro v w5 ⟨A5, c5, q5, rfl, g5, e6, l5, f5, x5⟩
  refine ⟨_, _, _, rfl, (greach_spec (g5.read l5) (sizes g5 e6)).mono ?_⟩
  rintro v w6 ⟨X, xc, rfl, o6, bX, x6⟩
  rw [e6, e4] at o6 ⊢
  have lr : (reachL (blks ps)).length = n := by rw [reachL_length, hbl]
  have x06 := (x04.trans x5).trans x6
  refine ⟨_, _, _, _, rfl, (copyBlocks_spec (hi.ext x06) hs8 hn).mono ?_⟩
  rintro v w7 ⟨A7, c7, q7, rfl, g7, e7, l7, f7, x7⟩
  refine ⟨_, _, _, rfl, copied_bytes (w' := w7) (hp.ext (x06.trans x7)) hpn fun P8 c8 w8 p8 pc8 f8 x8 => ⟨_, _, _, rfl, ?_⟩⟩
  refine (grun_spec ((g7.ext x8).read l7) (sizes g7 e7) (oks e7) p8 pc8).mono ?_
  rintro v w9 ⟨rfl, x9⟩
  rw [e7, eg]
  have x09 := ((x06.trans x7).trans x8).trans x9
  refine ⟨_, _, _, _, rfl, vstore (x := gverdV (blks ps) pkt) fun w10 v10 x10 s10 => ?_⟩
  have x010 := x09.trans x10
  have x610 := ((x7.trans x8).trans x9).trans x10
  have z6 := x06.size
  have j1 : law15_GraphBounds.J1 (Good W) A n c P pn pc X (reachL (blks ps)).length xc (newA w9) false w10 := by
    refine ifP_f rfl ((copyBlocks_spec (hi.ext x010) hs8 hn).mono ?_)
    rintro v w11 ⟨A11, c11, q11, rfl, g11, e11, l11, f11, x11⟩
    refine ⟨_, _, _, rfl, ?_⟩
    have x011 := x010.trans x11
    have v11 := v10.ext x11
    have o11 := o6.ext (x610.trans x11)
    have ow := g11.own
    rw [List.append_nil] at ow
    have fnew : ∀ k, blk A11 k → w10.heap.size ≤ k := fun k hk => f11 k (.inl hk)
    have nX : ∀ k, blk A11 k → ¬ blk X k := fun k h1 h2 => by have := fnew k h1; have := o6.lt k h2; have := x610.size; omega
    have z011 := x011.size
    have hv10 := heap_lt v10
    -- blocks that can't be come to are written over
    suffices H : ∀ (d i : Nat), n - i = d → i ≤ n → ∀ (w' : World) (rs : List BP), rs.length = n → (∀ p ∈ rs, IInsns w' p.A p.n p.b.code) → (∀ p ∈ rs, p.n ≤ 140737488351232 ∧ Inss p.b.code ∧ ∀ k, blk A11 k → ¬ blk p.A k) → (∀ (j : Nat) (b : Blk), (blks ps)[j]? = some b → (blks rs)[j]? = some (if j < i then (if (reachL (blks ps))[j]? = some true then b else retB) else b)) → Own 49 8 w' A11 c11 (rs.flatMap BP.v) → Keep (blk A11) w11 w' →
        law15_GraphBounds.L0 (Good W) P pn pc X (reachL (blks ps)).length xc (newA w9) A11 n c11 (i : Int) w' by
      refine H n 0 (by omega) (by omega) w11 q11 l11 (fun p hp => g11.code hp) (fun p hp => ⟨sizes g11 e11 p hp, oks e11 p hp, fun k hk => g11.sep hp hk⟩) (fun j b hj => ?_) ow (Keep.refl w11)
      rw [if_neg (by omega), e11]
      exact hj
    intro d
    induction d with
    | zero =>
      intro i hd hi' w' rs hrl hrc hrs hrb hro k
      obtain rfl : i = n := by omega
      have x0' : Go.Rd.Ext W w' := x011.fresh k fun j hj => by have := fnew j hj; have := x010.size; omega
      have M : Masked (blks ps) (blks rs) := by
        refine ⟨by rw [hbl, blks, List.length_map, hrl], fun j b hj hr => ?_, fun j hj hr => ?_⟩
        · have hjl := (List.getElem?_eq_some_iff.1 hj).1
          rw [hrb j b hj, if_pos (by omega), if_pos ((reachL_get hjl).1.2 hr)]
        · obtain ⟨b, hbj⟩ : ∃ b, (blks ps)[j]? = some b := ⟨_, List.getElem?_eq_getElem hj⟩
          rw [hrb j b hbj, if_pos (by omega), if_neg fun h => hr ((reachL_get hj).1.1 h)]
      obtain ⟨m1, m2⟩ := M.verd (pkt := pkt) T
      refine law15_GraphBounds.L0_step (ifP_no (by omega) (copied_bytes (w' := w') (hp.ext x0') hpn fun P12 c12 w12 p12 pc12 f12 x12 => ⟨_, _, _, rfl, ?_⟩))
      have ib : IBl w' A11 i rs := ⟨hro.rdM hrl, hrc⟩
      refine (grun_spec (ib.ext x12) (fun p hp => (hrs p hp).1) (fun p hp => (hrs p hp).2.1) p12 pc12).mono ?_
      rintro v w13 ⟨rfl, x13⟩
      rw [m1, m2, eg]
      refine ⟨_, _, _, _, rfl, vstore (x := gverdV (blks ps) pkt) fun w14 v14 x14 s14 => ?_⟩
      have x1214 := (x12.trans x13).trans x14
      have o14 := (o11.keep k fun j hj hj2 => nX j hj2 hj).ext x1214
      have v114 := (v11.keep k fun h => by have := fnew _ h; omega).ext x1214
      obtain ⟨p, hp', hcell⟩ := (o14.rd lr).2 0 true ((reachL_get hT0).1.2 .start)
      refine ⟨by omega, by omega, p, hp', true, hcell, ifP_t rfl (ifP_eq rfl (v14.rd (v114.rd ⟨_, _, verd_eql, _, rfl, ifP_t (by simp) (gawake_spec.mono ?_)⟩)))⟩
      rintro v w15 ⟨rfl, x15⟩
      exact ⟨_, rfl, rfl, Fr.of_ext ((x0'.trans x1214).trans x15)⟩
    | succ d ih =>
      intro i hd hi' w' rs hrl hrc hrs hrb hro k
      have hin : i < n := by omega
      obtain ⟨t, ht⟩ : ∃ t, (reachL (blks ps))[i]? = some t := ⟨_, List.getElem?_eq_getElem (by omega)⟩
      obtain ⟨p, hp', hcell⟩ := ((o11.keep k fun j hj hj2 => nX j hj2 hj).rd lr).2 i t ht
      have htn : Int.toNat ((i : Nat) : Int) = i := Int.toNat_natCast i
      refine law15_GraphBounds.L0_step (ifP_yes (by omega) ⟨by omega, by omega, p, hp', t, by rw [htn]; exact hcell, ?_⟩)
      cases t with
      | true =>
        refine ifP_f rfl ?_
        unfold law15_GraphBounds.J2
        rw [wrap_i64 (by omega) (by omega)]
        refine ih (i + 1) (by omega) (by omega) w' rs hrl hrc hrs (fun j b hj => ?_) hro k
        rw [hrb j b hj]
        by_cases e : j = i
        · subst e
          rw [if_neg (Nat.lt_irrefl j), if_pos (Nat.lt_succ_self j), if_pos ht]
        · by_cases e2 : j < i
          · rw [if_pos e2, if_pos (show j < i + 1 by omega)]
          · rw [if_neg e2, if_neg (show ¬ j < i + 1 by omega)]
      | false =>
        refine ifP_t rfl ⟨by omega, by omega, ?_⟩
        have hroc := hro
        have key := Own.putM (f := BP.v) (by decide) BP.len hro (i := i) (j := (i : Int)) rfl (by omega) (y := ⟨none, 0, 0, retB⟩) rfl (φ := fun w_2 => law15_GraphBounds.J2 (Good W) P pn pc X (reachL (blks ps)).length xc (newA w9) A11 n c11 (i : Int) w_2) fun w12 h12 k12 => by
          unfold law15_GraphBounds.J2
          rw [wrap_i64 (by omega) (by omega)]
          refine ih (i + 1) (by omega) (by omega) w12 (rs.set i ⟨none, 0, 0, retB⟩) (by rw [List.length_set]; exact hrl) (fun q hq => ?_) (fun q hq => ?_) (fun j b hj => ?_) h12 (k.trans' k12)
          · rcases List.mem_or_eq_of_mem_set hq with hq | rfl
            · exact RdM.keep (hrc q hq) k12 fun l hl hl2 => (hrs q hq).2.2 l hl2 hl
            · exact RdM.nil
          · rcases List.mem_or_eq_of_mem_set hq with hq | rfl
            · exact hrs q hq
            · exact ⟨Nat.zero_le _, (fun i hi => (by cases hi)), fun k _ h => blk_none h⟩
          · rw [blks, List.map_set, List.getElem?_set]
            by_cases e : i = j
            · subst e
              rw [if_pos rfl, if_pos (by rw [List.length_map]; omega), if_pos (by omega), if_neg (by rw [ht]; simp)]
            · rw [if_neg e]
              have := hrb j b hj
              rw [blks] at this
              rw [this]
              by_cases e2 : j < i
              · rw [if_pos e2, if_pos (show j < i + 1 by omega)]
              · rw [if_neg e2, if_neg (show ¬ j < i + 1 by omega)]
        exact key
  have c0 : (newA w9).add 2 = ⟨w9.heap.size, 2, none⟩ := by rw [newA, add_mk]
  refine ifP_nne rfl (ifP_nne rfl (ifP_nne ?_ ⟨(gverdV (blks ps) pkt).2.2, by rw [c0]; exact (cell_of v10).trans rfl, ifP_no (by omega) ⟨(gverdV (blks ps) pkt).2.2, by rw [c0]; exact (cell_of v10).trans rfl, ifP_no (by omega) (ifP_no ?_ ⟨(gverdV (blks ps) pkt).2.1, by rw [newA, add_mk]; exact (cell_of v10).trans rfl, ifP_bne.2 ⟨fun hf => ⟨(gverdV (blks ps) pkt).1, (cell_of v10).trans rfl, ?_⟩, fun _ => j1⟩⟩)⟩⟩))
  · show ((reachL (blks ps)).length : Int) = n
    rw [lr]
  · have := weigh_size_measure (blks ps)
    omega
  · rw [b3 hf]
    exact j1
end
end Go.Proofs.Ytbchjihecdkfeaa
