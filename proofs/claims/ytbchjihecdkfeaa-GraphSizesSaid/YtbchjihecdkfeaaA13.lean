/- The document's Reach, Size, Measure; the statement over them. -/
import Derived.Test.YtbchjihecdkfeaaA11
import Derived.Test.YtbchjihecdkfeaaA12
namespace Go.Proofs.Ytbchjihecdkfeaa
open Go.Rd Go.RowKit
set_option linter.unusedVariables false
set_option linter.unusedSimpArgs false
set_option maxRecDepth 100000
section
variable {w : World} {A : Option Addr} {n c : Nat} {ps : List BP}
theorem goes_iff {bs : List Blk} {i k : Nat} {b : Blk} (hb : bs[i]? = some b) : Goes bs i k ↔ (k : Int) ∈ goalsL b :=
  ⟨fun ⟨b', hb', h⟩ => by rw [hb] at hb'; obtain rfl := Option.some.inj hb'; exact h, fun h => ⟨b, hb, h⟩⟩
theorem fwd_start {bs : List Blk} (h0 : 0 < bs.length) : FwdAt bs 0 ((List.replicate bs.length false).set 0 true) := by
  refine ⟨by simp, fun k => ?_⟩
  rw [set_true (by simpa using h0)]
  constructor
  · rintro (h | rfl)
    · rw [List.getElem?_replicate] at h
      split at h <;> cases h
    · exact ⟨h0, .inl rfl⟩
  · rintro ⟨hk, rfl | ⟨j, hj, _⟩⟩
    · exact .inr rfl
    · omega
theorem rgreach_spec (hx : IBl w A n ps) (T : GTaken (blks ps)) : Run Try.prog 34 #[.slice A n c] w fun v w' => ∃ O, v = .slice O n n ∧ OBools w' O n (reachL (blks ps)) ∧ (∀ k, blk O k → w.heap.size ≤ k) ∧ Go.Rd.Ext w w' := by
  have hl := hx.len
  have hbl : (blks ps).length = n := by rw [blks, List.length_map, hl]
  have hTl := T.le
  have hT0 := T.pos
  refine ref15_Reach.ok (made_boolsN (n := n) (by omega) rfl fun O w1 o1 b1 x1 => ⟨_, _, _, rfl, by omega, by omega, put_true (t := 0) o1 rfl (by simp; omega) fun w2 o2 k2 => ?_⟩)
  have f0 := fwd_start hT0
  rw [hbl] at f0
  suffices H : ∀ (d k : Nat), n - k = d → k ≤ n → ∀ (w' : World) (o : List Bool), FwdAt (blks ps) k o → OBools w' O n o → Go.Rd.Ext w w' →
      ref15_Reach.L0 (fun v w' => ∃ O, v = .slice O n n ∧ OBools w' O n (reachL (blks ps)) ∧ (∀ k, blk O k → w.heap.size ≤ k) ∧ Go.Rd.Ext w w') A n c O n n (k : Int) w' from H n 0 (by omega) (by omega) w2 _ f0 o2 (x1.fresh k2 b1)
  intro d
  induction d with
  | zero =>
    intro k hd hk w' o hf ho x
    obtain rfl : k = n := by omega
    refine ref15_Reach.L0_step (ifP_no (by omega) ⟨O, rfl, ?_, b1, x⟩)
    rw [← hbl] at hf
    rw [← hf.done T]
    exact ho
  | succ d ih =>
    intro k hd hk w' o hf ho x
    have hkn : k < n := by omega
    have hol := hf.1
    obtain ⟨v, hv⟩ : ∃ v, o[k]? = some v := ⟨_, List.getElem?_eq_getElem (by omega)⟩
    obtain ⟨p, hp, hcell⟩ := (ho.rd (by omega)).2 k v hv
    have here := hf.here T (by omega)
    have ht : Int.toNat ((k : Nat) : Int) = k := Int.toNat_natCast k
    have next : ∀ (w3 : World) (o' : List Bool), FwdAt (blks ps) (k + 1) o' → OBools w3 O n o' → Go.Rd.Ext w w3 → ref15_Reach.J0 (fun v w' => ∃ O, v = .slice O n n ∧ OBools w' O n (reachL (blks ps)) ∧ (∀ k, blk O k → w.heap.size ≤ k) ∧ Go.Rd.Ext w w') A n c O n n (k : Int) w3 := by
      intro w3 o' hf' ho' x3
      unfold ref15_Reach.J0
      rw [wrap_i64 (by omega) (by omega)]
      exact ih (k + 1) (by omega) (by omega) w3 o' hf' ho' x3
    refine ref15_Reach.L0_step (ifP_yes (by omega) ⟨by omega, by omega, p, hp, v, by rw [ht]; exact hcell, ?_⟩)
    cases v with
    | false =>
      refine ifP_t rfl (next w' o (hf.skip fun hr => ?_) ho x)
      rw [here.2 hr] at hv
      cases hv
    | true =>
      have hr := here.1 hv
      refine ifP_f rfl ?_
      obtain ⟨q, pb, hq, hpp, h8⟩ := (hx.ext x).at8 (i := k) hkn
      have hb := blks_get hpp
      have t2 := (T.at_ k pb.b hb).2.1
      have kinds := endedB_kinds t2
      refine ⟨by omega, by omega, q, hq, ?_⟩
      rw [ht]
      -- behind Yes
      have j1 : ∀ (w3 : World) (o3 : List Bool), OBools w3 O n o3 → Go.Rd.Ext w w3 → o3.length = n → (∀ j : Nat, o3[j]? = some true ↔ (o[j]? = some true ∨ pb.b.e ≠ 1 ∧ (j : Int) = pb.b.yes)) → ref15_Reach.J1 (fun v w' => ∃ O, v = .slice O n n ∧ OBools w' O n (reachL (blks ps)) ∧ (∀ k, blk O k → w.heap.size ≤ k) ∧ Go.Rd.Ext w w') A n c O n n (k : Int) w3 := by
        intro w3 o3 ho3 x3 hl3 h3
        obtain ⟨q', pb', hq', hpp', h8'⟩ := (hx.ext x3).at8 (i := k) hkn
        rw [hpp] at hpp'
        obtain rfl := Option.some.inj hpp'
        refine ⟨by omega, by omega, q', hq', ?_⟩
        rw [ht]
        refine ⟨_, h8'.e, ifP_beq.2 ⟨fun e3 => ⟨by omega, by omega, q', hq', _, h8'.o, ?_⟩, fun e3 => ?_⟩⟩
        · have hgo : pb.b.no ∈ goalsL pb.b := by simp [goalsL, e3]
          obtain ⟨g1, g2, g3, g4⟩ := T.goal_nat hb hgo
          refine ⟨by omega, by omega, put_true (t := pb.b.no.toNat) ho3 (by omega) (by omega) fun w4 o4 k4 => next w4 _ (hf.go hr (by rw [set_length]; omega) fun j => ?_) o4 (x3.fresh k4 b1)⟩
          rw [set_true (by omega), h3 j, goes_iff hb]
          have em : goalsL pb.b = [pb.b.yes, pb.b.no] := by simp [goalsL, e3]
          constructor
          · rintro ((h | ⟨_, h⟩) | rfl)
            · exact .inl h
            · refine .inr ⟨?_, by rw [em, h]; simp⟩
              have := (T.goal_nat hb (show pb.b.yes ∈ goalsL pb.b by rw [em]; simp)).2.1
              omega
            · exact .inr ⟨by omega, by rw [g3]; exact hgo⟩
          · rintro (h | ⟨_, h⟩)
            · exact .inl (.inl h)
            · rw [em] at h
              simp only [List.mem_cons, List.not_mem_nil, or_false] at h
              rcases h with h | h
              · exact .inl (.inr ⟨by omega, h⟩)
              · exact .inr (by omega)
        · refine next w3 o3 (hf.go hr (by omega) fun j => ?_) ho3 x3
          rw [h3 j, goes_iff hb]
          by_cases e1 : pb.b.e = 1
          · have em : goalsL pb.b = [] := by simp [goalsL, e1]
            rw [em]
            simp [e1]
          · have e2 : pb.b.e = 2 := by omega
            have em : goalsL pb.b = [pb.b.yes] := by simp [goalsL, e2]
            have := T.goal_nat hb (show pb.b.yes ∈ goalsL pb.b by rw [em]; simp)
            rw [em]
            simp only [List.mem_cons, List.not_mem_nil, or_false]
            constructor
            · rintro (h | ⟨_, h⟩)
              · exact .inl h
              · exact .inr ⟨by omega, h⟩
            · rintro (h | ⟨_, h⟩)
              · exact .inl h
              · exact .inr ⟨e1, h⟩
      refine ⟨_, h8.e, ifP_bne.2 ⟨fun e1 => ⟨by omega, by omega, q, hq, _, h8.y, ?_⟩, fun e1 => ?_⟩⟩
      · have hgo : pb.b.yes ∈ goalsL pb.b := by
          have : pb.b.e = 2 ∨ pb.b.e = 3 := by omega
          rcases this with h | h <;> simp [goalsL, h]
        obtain ⟨g1, g2, g3, g4⟩ := T.goal_nat hb hgo
        refine ⟨by omega, by omega, put_true (t := pb.b.yes.toNat) ho (by omega) (by omega) fun w4 o4 k4 => j1 w4 _ o4 (x.fresh k4 b1) (by rw [set_length]; omega) fun j => ?_⟩
        rw [set_true (by omega)]
        constructor
        · rintro (h | rfl)
          · exact .inl h
          · exact .inr ⟨e1, g3⟩
        · rintro (h | ⟨_, h⟩)
          · exact .inl h
          · exact .inr (by omega)
      · refine j1 w' o ho x (by omega) fun j => ?_
        simp [e1]
theorem rgsize_spec (hx : IBl w A n ps) (T : GTaken (blks ps)) : Run Try.prog 35 #[.slice A n c] w fun v w' => v = .int .i64 (weighV 1 0 1 (blks ps)) ∧ Go.Rd.Ext w w' := by
  have hl := hx.len
  have hbl : (blks ps).length = n := by rw [blks, List.length_map, hl]
  have hTl := T.le
  have hTc := T.codes
  refine ref15_Size.ok ?_
  suffices H : ∀ (d k : Nat), n - k = d → k ≤ n → ∀ (w' : World), Go.Rd.Ext w w' → ref15_Size.L0 (fun v w' => v = .int .i64 (weighV 1 0 1 (blks ps)) ∧ Go.Rd.Ext w w') A n c (weighV 1 0 1 ((blks ps).take k)) (k : Int) w' from H n 0 (by omega) (by omega) w (Go.Rd.Ext.refl w)
  intro d
  induction d with
  | zero =>
    intro k hd hk w' x
    refine ref15_Size.L0_step (ifP_no (by omega) ⟨?_, x⟩)
    rw [List.take_of_length_le (by omega)]
  | succ d ih =>
    intro k hd hk w' x
    obtain ⟨q, p, hq, hp, h8⟩ := (hx.ext x).at8 (i := k) (by omega)
    have hbk := blks_get hp
    have hpl : p.b.code.length = p.n := (hx.code p (List.mem_of_getElem? hp)).len
    have ht' : Int.toNat ((k : Nat) : Int) = k := Int.toNat_natCast k
    have hsum := sum_take_succ hbk
    have z1 := weigh_le (back := 1) (on := 0) (test := 1) (by decide) (by decide) (by decide) ((blks ps).take k)
    have z2 := sum_take_le (blks ps) (k + 1)
    have z3 : ((blks ps).take k).length ≤ n := by rw [List.length_take]; omega
    have hw := weigh_take (back := 1) (on := 0) (test := 1) hbk
    refine ref15_Size.L0_step (ifP_yes (by omega) ⟨by omega, by omega, q, hq, ?_⟩)
    rw [ht']
    refine ⟨_, _, _, h8.s, by omega, by omega, q, hq, _, h8.e, ifP_bne.2 ⟨fun e2 => ?_, fun e2 => ?_⟩⟩
    · unfold ref15_Size.J0
      rw [wrap_i64 (x := weighV 1 0 1 ((blks ps).take k) + ((p.n : Nat) : Int)) (by omega) (by omega), wrap_i64 (by omega) (by omega), wrap_i64 (by omega) (by omega)]
      have := ih (k + 1) (by omega) (by omega) w' x
      have e : weighB 1 0 1 p.b = p.n + 1 := by
        rw [weighB, hpl]
        split
        · rfl
        · rfl
      rw [hw, e] at this
      rwa [Int.add_assoc]
    · unfold ref15_Size.J0
      rw [wrap_i64 (x := weighV 1 0 1 ((blks ps).take k) + ((p.n : Nat) : Int)) (by omega) (by omega), wrap_i64 (by omega) (by omega)]
      have := ih (k + 1) (by omega) (by omega) w' x
      have e : weighB 1 0 1 p.b = p.n := by
        rw [weighB, hpl, if_neg (by omega), if_pos e2]
        omega
      rw [hw, e] at this
      exact this
theorem rgmeasure_spec (hx : IBl w A n ps) (T : GTaken (blks ps)) : Run Try.prog 36 #[.slice A n c] w fun v w' => v = .int .i64 (weighV 1 1 3 (blks ps)) ∧ Go.Rd.Ext w w' := by
  have hl := hx.len
  have hbl : (blks ps).length = n := by rw [blks, List.length_map, hl]
  have hTl := T.le
  have hTc := T.codes
  refine ref15_Measure.ok ?_
  suffices H : ∀ (d k : Nat), n - k = d → k ≤ n → ∀ (w' : World), Go.Rd.Ext w w' → ref15_Measure.L0 (fun v w' => v = .int .i64 (weighV 1 1 3 (blks ps)) ∧ Go.Rd.Ext w w') A n c (weighV 1 1 3 ((blks ps).take k)) (k : Int) w' from H n 0 (by omega) (by omega) w (Go.Rd.Ext.refl w)
  intro d
  induction d with
  | zero =>
    intro k hd hk w' x
    refine ref15_Measure.L0_step (ifP_no (by omega) ⟨?_, x⟩)
    rw [List.take_of_length_le (by omega)]
  | succ d ih =>
    intro k hd hk w' x
    obtain ⟨q, p, hq, hp, h8⟩ := (hx.ext x).at8 (i := k) (by omega)
    have hbk := blks_get hp
    have hpl : p.b.code.length = p.n := (hx.code p (List.mem_of_getElem? hp)).len
    have kinds := endedB_kinds (T.at_ k p.b hbk).2.1
    have ht' : Int.toNat ((k : Nat) : Int) = k := Int.toNat_natCast k
    have hsum := sum_take_succ hbk
    have z1 := weigh_le (back := 1) (on := 1) (test := 3) (by decide) (by decide) (by decide) ((blks ps).take k)
    have z2 := sum_take_le (blks ps) (k + 1)
    have z3 : ((blks ps).take k).length ≤ n := by rw [List.length_take]; omega
    have hw := weigh_take (back := 1) (on := 1) (test := 3) hbk
    refine ref15_Measure.L0_step (ifP_yes (by omega) ⟨by omega, by omega, q, hq, ?_⟩)
    rw [ht']
    refine ⟨_, _, _, h8.s, by omega, by omega, q, hq, _, h8.e, ifP_beq.2 ⟨fun e3 => ?_, fun e3 => ?_⟩⟩
    · unfold ref15_Measure.J0
      rw [wrap_i64 (x := weighV 1 1 3 ((blks ps).take k) + ((p.n : Nat) : Int)) (by omega) (by omega), wrap_i64 (x := weighV 1 1 3 ((blks ps).take k) + ((p.n : Nat) : Int) + 1) (by omega) (by omega), wrap_i64 (by omega) (by omega), wrap_i64 (by omega) (by omega)]
      have := ih (k + 1) (by omega) (by omega) w' x
      have e : weighB 1 1 3 p.b = p.n + 3 := by rw [weighB, hpl, if_neg (by omega), if_neg (by omega)]
      rw [hw, e] at this
      rwa [show weighV 1 1 3 ((blks ps).take k) + ((p.n : Nat) : Int) + 1 + 2 = weighV 1 1 3 ((blks ps).take k) + (((p.n : Nat) : Int) + 3) by omega]
    · unfold ref15_Measure.J0
      rw [wrap_i64 (x := weighV 1 1 3 ((blks ps).take k) + ((p.n : Nat) : Int)) (by omega) (by omega), wrap_i64 (by omega) (by omega), wrap_i64 (by omega) (by omega)]
      have := ih (k + 1) (by omega) (by omega) w' x
      have e : weighB 1 1 3 p.b = p.n + 1 := by
        rw [weighB, hpl]
        split
        · rfl
        · rw [if_pos (by omega)]
      rw [hw, e] at this
      rwa [Int.add_assoc]
end
section
variable {W : World} {A : Option Addr} {n c : Nat} {ps : List BP}
theorem GraphSizes_main (hx : RdM BP.v W A n ps) (hb : ∀ p ∈ ps, BIn W p) (hn : n * 56 ≤ 140737488351232) :
    Run Try.prog 7 #[.slice A n c] W (Good W) := by
  have hi : IBl W A n ps := ⟨hx, fun p hp => (hb p hp).rd⟩
  have hs8 : ∀ p ∈ ps, p.n * 8 ≤ 140737488351232 := fun p hp => (hb p hp).size
  have hs : ∀ p ∈ ps, p.n ≤ 140737488351232 := fun p hp => by have := hs8 p hp; omega
  have sizes : ∀ {T : List Ins} {X : List BP} {w : World} {A : Option Addr} {c : Nat} {qs : List BP}, GOk T X w A c qs → blks qs = blks ps → ∀ q ∈ qs, q.n ≤ 140737488351232 := by
    intro T X w A c qs g hq q hqm
    obtain ⟨p, hp, he⟩ := List.mem_map.1 (show q.b ∈ blks ps by rw [← hq]; exact blks_mem hqm)
    have hl : p.b.code.length = p.n := (hi.code p hp).len
    have := hs p hp
    rw [← (g.part q hqm).2, ← he]
    omega
  refine law15_GraphSizes.ok ((rtakes_spec hi hs).mono ?_)
  rintro v w1 ⟨rfl, x1⟩
  refine ⟨_, rfl, (lendBlocks_spec (hi.ext x1) hs8 hn).mono ?_⟩
  rintro v w2 ⟨A2, c2, qs, rfl, g2, hq, hql, hf, x2⟩
  have hsq := sizes g2 hq
  refine ⟨_, _, _, rfl, (gsize_spec (g2.read hql) hsq).mono ?_⟩
  rintro v w3 ⟨rfl, x3⟩
  refine ⟨_, _, rfl, (gmeasure_spec ((g2.ext x3).read hql) hsq).mono ?_⟩
  rintro v w4 ⟨rfl, x4⟩
  refine ⟨_, _, rfl, (greach_spec (((g2.ext x3).ext x4).read hql) hsq).mono ?_⟩
  rintro v w5 ⟨X, xc, rfl, o5, b5, x5⟩
  rw [hq] at o5 ⊢
  have hlen := reachR_length (bs := blks ps)
  have x25 := (x3.trans x4).trans x5
  have x05 := (x1.trans x2).trans x25
  have z1 := x1.size
  have z2 := x2.size
  have z4 := (x3.trans x4).size
  have L2 : ∀ k, gff A2 qs k → k < w2.heap.size := fun k hk => g2.lt hk
  have L5 := o5.lt
  refine ⟨_, _, _, _, rfl, (keptBlocks_spec hi hs8 hn x05 (g2.ext x25) hq hql (fun k hk => by have := hf k hk; omega)).mono ?_⟩
  rintro v w6 ⟨rfl, k6⟩
  have x06 : Go.Rd.Ext W w6 := x05.fresh k6 fun k hk => by have := hf k hk; omega
  have o6 := o5.keep k6 fun k hk h => by have := b5 k hk; have := L2 k h; omega
  have z6 := k6.size
  refine ⟨_, rfl, ifP_f rfl ((copyBlocks_spec (hi.ext x06) hs8 hn).mono ?_)⟩
  rintro v w7 ⟨A7, c7, rs, rfl, g7, hr, hrl, hf7, x7⟩
  refine ⟨_, _, _, rfl, (greach_spec (g7.read hrl) (sizes g7 hr)).mono ?_⟩
  rintro v w8 ⟨Y, yc, rfl, o8, b8, x8⟩
  rw [hr] at o8 ⊢
  have x08 := (x06.trans x7).trans x8
  have z7 := x7.size
  refine ⟨_, _, _, _, rfl, ?_⟩
  by_cases hc : (gcheckV (blks ps)).2 ≠ 0
  · have e1 : takesB (blks ps) = false := by simpa [takesB] using hc
    have e2 : sizeR (blks ps) = (0, 155) := by rw [sizeR, weighR, if_pos hc]
    have e3 : measureR (blks ps) = (0, 155) := by rw [measureR, weighR, if_pos hc]
    have e4 : reachR (blks ps) = ([], 155) := by rw [reachR, if_pos hc]
    rw [e1, e2, e3, e4]
    refine ifP_t rfl (ifP_eq rfl (ifP_eq rfl (ifP_eq rfl (ifP_eq rfl (ifP_eq rfl (ifP_eq rfl (gawake_spec.mono ?_)))))))
    rintro v w9 ⟨rfl, x9⟩
    exact ⟨_, rfl, rfl, Fr.of_ext (x08.trans x9)⟩
  have hc := Classical.not_not.1 hc
  obtain ⟨T, _⟩ := gtaken_of hc
  have hbl : (blks ps).length = n := by rw [blks, List.length_map, hx.len]
  have e1 : takesB (blks ps) = true := by simpa [takesB] using hc
  have e2 : sizeR (blks ps) = (weighV 1 0 1 (blks ps), 0) := by rw [sizeR, weighR, if_neg (not_not_intro hc)]
  have e3 : measureR (blks ps) = (weighV 1 1 3 (blks ps), 0) := by rw [measureR, weighR, if_neg (not_not_intro hc)]
  have e4 : reachR (blks ps) = (reachL (blks ps), 0) := by rw [reachR, if_neg (not_not_intro hc)]
  rw [e1, e2, e3]
  refine ifP_f rfl ((rgreach_spec (hi.ext x08) T).mono ?_)
  rintro v w9 ⟨Z, rfl, o9, b9, x9⟩
  rw [e4] at o6 o8 hlen ⊢
  have e5 : (reachL (blks ps)).length = n := by rw [reachL_length, hbl]
  refine ⟨_, _, _, rfl, ifP_nne rfl (ifP_nne rfl (ifP_nne rfl ((rgsize_spec (hi.ext (x08.trans x9)) T).mono ?_)))⟩
  rintro v w10 ⟨rfl, x10⟩
  refine ⟨_, rfl, ifP_nne rfl ((rgmeasure_spec (hi.ext ((x08.trans x9).trans x10)) T).mono ?_)⟩
  rintro v w11 ⟨rfl, x11⟩
  have x611 := (((x7.trans x8).trans x9).trans x10).trans x11
  have z8 := x8.size
  have z9 := x9.size
  refine ⟨_, rfl, ifP_nne rfl ((sameBools_spec ((o6.ext x611).rd rfl) ((o9.ext (x10.trans x11)).rd e5) (by omega)).mono ?_)⟩
  rintro v w12 ⟨rfl, x12⟩
  refine ⟨_, rfl, ?_⟩
  rw [decide_eq_true rfl]
  refine ifP_f rfl ((spoilBools_spec ((o6.ext x611).ext x12) (by rw [List.length_map]) (by omega)).mono ?_)
  rintro v w13 ⟨rfl, k13⟩
  have z11 := (x10.trans x11).size
  have Lo8 := o8.lt
  have y13 := (o8.ext (((x9.trans x10).trans x11).trans x12)).keep k13 fun k hk h => by have := b8 k hk; have := L5 k h; omega
  have t13 := (o9.ext ((x10.trans x11).trans x12)).keep k13 fun k hk h => by have := b9 k hk; have := L5 k h; omega
  have x013 : Go.Rd.Ext W w13 := (x06.trans (x611.trans x12)).fresh k13 fun k hk => by have := b5 k hk; omega
  refine ⟨rfl, (sameBools_spec (y13.rd rfl) (t13.rd e5) (by omega)).mono ?_⟩
  rintro v w14 ⟨rfl, x14⟩
  refine ⟨_, rfl, ifP_t (by simp) (gawake_spec.mono ?_)⟩
  rintro v w15 ⟨rfl, x15⟩
  exact ⟨_, rfl, rfl, Fr.of_ext ((x013.trans x14).trans x15)⟩
end
end Go.Proofs.Ytbchjihecdkfeaa
