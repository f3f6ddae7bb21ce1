/- Package frame: Look's walk behind its deferral, and Look. -/
import Derived.Test.YthcpkjfccfgiaaaFLook
namespace Go.Proofs.Ythcpkjfccfgiaaa
open Go.Rd Go.RowKit
set_option linter.unusedVariables false
set_option linter.unusedSimpArgs false
set_option maxRecDepth 100000

section
variable {W : World} {D : List Deferred} {Q : Exit → Act → World → Prop} {p4 p5 b q c n : Nat} {e0 : Int} {k : Lnk} {A : Option Addr} {xs : List Int}
theorem Out.ext {W w w' : World} {v : Vw} {e : Int} (h : Out W w p4 p5 v e) (hk : Go.Rd.Ext w w') : Out W w' p4 p5 v e :=
  { at4 := hk.heap h.at4, at5 := hk.heap h.at5, ne := h.ne, new4 := h.new4, new5 := h.new5, fr := h.fr.ext hk }

theorem r10_wp {j : Nat} (hj : j < 5) {st : St} {w : World} (hl : Lp st p4 p5 b q j) (h : ∀ st', Lp st' p4 p5 b q (j + 1) → Q .normal (act D st') w) : (sub look_r10.body [1, 1, 1, 1, 0, 1, 0, 0, 1, 1, 1]).wp Try.prog Q (act D st) w := by
  rw [hl.eq]
  refine code_wp (live := look_r10.live) (b := 0) Try.mixed (Eq.mpr (look_r10.eq (fun e st w => Q (exitOf e) (act D st) w) ⟨p4, 0, none⟩ ⟨p5, 0, none⟩ ⟨b, 0, none⟩ (some ⟨q, 0, none⟩) 5 5 5 (j : Int) (get st) w) ?_)
  have hw : IntKind.i64.wrap ((j : Int) + 1) = ((j + 1 : Nat) : Int) := wrap_i64 (by omega) (by omega)
  refine h _ ⟨⟨by kernel_rfl, rfl, rfl, rfl⟩, rfl, rfl, ?_⟩
  rw [← hw]
  rfl

theorem call_wp {j : Nat} (hj : j < 5) {st : St} {w : World} (hlen : hasLen st 44 = true) (h9 : get st 9 = .func (.func (stepF j)) #[rp b] #[]) {R : Value → World → Prop} {X : List PanicEntry → World → Prop} (hr : RunE Try.prog (stepF j) #[rp b] w R X)
    (hq : ∀ v w', R v w' → Q .normal (act D ((st.set 37 (.func (.func (stepF j)) #[rp b] #[])).set 38 v)) w') (hx : ∀ cs w', X cs w' → Q (.panic cs) (act D (st.set 37 (.func (.func (stepF j)) #[rp b] #[]))) w') :
    (sub look_round.body [1, 1, 1, 1, 0, 1, 0, 0, 1, 1, 0, 0, 1]).wp Try.prog Q (act D st) w := by
  have hg : okCall Try.prog (stepF j) = true := by
    match j, hj with
    | 0, _ => exact (by kernel_rfl : okCall Try.prog 27 = true)
    | 1, _ => exact (by kernel_rfl : okCall Try.prog 28 = true)
    | 2, _ => exact (by kernel_rfl : okCall Try.prog 29 = true)
    | 3, _ => exact (by kernel_rfl : okCall Try.prog 30 = true)
    | 4, _ => exact (by kernel_rfl : okCall Try.prog 31 = true)
  have hl : 37 < st.length := by rw [hasLen_iff hlen]; decide
  have hreg : sub look_round.body [1, 1, 1, 1, 0, 1, 0, 0, 1, 1, 0, 0, 1] = Code.region 9 #[opAt (sub look_round.body [1, 1, 1, 1, 0, 1, 0, 0, 1, 1, 0, 0, 1]) 0, opAt (sub look_round.body [1, 1, 1, 1, 0, 1, 0, 0, 1, 1, 0, 0, 1]) 1] false := by kernel_rfl
  have a0 : (opAt (sub look_round.body [1, 1, 1, 1, 0, 1, 0, 0, 1, 1, 0, 0, 1]) 0).op = .move (.tmp 9) := by kernel_rfl
  have a1 : (opAt (sub look_round.body [1, 1, 1, 1, 0, 1, 0, 0, 1, 1, 0, 0, 1]) 0).dst = some 37 := by kernel_rfl
  have a2 : (opAt (sub look_round.body [1, 1, 1, 1, 0, 1, 0, 0, 1, 1, 0, 0, 1]) 0).guard = none := by kernel_rfl
  have a3 : (opAt (sub look_round.body [1, 1, 1, 1, 0, 1, 0, 0, 1, 1, 0, 0, 1]) 1).op = .call ⟨.value (.tmp 37), #[], #[]⟩ := by kernel_rfl
  have a4 : (opAt (sub look_round.body [1, 1, 1, 1, 0, 1, 0, 0, 1, 1, 0, 0, 1]) 1).dst = some 38 := by kernel_rfl
  have a5 : (opAt (sub look_round.body [1, 1, 1, 1, 0, 1, 0, 0, 1, 1, 0, 0, 1]) 1).guard = none := by kernel_rfl
  rw [hreg]
  generalize opAt (sub look_round.body [1, 1, 1, 1, 0, 1, 0, 0, 1, 1, 0, 0, 1]) 0 = o0 at *
  generalize opAt (sub look_round.body [1, 1, 1, 1, 0, 1, 0, 0, 1, 1, 0, 0, 1]) 1 = o1 at *
  exact wp_call_tmp a0 a1 a2 a3 rfl rfl a4 a5 hl h9 hg hr hq hx

theorem steps_at {j : Nat} (hj : j < 5) : (steps5 b)[0 + Int.toNat (j : Int) * 1]? = some (.func (.func (stepF j)) #[rp b] #[]) := by
  match j, hj with
  | 0, _ => rfl
  | 1, _ => rfl
  | 2, _ => rfl
  | 3, _ => rfl
  | 4, _ => rfl
set_option maxHeartbeats 400000 in
theorem round_wp (hb : IBytes W A n xs) (hx : ∀ x ∈ xs, 0 ≤ x ∧ x ≤ 255) (hc : n ≤ c) (hA : ∀ q, blk A q → q ≠ b) (hqb : q ≠ b) (n4 : p4 ≠ b) (n5 : p5 ≠ b) (nb : W.heap.size ≤ b) {j : Nat} {st : St} {w : World} (hd : Rd W k A n c xs p4 p5 b q j e0 st w)
    (hn : ∀ st' w', Rd W k A n c xs p4 p5 b q (j + 1) e0 st' w' → Q .normal (act D st') w') (he : j = 5 → ∀ st', Rd W k A n c xs p4 p5 b q 5 e0 st' w → Q (.exit 0) (act D st') w)
    (QP : ∀ st w v e, Tl st p4 p5 b → Out W w p4 p5 v e0 → walkX k xs = .error e → Q (.panic [stopE e]) (act D st) w) :
    (sub look_round.body [1, 1, 1, 1, 0, 1, 0, 0]).wp Try.prog Q (act D st) w := by
  have toExt : ∀ {w : World}, Fr W w → Go.Rd.Ext W w := fun f => (Keep.of_below f).mono fun k hk hs => by have : W.heap.size ≤ k := hs; omega
  obtain ⟨s, hra, hin⟩ := hd.rd
  obtain ⟨v, hout⟩ := hd.out
  obtain ⟨t, fz, hfs⟩ := hd.fs
  let J : St → World → Prop := fun st3 w3 => w3 = w ∧ Lp st3 p4 p5 b q j ∧ j < 5 ∧ get st3 9 = .func (.func (stepF j)) #[rp b] #[]
  have hJ : ∀ st3 w3, J st3 w3 → behindW Try.prog [1, 1, 0, 0] (sub look_round.body [1, 1, 1, 1, 0, 1, 0, 0]) Q (act D st3) w3 := by
    rintro st3 w3 ⟨rfl, hl, hj, h9⟩
    have hreg : behindW Try.prog [1, 1, 0, 0] (sub look_round.body [1, 1, 1, 1, 0, 1, 0, 0]) Q = (sub look_round.body [1, 1, 1, 1, 0, 1, 0, 0, 1, 1, 0, 0, 1]).wp Try.prog (Exit.inBlock 1 (Exit.then ((sub look_r10.body [1, 1, 1, 1, 0, 1, 0, 0, 1, 1, 1]).wp Try.prog Q) Q)) := by kernel_rfl
    rw [hreg]
    refine call_wp hj hl.len h9 (step_spec j hj hra (hb.ext (toExt hout.fr)) hx hA hc hin) ?_ ?_
    · rintro u w4 ⟨s', hi', hra', hk4⟩
      refine r10_wp hj ((hl.set (d := 37) (by decide)).set (d := 38) (by decide)) fun st' hl' => hn st' w4 ?_
      exact { lp := hl', j5 := hj, out := ⟨v, hout.keep hk4 n4 n5 nb⟩, fs := ⟨t, fz, hk4.heap hfs hqb⟩, rd := ⟨s', hra', hi'⟩ }
    · rintro cs w4 ⟨e, he, rfl, hk4⟩
      exact QP _ _ v e (hl.set (d := 37) (by decide)).toTl (hout.keep hk4 n4 n5 nb) he
  have hst := hd.lp.eq
  have hs : spine Try.prog none look_round.live J [1, 1, 0, 0] 0 (sub look_round.body [1, 1, 1, 1, 0, 1, 0, 0]) (fun e st w => Q (exitOf e) (act D st) w) st w := by
    rw [hst]
    refine Eq.mpr (look_round.eq (fun e st w => Q (exitOf e) (act D st) w) J ⟨p4, 0, none⟩ ⟨p5, 0, none⟩ ⟨b, 0, none⟩ (some ⟨q, 0, none⟩) 5 5 5 (j : Int) (get st) w) (ifP_decide.2 ⟨fun hj => ?_, fun hj => ?_⟩)
    · have hj' : j < 5 := by omega
      refine ⟨by omega, by omega, _, rfl, .func (.func (stepF j)) #[rp b] #[], ?_, rfl, ⟨⟨by kernel_rfl, rfl, rfl, rfl⟩, rfl, rfl, rfl⟩, hj', rfl⟩
      rw [add_mk, cell_of hfs]
      exact steps_at hj'
    · have hj' : j = 5 := by have := hd.j5; omega
      subst hj'
      exact he rfl _ { lp := ⟨⟨by kernel_rfl, rfl, rfl, rfl⟩, rfl, rfl, rfl⟩, j5 := by decide, out := ⟨v, hout⟩, fs := ⟨t, fz, hfs⟩, rd := ⟨s, hra, hin⟩ }
  exact spine_wpW Try.mixed (by kernel_rfl) (fun _ _ _ h => h) hJ hs

theorem look_tail (hb : IBytes W A n xs) (hx : ∀ x ∈ xs, 0 ≤ x ∧ x ≤ 255) (hc : n ≤ c) (hA : ∀ q, blk A q → q < W.heap.size) (QR : ∀ st w v, Tl st p4 p5 b → Out W w p4 p5 v 0 → lookX k xs = .ok v → Q .ret (act D st) w)
    (QP : ∀ st w v e, Tl st p4 p5 b → Out W w p4 p5 v e0 → lookX k xs = .error e → Q (.panic [stopE e]) (act D st) w)
    (hk : linkOk k = true) (n4 : p4 ≠ b) (n5 : p5 ≠ b) (nb : W.heap.size ≤ b) {v0 : Vw} {st : St} {w : World} (ht : Tl st p4 p5 b) (ho : Out W w p4 p5 v0 e0) (hr : RAt w b k A n c 0 vw0) :
    (sub look_head.body [1, 1, 1, 1]).wp Try.prog Q (act D st) w := by
  have hcut : sub look_head.body [1, 1, 1, 1] = .seq (.seq (sub look_r6.body [1, 1, 1, 1, 0, 0]) (.block 0 (.loop (sub look_round.body [1, 1, 1, 1, 0, 1, 0, 0])))) (sub look_end.body [1, 1, 1, 1, 1]) := by kernel_rfl
  rw [hcut]
  refine wp_seq (wp_seq ?_)
  let Qe : Exit → Act → World → Prop := Exit.then ((sub look_end.body [1, 1, 1, 1, 1]).wp Try.prog Q) Q
  let Qb : Exit → Act → World → Prop := Exit.then ((Code.block 0 (.loop (sub look_round.body [1, 1, 1, 1, 0, 1, 0, 0]))).wp Try.prog Qe) Qe
  show (sub look_r6.body [1, 1, 1, 1, 0, 0]).wp Try.prog Qb (act D st) w
  rw [ht.eq]
  have hbw : b < w.heap.size := heap_lt hr
  let q := w.heap.size
  have hqb : q ≠ b := by show w.heap.size ≠ b; omega
  let I : Act → World → Prop := fun a w => ∃ st j, a = act D st ∧ Rd W k A n c xs p4 p5 b q j e0 st w
  let μ : Act → World → Nat := fun a _ => match a.tmps.getD 33 undef with | .int _ j => (5 - j).toNat | _ => 0
  have mu : ∀ (st : St) (j : Nat) (w : World), get st 33 = .int .i64 j → μ (act D st) w = 5 - j := by
    intro st j w h
    have : (act D st).tmps.getD 33 undef = .int .i64 j := (get_eq st 33).symm.trans h
    show (match (act D st).tmps.getD 33 undef with | .int _ j => (5 - j).toNat | _ => 0) = 5 - j
    rw [this]
    show (5 - (j : Int)).toNat = 5 - j
    omega
  have hloop : ∀ (st : St) (j : Nat) (w : World), Rd W k A n c xs p4 p5 b q j e0 st w → (Code.block 0 (.loop (sub look_round.body [1, 1, 1, 1, 0, 1, 0, 0]))).wp Try.prog Qe (act D st) w := by
    intro st j w hd
    refine wp_block (wp_loop I μ ⟨st, j, rfl, hd⟩ ?_)
    rintro a w2 ⟨st2, j, rfl, hd⟩
    refine round_wp hb hx hc (fun i hi => by have := hA i hi; omega) hqb n4 n5 nb hd (fun st' w' hd' => ?_) (fun hj st' hd' => ?_) (fun st w v e ht ho he => ?_)
    · show I (act D st') w' ∧ μ (act D st') w' < μ (act D st2) w2
      refine ⟨⟨st', j + 1, rfl, hd'⟩, ?_⟩
      rw [mu _ _ w' hd'.lp.t33, mu _ _ w2 hd.lp.t33]
      have := hd'.j5
      omega
    · have hif : Exit.inBlock 0 Qe (.exit 0) (act D st') w2 = Qe .normal (act D st') w2 := by simp only [Exit.inBlock, if_true]
      show Exit.inBlock 0 Qe (.exit 0) (act D st') w2
      rw [hif]
      exact look_fin QR hk n4 n5 nb hd'
    · exact QP st w v e ht ho (by rw [walk_look k xs hk, he])
  refine code_wp (live := look_r6.live) (b := 0) Try.mixed (Eq.mpr (look_r6.eq (fun e st w => Qb (exitOf e) (act D st) w) ⟨p4, 0, none⟩ ⟨p5, 0, none⟩ ⟨b, 0, none⟩ (get st) w) (letA fun w1 h1 x1 s1 => ?_))
  refine hloop _ 0 w1 { lp := ⟨⟨by kernel_rfl, rfl, rfl, rfl⟩, rfl, rfl, rfl⟩, j5 := by decide, out := ⟨_, ho.ext x1⟩, fs := ⟨_, _, h1⟩, rd := ⟨(0, vw0), hr.ext x1, by rfl, fun _ => rfl, fun h => absurd h (by decide), by decide, by decide⟩ }
end
end Go.Proofs.Ythcpkjfccfgiaaa
