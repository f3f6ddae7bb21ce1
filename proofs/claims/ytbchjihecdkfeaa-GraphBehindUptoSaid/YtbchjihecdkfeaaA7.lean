/- The document's Run of a graph. -/
import Derived.Test.YtbchjihecdkfeaaA5
import Derived.Test.YtbchjihecdkfeaaA6
import Derived.Test.YtbchjihecdkfeaaVR8
namespace Go.Proofs.Ytbchjihecdkfeaa
open Go.Rd Go.RowKit
set_option linter.unusedVariables false
set_option linter.unusedSimpArgs false
set_option maxRecDepth 100000
section
variable {w : World} {A P : Option Addr} {n c pn pc : Nat} {pkt : List Int} {ps : List BP}
theorem rgrun_spec (hx : IBl w A n ps) (hs : ∀ p ∈ ps, p.n ≤ 140737488351232) (hok : ∀ p ∈ ps, Inss p.b.code) (hp : IBytes w P pn pkt) :
    Run Try.prog 15 #[.slice A n c, .slice P pn pc] w fun v w' => v = .tuple #[vArr (gverdV (blks ps) pkt), .int .i64 (gcodeV (blks ps) pkt)] ∧ Go.Rd.Ext w w' := by
  have hl := hx.len
  have hpl := hp.len
  have hbl : (blks ps).length = n := by rw [blks, List.length_map, hl]
  refine ref15_Run.ok (letA fun w1 h1 x1 s1 => (rtakes_spec (hx.ext x1) hs).mono ?_)
  rintro v w2 ⟨rfl, x2⟩
  have h2 := x2.heap h1
  have bad : ∀ e : Int, gcodeV (blks ps) pkt = e → e ≠ 0 → storeRow (newA w) 0 [.int .u32 0, .int .i64 0, .int .i64 0] w2 fun w3 => ∃ t0 : Int, w3.cell? (newA w) = some (.int .u32 t0) ∧ ∃ t1 : Int, w3.cell? ((newA w).add 1) = some (.int .i64 t1) ∧ ∃ t2 : Int, w3.cell? ((newA w).add 2) = some (.int .i64 t2) ∧ (Value.tuple #[.agg #[.int .u32 t0, .int .i64 t1, .int .i64 t2], .int .i64 e] = .tuple #[vArr (gverdV (blks ps) pkt), .int .i64 (gcodeV (blks ps) pkt)] ∧ Go.Rd.Ext w w3) := by
    intro e he hne
    refine storeRow_block h2 (show 0 + 0 + 3 ≤ 3 by decide) rfl fun w7 h7 k7 _ => ?_
    rw [setFrom_all [.int .u32 0, .int .i64 0, .int .i64 0] [.int .u32 0, .int .i64 0, .int .i64 0] rfl] at h7
    refine rd3 (x := (0, 0, 0)) h7 ⟨?_, (x1.trans x2).fresh k7 fun j hj => by rw [hj]; exact Nat.le_refl _⟩
    rw [gverdV, if_neg (by rw [he]; exact hne), he]
  refine ⟨_, rfl, ifP_not.2 (ifP_of (fun hc => ?_) fun hc => bad 155 ?_ (by decide))⟩
  rotate_left
  · have hc : ¬ (gcheckV (blks ps)).2 = 0 := by simpa [takesB] using hc
    rw [gcodeV, if_pos hc]
  have hc : (gcheckV (blks ps)).2 = 0 := by simpa [takesB] using hc
  refine ifP_decide.2 ⟨fun hlt => bad 51 (by rw [gcodeV, if_neg (not_not_intro hc), if_pos (by omega)]) (by decide), fun hlt => letA fun w4 h4 x4 s4 => ?_⟩
  have ec : gcodeV (blks ps) pkt = 0 := by rw [gcodeV, if_neg (not_not_intro hc), if_neg (by omega)]
  obtain ⟨T, _⟩ := gtaken_of hc
  have hTl := T.le
  have hT0 := T.pos
  have hTc := T.codes
  have hM4 : WsAt w4 w2.heap.size ws0 [] 71 := ⟨h4, ws0_ok⟩
  have x04 := (x1.trans x2).trans x4
  have z1 := x1.size
  have z2 := x2.size
  have hl1 := heap_lt h1
  have V4 : w4.heap[w.heap.size]? = some (.cells #[.int .u32 0, .int .i64 0, .int .i64 0] 33 (0, 0)) := x4.heap h2
  -- the end
  have stop : ∀ (w' : World) (v f s : Int), Keep (· = w2.heap.size) w4 w' → gverdV (blks ps) pkt = (v, f, s) → storeRow (newA w) 0 [.int .u32 v, .int .i64 f, .int .i64 s] w' fun w3 => ∃ t0 : Int, w3.cell? (newA w) = some (.int .u32 t0) ∧ ∃ t1 : Int, w3.cell? ((newA w).add 1) = some (.int .i64 t1) ∧ ∃ t2 : Int, w3.cell? ((newA w).add 2) = some (.int .i64 t2) ∧ (Value.tuple #[.agg #[.int .u32 t0, .int .i64 t1, .int .i64 t2], .int .i64 0] = .tuple #[vArr (gverdV (blks ps) pkt), .int .i64 (gcodeV (blks ps) pkt)] ∧ Go.Rd.Ext w w3) := by
    intro w' v f s k he
    refine storeRow_block (k.heap V4 (by omega)) (show 0 + 0 + 3 ≤ 3 by decide) rfl fun w7 h7 k7 _ => ?_
    rw [setFrom_all [.int .u32 0, .int .i64 0, .int .i64 0] [.int .u32 v, .int .i64 f, .int .i64 s] rfl] at h7
    refine rd3 (x := (v, f, s)) h7 ⟨?_, ?_⟩
    · rw [he, ec]
    · exact (x04.fresh k fun j hj => by rw [hj]; omega).fresh k7 fun j hj => by rw [hj]; exact Nat.le_refl _
  suffices H : ∀ (d : Nat) (a : Nat) (g s : Int) (w' : World) (ws : List Int), n - a ≤ d → g = (a : Int) → a < n → WsAt w' w2.heap.size ws [] 71 → Keep (· = w2.heap.size) w4 w' → 0 ≤ s → s + restN (blks ps) a ≤ 1000000000 →
      (gverdV (blks ps) pkt) = ((grunX (blks ps) pkt (n - a) a ws).1, (grunX (blks ps) pkt (n - a) a ws).2.1, s + ((grunX (blks ps) pkt (n - a) a ws).2.2 : Nat)) →
      ref15_Run.L0 (fun v w' => v = .tuple #[vArr (gverdV (blks ps) pkt), .int .i64 (gcodeV (blks ps) pkt)] ∧ Go.Rd.Ext w w') A n c P pn pc (newA w) (newA w2) s g w' by
    refine H n 0 0 0 w4 ws0 (by omega) rfl (by omega) hM4 (Keep.refl w4) (by omega) ?_ ?_
    · have : restN (blks ps) 0 = ((blks ps).map (·.code.length)).sum + (blks ps).length := by rw [restN, List.drop_zero]; rfl
      omega
    · rw [gverdV, if_pos ec, hbl]
      simp
  intro d
  induction d with
  | zero => intro a g s w' ws hd hg ha; omega
  | succ d ih =>
    intro a g s w' ws hd hg ha hM k hs0 hs1 hv
    subst hg
    have xw : Go.Rd.Ext w w' := x04.fresh k fun j hj => by rw [hj]; omega
    obtain ⟨q, p, hq, hpp, h8⟩ := (hx.ext xw).at8 (i := a) ha
    have hpm := List.mem_of_getElem? hpp
    have hb := blks_get hpp
    obtain ⟨t1, t2, t3⟩ := T.at_ a p.b hb
    have hcode := hx.code p hpm
    have hpnl : p.b.code.length = p.n := hcode.len
    have hrest := restN_at hb
    have ht : Int.toNat ((a : Nat) : Int) = a := Int.toNat_natCast a
    have hcl := codeX_le pkt p.b.code ws
    have hbl2 : n - a = (blks ps).length - a := by rw [hbl]
    have hbm := heap_lt hM.cell
    refine ref15_Run.L0_step ⟨by omega, by omega, q, hq, ?_⟩
    rw [ht]
    refine h8.rd (bstore fun w5 h5 x5 => ?_)
    have k5 : Keep (· = w2.heap.size) w4 w5 := k.trans' (Keep.ext x5)
    have hne : w'.heap.size ≠ w2.heap.size := by omega
    suffices I : ∀ (e i : Nat), p.n - i = e → i ≤ p.n → ∀ (w6 : World) (ws' : List Int) (s' : Int), WsAt w6 w2.heap.size ws' [] 71 → BAt w6 w'.heap.size p → Keep (· = w2.heap.size) w4 w6 → s' = s + (i : Nat) →
        ((codeX pkt p.b.code ws).2.1 = (codeX pkt (p.b.code.drop i) ws').2.1 ∧ (codeX pkt p.b.code ws).1 = (codeX pkt (p.b.code.drop i) ws').1 ∧ s + ((codeX pkt p.b.code ws).2.2 : Nat) = s' + ((codeX pkt (p.b.code.drop i) ws').2.2 : Nat)) →
        ref15_Run.L2 (fun v w' => v = .tuple #[vArr (gverdV (blks ps) pkt), .int .i64 (gcodeV (blks ps) pkt)] ∧ Go.Rd.Ext w w') A n c P pn pc (newA w) (newA w2) s' (newA w') i w6 from
      I p.n 0 (by omega) (by omega) w5 ws s (hM.ext x5) h5 k5 (by simp) ⟨rfl, rfl, rfl⟩
    intro e
    induction e with
    | zero =>
      intro i he hi w6 ws' s' hM6 hb6 k6 hs' h0
      have x6 : Go.Rd.Ext w w6 := x04.fresh k6 fun j hj => by rw [hj]; omega
      obtain ⟨e1, e2, e3⟩ := h0
      rw [List.drop_eq_nil_of_le (by omega)] at e1 e2 e3
      have e1 : (codeX pkt p.b.code ws).2.1 = ws' := e1
      have hf : (codeX pkt p.b.code ws).1 = 0 := e2
      have e3 : s + ((codeX pkt p.b.code ws).2.2 : Nat) = s' := by rw [e3]; show s' + ((0 : Nat) : Int) = s'; omega
      have h86 := hb6.at8
      -- behind the steps of the end
      have j0 : ∀ (z : Nat), z ≤ 1 → (p.b.e ≠ 2 → z = 1) → (p.b.e = 2 → z = 0) → ref15_Run.J0 (fun v w' => v = .tuple #[vArr (gverdV (blks ps) pkt), .int .i64 (gcodeV (blks ps) pkt)] ∧ Go.Rd.Ext w w') A n c P pn pc (newA w) (newA w2) (s' + (z : Nat)) (newA w') w6 := by
        intro z hz1 hz2 hz3
        have endV : ∀ y : Int, p.b.e = 1 → (if p.b.last.c = 22 then wd ws' 0 else p.b.last.k) = y → gverdV (blks ps) pkt = (y, 0, s' + (z : Nat)) := by
          intro y h1 hy
          have hlv : leaveX p.b (codeX pkt p.b.code ws).2.1 = (.inl y, 1) := by rw [leaveX, if_neg (by omega), if_pos h1, e1, hy]
          rw [hv, hbl2, grunX_end hb hf hlv]
          simp only [Prod.mk.injEq, true_and]
          have := hz2 (by omega)
          omega
        have go : ∀ (g : Int), g ∈ goalsL p.b → leaveX p.b (codeX pkt p.b.code ws).2.1 = (.inr g.toNat, z) → ∀ (w7 : World), Go.Rd.Ext w6 w7 → ref15_Run.L0 (fun v w' => v = .tuple #[vArr (gverdV (blks ps) pkt), .int .i64 (gcodeV (blks ps) pkt)] ∧ Go.Rd.Ext w w') A n c P pn pc (newA w) (newA w2) (s' + (z : Nat)) g w7 := by
          intro g hg hl1 w7 x7
          have hgn := T.goal_nat hb hg
          have hrl := restN_le (bs := blks ps) (show a + 1 ≤ g.toNat by omega)
          refine ih g.toNat g _ w7 ws' (by omega) (by omega) (by omega) (hM6.ext x7) (k6.trans' (Keep.ext x7)) (by omega) (by omega) ?_
          rw [hv, hbl2, grunX_go T hb hf hl1, show n - g.toNat = (blks ps).length - g.toNat by rw [hbl], e1]
          simp only [Prod.mk.injEq, true_and]
          omega
        refine ⟨_, h86.e, ifP_beq.2 ⟨fun hk1 => ⟨_, h86.c, ?_⟩, fun hk1 => ?_⟩⟩
        · by_cases c6 : p.b.last.c = 6
          · rw [c6]
            refine ifP_t rfl ⟨_, (At8.last' (S := fun u => u = w6) (fun u hu => by rw [hu]; exact h86) w6 rfl).2.2, stop w6 _ _ _ k6 ?_⟩
            exact endV _ hk1 (by rw [if_neg (by omega)])
          · have hcls : classOf p.b.last.c = 6 := by
              have := t2
              unfold endedB at this
              rw [if_pos hk1] at this
              exact (of_decide_eq_true this).1
            have c22 : p.b.last.c = 22 := ((ret_iff _).1 hcls).resolve_left c6
            refine ifP_f (by rw [c22]; rfl) ⟨_, h86.e, ifP_beq.2 ⟨fun _ => ⟨_, hM6.get (i := 0) (by decide) rfl, stop w6 _ _ _ k6 ?_⟩, fun h => absurd hk1 h⟩⟩
            exact endV _ hk1 (by rw [if_pos c22])
        · refine ifP_f rfl ⟨_, h86.e, ifP_beq.2 ⟨fun h => absurd h hk1, fun _ => ⟨_, h86.e, ifP_beq.2 ⟨fun hk2 => ?_, fun hk2 => ?_⟩⟩⟩⟩
          · refine ifP_t rfl ⟨_, h86.y, go p.b.yes (by simp [goalsL, hk2]) ?_ w6 (Go.Rd.Ext.refl w6)⟩
            rw [leaveX, if_pos hk2, hz3 hk2]
          · have hk3 : p.b.e = 3 := by have := endedB_kinds t2; omega
            have hz := hz2 hk2
            have hj : p.b.last.c ∈ rJumpL := by
              have := t2
              unfold endedB at this
              rw [if_neg hk1, if_neg hk2, if_pos hk3] at this
              obtain ⟨h5, hn5, -⟩ := of_decide_eq_true this
              exact ((jmp_iff _).1 h5).resolve_left hn5
            refine h86.last ⟨_, hM6.get (i := 0) (by decide) rfl, _, hM6.get (i := 1) (by decide) (by rw [newA, add_mk]), (rholds_spec hj).mono ?_⟩ rfl
            rintro v w8 ⟨rfl, x8⟩
            have h88 := h86.ext x8
            refine ⟨_, rfl, ifP_of (fun ha => ⟨_, h88.y, go p.b.yes (by simp [goalsL, hk3]) ?_ w8 x8⟩) fun ha => ⟨_, h88.o, go p.b.no (by simp [goalsL, hk3]) ?_ w8 x8⟩⟩
            · rw [leaveX, if_neg hk2, if_neg hk1, e1, if_pos ha, hz]
            · rw [leaveX, if_neg hk2, if_neg hk1, e1, if_neg (by rw [ha]; decide), hz]
      refine ref15_Run.L2_step ⟨_, _, _, h86.s, ifP_no (by omega) ⟨_, h86.e, ifP_bne.2 ⟨fun hk2 => ?_, fun hk2 => ?_⟩⟩⟩
      · rw [wrap_i64 (by omega) (by omega)]
        exact j0 1 (Nat.le_refl 1) (fun _ => rfl) fun h => absurd h hk2
      · have := j0 0 (Nat.zero_le 1) (fun h => absurd hk2 h) fun _ => rfl
        rwa [show s' + ((0 : Nat) : Int) = s' by omega] at this
    | succ e ihe =>
      intro i he hi w6 ws' s' hM6 hb6 k6 hs' h0
      have x6 : Go.Rd.Ext w w6 := x04.fresh k6 fun j hj => by rw [hj]; omega
      obtain ⟨e1, e2, e3⟩ := h0
      obtain ⟨qa, x, hqa, hxi, h4⟩ := IInsns.at4 (RdM.ext hcode x6) (i := i) (by omega)
      have hio : x.ok := hok p hpm x (List.mem_of_getElem? hxi)
      have hst : straightB x = true := List.all_eq_true.1 t1 x (List.mem_of_getElem? hxi)
      obtain ⟨h5', h6', hfa⟩ := of_decide_eq_true hst
      have hti : Int.toNat ((i : Nat) : Int) = i := Int.toNat_natCast i
      have hdrop : p.b.code.drop i = x :: p.b.code.drop (i + 1) := by
        obtain ⟨hlt, hee⟩ := List.getElem?_eq_some_iff.1 hxi
        rw [List.drop_eq_getElem_cons hlt, hee]
      rw [hdrop, codeX] at e1 e2 e3
      refine ref15_Run.L2_step ⟨_, _, _, hb6.at8.s, ifP_yes (by omega) ⟨_, _, _, hb6.at8.s, by omega, by omega, qa, hqa, ?_⟩⟩
      rw [hti]
      refine ⟨_, h4.c, _, h4.t, _, h4.f, _, h4.k, (rstep_spec hM6 hio hfa h5' h6' (hp.ext x6) (by omega)).mono ?_⟩
      rintro v w7 ⟨rfl, hM7, k7⟩
      have k47 := k6.trans' k7
      refine ⟨_, rfl, ifP_bne.2 ⟨fun hf => ?_, fun hf => ?_⟩⟩
      · rw [if_pos hf] at e1 e2 e3
        simp only at e1 e2 e3
        rw [wrap_i64 (by omega) (by omega)]
        refine stop w7 _ _ _ k47 ?_
        rw [hv, hbl2, grunX_fault hb (by rw [e2]; exact hf)]
        simp only [Prod.mk.injEq, true_and]
        exact ⟨e2, by omega⟩
      · rw [if_neg (not_not_intro hf)] at e1 e2 e3
        simp only at e1 e2 e3
        rw [wrap_i64 (by omega) (by omega), wrap_i64 (by omega) (by omega)]
        exact ihe (i + 1) (by omega) (by omega) w7 _ _ (hM7 hf) (k7.heap hb6 hne) k47 (by omega) ⟨e1, e2, by rw [e3]; omega⟩
end
end Go.Proofs.Ytbchjihecdkfeaa
