/- The document's Of: the walk. -/
import Derived.Test.YtbchjihecdkfeaaA14
namespace Go.Proofs.Ytbchjihecdkfeaa
open Go.Rd Go.RowKit
set_option linter.unusedVariables false
set_option linter.unusedSimpArgs false
set_option maxRecDepth 100000
section
variable {w : World} {A : Option Addr} {n c : Nat} {xs : List Ins}
/-- A block's Last is written. -/
theorem BAt.putLast {b : Nat} {p : BP} {i : Ins} {φ : World → Prop} (h : BAt w b p) (hφ : ∀ w', BAt w' b ⟨p.A, p.n, p.c, ⟨p.b.code, p.b.e, i, p.b.yes, p.b.no⟩⟩ → Keep (· = b) w w' → φ w') :
    storeRow ((Addr.mk b 0 none).add 2) 0 [.int .u16 i.c, .int .u8 i.t, .int .u8 i.f, .int .u32 i.k] w φ := by
  rw [add_mk]
  refine storeRow_block h (show 0 + 2 + 0 + 4 ≤ 8 by decide) rfl fun w' hw hk _ => hφ w' ?_ hk
  unfold BAt
  rw [hw]
  rfl
theorem BAt.putE {b : Nat} {p : BP} {v : Int} {φ : World → Prop} (h : BAt w b p) (hφ : ∀ w', BAt w' b ⟨p.A, p.n, p.c, ⟨p.b.code, v, p.b.last, p.b.yes, p.b.no⟩⟩ → Keep (· = b) w w' → φ w') :
    (∃ u, w.cell? ((Addr.mk b 0 none).add 1) = some u) ∧ w.frozen? ((Addr.mk b 0 none).add 1) = false ∧ letW (w.setCell ((Addr.mk b 0 none).add 1) (.int .i64 v)) φ :=
  cell_put h (show 1 < 8 by decide) (by rw [add_mk]) fun w' h' k' => hφ w' h' k'
theorem BAt.putY {b : Nat} {p : BP} {v : Int} {φ : World → Prop} (h : BAt w b p) (hφ : ∀ w', BAt w' b ⟨p.A, p.n, p.c, ⟨p.b.code, p.b.e, p.b.last, v, p.b.no⟩⟩ → Keep (· = b) w w' → φ w') :
    (∃ u, w.cell? ((Addr.mk b 0 none).add 6) = some u) ∧ w.frozen? ((Addr.mk b 0 none).add 6) = false ∧ letW (w.setCell ((Addr.mk b 0 none).add 6) (.int .i64 v)) φ :=
  cell_put h (show 6 < 8 by decide) (by rw [add_mk]) fun w' h' k' => hφ w' h' k'
theorem BAt.putN {b : Nat} {p : BP} {v : Int} {φ : World → Prop} (h : BAt w b p) (hφ : ∀ w', BAt w' b ⟨p.A, p.n, p.c, ⟨p.b.code, p.b.e, p.b.last, p.b.yes, v⟩⟩ → Keep (· = b) w w' → φ w') :
    (∃ u, w.cell? ((Addr.mk b 0 none).add 7) = some u) ∧ w.frozen? ((Addr.mk b 0 none).add 7) = false ∧ letW (w.setCell ((Addr.mk b 0 none).add 7) (.int .i64 v)) φ :=
  cell_put h (show 7 < 8 by decide) (by rw [add_mk]) fun w' h' k' => hφ w' h' k'
theorem rgof_spec (hx : IInsns w A n xs) (hok : Inss xs) (hn : n ≤ 281474976710656) : Run Try.prog 19 #[.slice A n c] w (OfOf w (ofR xs)) := by
  have hl := hx.len
  subst hl
  refine ref15_Of.ok ((rcheck_spec hx hok hn).mono ?_)
  rintro v w1 ⟨rfl, x1⟩
  refine ⟨_, _, rfl, ifP_bne.2 ⟨fun hne => ?_, fun h0 => (rbegins_spec (RdM.ext hx x1) hok (taken_of h0).1).mono ?_⟩⟩
  · refine ⟨none, 0, [], ?_, GOk.nil, ?_, fun k hk => ?_, x1⟩
    · rw [ofR, if_pos hne]; rfl
    · rw [ofR, if_pos hne]; rfl
    · rcases hk with hk | ⟨p, hp, _⟩
      · exact absurd hk blk_none
      · cases hp
  obtain ⟨T, _⟩ := taken_of h0
  have hle := T.le
  have er : ofR xs = (ofX xs, 0) := by rw [ofR, if_neg (not_not_intro h0)]
  rw [er]
  rintro v w2 ⟨L, rfl, oL, bL, x2⟩
  have e1 : IntKind.i64.wrap (((xs.length : Nat) : Int) + 1) = ((xs.length + 1 : Nat) : Int) := by rw [wrap_i64 (by omega) (by omega)]; rfl
  rw [e1]
  refine ⟨_, _, _, rfl, made_intsN (n := xs.length + 1) (by omega) rfl fun N w3 oN bN x3 => ⟨_, _, _, rfl, ?_⟩⟩
  have x03 := (x1.trans x2).trans x3
  have z1 := x1.size
  have z2 := x2.size
  -- the blocks
  have outer : ∀ (ns : List Int), ns.length = xs.length + 1 → (∀ j, j < xs.length → ns[j]? = some (numZ xs j)) → ∀ (d a cnt : Nat), xs.length - a ≤ d → a ≤ xs.length → cnt ≤ a → ∀ (w' : World) (O : Option Addr) (oc : Nat) (qs : List BP), GOk [] [] w' O oc qs → qs.length = cnt → blks qs ++ ofFrom xs (xs.length - a) a = ofX xs → (∀ k, gff O qs k → w.heap.size ≤ k ∧ ¬ blk L k ∧ ¬ blk N k) → Go.Rd.Ext w w' → OBools w' L (xs.length + 1) (leadL xs) → OInts w' N (xs.length + 1) ns →
      ref15_Of.L2 (OfOf w (ofX xs, 0)) A xs.length c L (xs.length + 1) (xs.length + 1) N (xs.length + 1) (xs.length + 1) O cnt oc a w' := by
    intro ns hns hnv d
    induction d with
    | zero =>
      intro a cnt hd ha hcnt w' O oc qs ho hq hb hf x oL' oN'
      obtain rfl : a = xs.length := by omega
      refine ref15_Of.L2_step (ifP_no (by omega) ⟨O, oc, qs, by rw [hq], ho, ?_, fun k hk => (hf k hk).1, x⟩)
      rw [ofFrom_end _ _ (Nat.le_refl _), List.append_nil] at hb
      exact hb
    | succ d ih =>
      intro a cnt hd ha hcnt w' O oc qs ho hq hb hf x oL' oN'
      by_cases han : a = xs.length
      · subst han
        refine ref15_Of.L2_step (ifP_no (by omega) ⟨O, oc, qs, by rw [hq], ho, ?_, fun k hk => (hf k hk).1, x⟩)
        rw [ofFrom_end _ _ (Nat.le_refl _), List.append_nil] at hb
        exact hb
      have ha : a < xs.length := by omega
      obtain ⟨ea, en⟩ := endN_gt (xs := xs) ha
      obtain ⟨l, hl⟩ : ∃ l, xs[endN xs a - 1]? = some l := ⟨_, List.getElem?_eq_getElem (by omega)⟩
      have num : ∀ (u : World), Go.Rd.Ext w' u → ∀ {j : Nat} {g : Int}, g = (j : Int) → j < xs.length → (0 ≤ g ∧ g < ((xs.length + 1 : Nat) : Int) ∧ ∃ p, N = some p ∧ u.cell? (p.add (Int.toNat g * 1)) = some (.int .i64 (numZ xs j))) := by
        intro u xu j g hg hj
        obtain ⟨p, hp, hcell⟩ := ((oN'.ext xu).rd hns).2 j _ (hnv j hj)
        exact ⟨by omega, by omega, p, hp, by rw [hg, Int.toNat_natCast]; exact hcell⟩
      have mark : ∀ (u : World), Go.Rd.Ext w' u → ∀ {j : Nat} {g : Int}, g = (j : Int) → j ≤ xs.length → (0 ≤ g ∧ g < ((xs.length + 1 : Nat) : Int) ∧ ∃ p, L = some p ∧ u.cell? (p.add (Int.toNat g * 1)) = some (.bool (leadB xs j))) := by
        intro u xu j g hg hj
        obtain ⟨p, hp, hcell⟩ := ((oL'.ext xu).rd (leadL_length xs)).2 j _ (leadL_get hj)
        exact ⟨by omega, by omega, p, hp, by rw [hg, Int.toNat_natCast]; exact hcell⟩
      refine ref15_Of.L2_step (ifP_yes (by omega) (letA fun wb hbk xb sb => ?_))
      have zb := xb.size
      -- a block that is ready
      have fin : ∀ (w7 : World) (p : BP), p.b = blockX xs a (endN xs a) l → OInsns w7 p.A p.c p.b.code → p.b.code.length = p.n → (∀ k, blk p.A k → w'.heap.size ≤ k) → Go.Rd.Ext w' w7 → ∀ (j : Int), j = (endN xs a : Nat) →
          letW (w7.alloc (.cells #[.slice p.A p.n p.c, .int .i64 p.b.e, .int .u16 p.b.last.c, .int .u8 p.b.last.t, .int .u8 p.b.last.f, .int .u32 p.b.last.k, .int .i64 p.b.yes, .int .i64 p.b.no] 49)) fun w8 => ∃ (v : Value) (w9 : World), (Builtin.append_ #[22, 22] 22 #[.slice O cnt oc, .slice (some (newA w7)) 1 1]).run Try.prog w8 = .ok v w9 ∧ ∃ (tA : Option Addr) (tn tc : Nat), v = .slice tA tn tc ∧ ref15_Of.L2 (OfOf w (ofX xs, 0)) A xs.length c L (xs.length + 1) (xs.length + 1) N (xs.length + 1) (xs.length + 1) tA tn tc j w9 := by
        intro w7 p hpb hpo hpl hpn x7 j hj
        subst hj
        refine letA fun w8 h8 x8 s8 => ?_
        obtain ⟨O', oc', w9, hr, g9, k9, b9⟩ := GOk.push (p := p) (ty := 22) (d := 1) (ho.ext (x7.trans x8)) hq (by omega) (by rw [List.append_nil]; exact hpo.ext x8) hpl (fun j hj hj2 => by have := hpn j hj; have := ho.lt hj2; omega) (temp_block h8 rfl)
        have x08 := (x.trans x7).trans x8
        have z08 := (x7.trans x8).size
        have zw := x.size
        have fresh : ∀ k, w'.heap.size ≤ k → w.heap.size ≤ k ∧ ¬ blk L k ∧ ¬ blk N k := fun k hk => ⟨by omega, fun h => by have := oL'.lt k h; omega, fun h => by have := oN'.lt k h; omega⟩
        refine ⟨_, w9, hr, O', cnt + 1, oc', rfl, ih (endN xs a) (cnt + 1) (by omega) en (by omega) w9 O' oc' (qs ++ [p]) g9 (by rw [List.length_append, hq]; rfl) ?_ (fun k hk => ?_) (x08.fresh k9 fun j hj => (hf j (.inl hj)).1) ?_ ?_⟩
        · rw [blks, List.map_append]
          show blks qs ++ [p.b] ++ _ = _
          rw [← hb, ofFrom_at ha (Nat.le_refl _) hl, List.append_assoc, hpb, ofFrom_fuel (xs.length - endN xs a) (xs.length - a - 1) (endN xs a) (by omega) (by omega)]
          rfl
        · rcases gff_append.1 hk with (h | h) | h
          · rcases b9 k h with h | h
            · exact hf k (.inl h)
            · exact fresh k (by omega)
          · exact hf k (.inr h)
          · exact fresh k (hpn k h)
        · exact (oL'.ext (x7.trans x8)).keep k9 fun j hj h => (hf j (.inl h)).2.1 hj
        · exact (oN'.ext (x7.trans x8)).keep k9 fun j hj h => (hf j (.inl h)).2.2 hj
      -- the code is gathered
      suffices inner : ∀ (m i : Nat), xs.length - i = m → a ≤ i → i < xs.length → (∀ j, a < j → j ≤ i → leadB xs j = false) → ∀ (w6 : World) (A4 : Option Addr) (c4 : Nat), BAt w6 w'.heap.size ⟨A4, i - a, c4, ⟨(xs.take i).drop a, 0, ins0, 0, 0⟩⟩ → OInsns w6 A4 c4 ((xs.take i).drop a) → (∀ k, blk A4 k → w'.heap.size < k) → Go.Rd.Ext w' w6 →
          ref15_Of.L4 (OfOf w (ofX xs, 0)) A xs.length c L (xs.length + 1) (xs.length + 1) N (xs.length + 1) (xs.length + 1) O cnt oc (i : Int) (newA w') w6 by
        refine inner (xs.length - a) a rfl (Nat.le_refl _) ha (fun j h1 h2 => by omega) wb none 0 ?_ ?_ (fun k hk => absurd hk blk_none) xb
        · unfold BAt
          rw [hbk, Nat.sub_self]
          rfl
        · rw [List.drop_eq_nil_of_le (by rw [List.length_take]; omega)]
          exact Own.empty
      intro m
      induction m with
      | zero => intro i hm hai hin; omega
      | succ m ihm =>
        intro i hm hai hin hlead w6 A4 c4 hB hO4 hn4 x6
        obtain ⟨q, y, hq', hyi, h4⟩ := IInsns.at4 (RdM.ext hx (x.trans x6)) (i := i) hin
        have hyo : y.ok := hok y (List.mem_of_getElem? hyi)
        obtain ⟨_, ⟨t0, t1⟩, ⟨f0, f1⟩, kk0, kk1⟩ := hyo
        have ht : Int.toNat ((i : Nat) : Int) = i := Int.toNat_natCast i
        have ew : IntKind.i64.wrap (((i : Nat) : Int) + 1) = ((i + 1 : Nat) : Int) := wrap_i64 (by omega) (by omega)
        have hcl : ((xs.take i).drop a).length = i - a := by rw [List.length_drop, List.length_take]; omega
        have nb4 : ∀ k, blk A4 k → ¬ (k = w'.heap.size) := fun k hk h => by have := hn4 k hk; omega
        have xk : ∀ {u u' : World}, Go.Rd.Ext w' u → Keep (· = w'.heap.size) u u' → Go.Rd.Ext w' u' := fun h k => h.fresh k fun j hj => by rw [hj]; exact Nat.le_refl _
        have at4 : ∀ (u : World), Go.Rd.Ext w' u → At4 u (q.add (i * 4)) y := fun u xu => by
          obtain ⟨q2, y2, hq2, hy2, h42⟩ := IInsns.at4 (RdM.ext hx (x.trans xu)) (i := i) hin
          rw [hq'] at hq2; rw [hyi] at hy2
          obtain rfl := Option.some.inj hq2
          obtain rfl := Option.some.inj hy2
          exact h42
        -- a jump or a return ends it
        have ends : (classOf y.c = 5 ∨ classOf y.c = 6) → ref15_Of.J1 (OfOf w (ofX xs, 0)) A xs.length c L (xs.length + 1) (xs.length + 1) N (xs.length + 1) (xs.length + 1) O cnt oc (i : Int) (newA w') false w6 := by
          intro hcl56
          have hend : endN xs a = i + 1 := endN_eq (by omega) (by omega) (.inl (leadB_true.2 (.inr ⟨i, y, hin, hyi, .inl ⟨hcl56, rfl⟩⟩))) fun j h1 h2 => hlead j h1 (by omega)
          obtain rfl : l = y := by rw [hend, Nat.add_sub_cancel, hyi] at hl; exact (Option.some.inj hl).symm
          have made : ∀ (w7 w8 : World) (B : Blk), B = blockX xs a (i + 1) l → B.code = (xs.take i).drop a → BAt w8 w'.heap.size ⟨A4, i - a, c4, B⟩ → Keep (· = w'.heap.size) w7 w8 → OInsns w7 A4 c4 ((xs.take i).drop a) → Go.Rd.Ext w' w7 → ref15_Of.J5 (OfOf w (ofX xs, 0)) A xs.length c L (xs.length + 1) (xs.length + 1) N (xs.length + 1) (xs.length + 1) O cnt oc (i : Int) (newA w') w8 := by
            intro w7 w8 B hBx hBc hB8 k8 hO7 x7
            unfold ref15_Of.J5
            rw [ew]
            refine hB8.at8.rd (fin w8 ⟨A4, i - a, c4, B⟩ (by rw [hend]; exact hBx) ?_ (by show B.code.length = _; rw [hBc, hcl]) (fun k hk => by have := hn4 k hk; omega) (xk x7 k8) _ (by rw [hend]))
            show OInsns w8 A4 c4 B.code
            rw [hBc]
            exact hO7.keep k8 nb4
          have j4 : ref15_Of.J4 (OfOf w (ofX xs, 0)) A xs.length c L (xs.length + 1) (xs.length + 1) N (xs.length + 1) (xs.length + 1) O cnt oc (i : Int) (newA w') false w6 := by
            refine ifP_f rfl ⟨by omega, by omega, q, hq', ?_⟩
            rw [ht, ew]
            refine ⟨_, (at4 w6 x6).c, rReturn_spec.mono ?_⟩
            rintro v w7 ⟨rfl, rfl⟩
            refine ⟨_, rfl, ifP_of (fun h6 => ?_) fun h6 => ?_⟩
            · have h6 := of_decide_eq_true h6
              refine hB.putE fun w8 hB8 k8 => ⟨by omega, by omega, q, hq', ?_⟩
              have x8 := xk x6 k8
              have h48 := at4 w8 x8
              refine ⟨_, h48.c, _, h48.t, _, h48.f, _, h48.k, rlast_spec.mono ?_⟩
              rintro v w9 ⟨rfl, x9⟩
              refine ⟨_, _, _, _, rfl, (hB8.ext x9).putLast (i := plainI l) fun w10 hB10 k10 => ?_⟩
              refine made w9 w10 ⟨(xs.take i).drop a, 1, plainI l, 0, 0⟩ ?_ rfl hB10 k10 ((hO4.keep k8 nb4).ext x9) (x8.trans x9)
              rw [blockX, if_pos h6, Nat.add_sub_cancel]
            · have h6 := of_decide_eq_false h6
              have h5 : classOf l.c = 5 := hcl56.resolve_right h6
              have hg := T.goal hyi h5
              refine ⟨by omega, by omega, q, hq', _, (at4 _ x6).c, ifP_beq.2 ⟨fun c5 => ?_, fun c5 => ?_⟩⟩
              · rw [if_pos c5] at hg
                refine hB.putE fun w8 hB8 k8 => ⟨by omega, by omega, q, hq', ?_⟩
                have x8 := xk x6 k8
                refine ⟨_, (at4 w8 x8).k, ?_⟩
                rw [wrap_i64 (x := l.k) (by omega) (by omega), wrap_i64 (by omega) (by omega)]
                obtain ⟨g0, g1, p, hp, hcell⟩ := num w8 x8 (j := i + 1 + l.k.toNat) (g := ((i + 1 : Nat) : Int) + l.k) (by omega) (by omega)
                refine ⟨g0, g1, p, hp, _, hcell, hB8.putY fun w9 hB9 k9 => ?_⟩
                refine made w8 w9 ⟨(xs.take i).drop a, 2, ins0, numZ xs (i + 1 + l.k.toNat), 0⟩ ?_ rfl hB9 k9 (hO4.keep k8 nb4) x8
                rw [blockX, if_neg h6, if_pos c5, Nat.add_sub_cancel]
              · rw [if_neg c5] at hg
                refine hB.putE fun w8 hB8 k8 => ⟨by omega, by omega, q, hq', ?_⟩
                have x8 := xk x6 k8
                have h48 := at4 w8 x8
                refine ⟨_, h48.c, _, h48.t, _, h48.f, _, h48.k, rlast_spec.mono ?_⟩
                rintro v w9 ⟨rfl, x9⟩
                refine ⟨_, _, _, _, rfl, (hB8.ext x9).putLast (i := plainI l) fun w10 hB10 k10 => ⟨by omega, by omega, q, hq', ?_⟩⟩
                have x10 := xk (x8.trans x9) k10
                refine ⟨_, (at4 w10 x10).t, ?_⟩
                rw [wrap_i64 (x := l.t) (by omega) (by omega), wrap_i64 (x := ((i + 1 : Nat) : Int) + l.t) (by omega) (by omega)]
                obtain ⟨g0, g1, p, hp, hcell⟩ := num w10 x10 (j := i + 1 + l.t.toNat) (g := ((i + 1 : Nat) : Int) + l.t) (by omega) (by omega)
                refine ⟨g0, g1, p, hp, _, hcell, hB10.putY fun w11 hB11 k11 => ⟨by omega, by omega, q, hq', ?_⟩⟩
                have x11 := xk x10 k11
                refine ⟨_, (at4 w11 x11).f, ?_⟩
                rw [wrap_i64 (x := l.f) (by omega) (by omega), wrap_i64 (x := ((i + 1 : Nat) : Int) + l.f) (by omega) (by omega)]
                obtain ⟨g0, g1, p2, hp2, hcell2⟩ := num w11 x11 (j := i + 1 + l.f.toNat) (g := ((i + 1 : Nat) : Int) + l.f) (by omega) (by omega)
                refine ⟨g0, g1, p2, hp2, _, hcell2, hB11.putN fun w12 hB12 k12 => ?_⟩
                refine made w11 w12 ⟨(xs.take i).drop a, 3, plainI l, numZ xs (i + 1 + l.t.toNat), numZ xs (i + 1 + l.f.toNat)⟩ ?_ rfl hB12 k12 ((((hO4.keep k8 nb4).ext x9).keep k10 nb4).keep k11 nb4) x11
                rw [blockX, if_neg h6, if_neg c5, if_pos h5, Nat.add_sub_cancel]
          refine ifP_f rfl ?_
          unfold ref15_Of.J3
          refine ⟨_, _, _, hB.at8.s, ifP_decide.2 ⟨fun hpos => ?_, fun hpos => j4⟩⟩
          obtain ⟨g0, g1, p, hp, hcell⟩ := mark w6 x6 (j := i) (g := (i : Int)) rfl (by omega)
          refine ⟨g0, g1, p, hp, _, hcell, ?_⟩
          have hpos : ((i - a : Nat) : Int) > 0 := hpos
          rw [hlead i (by omega) (Nat.le_refl _)]
          exact j4
        -- an instruction that goes straight on
        have goes : classOf y.c ≠ 5 → classOf y.c ≠ 6 → ref15_Of.J1 (OfOf w (ofX xs, 0)) A xs.length c L (xs.length + 1) (xs.length + 1) N (xs.length + 1) (xs.length + 1) O cnt oc (i : Int) (newA w') true w6 := by
          intro h5 h6
          have hnx := T.next hyi h6
          refine ifP_t rfl ⟨fun u => BAt u w'.heap.size ⟨A4, i - a, c4, ⟨(xs.take i).drop a, 0, ins0, 0, 0⟩⟩ ∧ Go.Rd.Ext w' u, ⟨hB.ext (Go.Rd.Ext.drew w6), x6.trans (Go.Rd.Ext.drew w6)⟩, letD fun w7 _ x7 => ⟨_, _, _, fun u hu => hu.1.at8.s, by omega, by omega, q, hq', ?_⟩⟩
          rw [ht]
          refine ⟨_, fun u hu => (at4 u hu.2).c, _, fun u hu => (at4 u hu.2).t, _, fun u hu => (at4 u hu.2).f, _, fun u hu => (at4 u hu.2).k, letA fun w8 h8 x8 s8 => ⟨⟨(hB.ext x7).ext x8, (x6.trans x7).trans x8⟩, ?_⟩⟩
          have hB2 : RdC w8 (some (newA w7)) ([y].flatMap Ins.v) := by
            have : Own 47 4 w8 (some (newA w7)) 1 ([y].flatMap Ins.v) := .inr ⟨_, [], rfl, h8, rfl⟩
            exact this.cells
          obtain ⟨A5, c5', w9, hr, hO9, hc9, k9, b9⟩ := append_own slInsns (ty := 39) (n := i - a) (d := 1) ((hO4.ext x7).ext x8) (by rw [flat_len Ins.len, hcl]) hB2 (m := 1) rfl (Ins.isCell _) (by omega) (by omega)
          have hbl := heap_lt hB
          have x68 := x7.trans x8
          have z68 := x68.size
          have hB9 : BAt w9 w'.heap.size ⟨A4, i - a, c4, ⟨(xs.take i).drop a, 0, ins0, 0, 0⟩⟩ := k9.heap (hB.ext x68) fun h => by have := hn4 _ h; omega
          have x9 : Go.Rd.Ext w' w9 := (x6.trans x68).fresh k9 fun k hk => by have := hn4 k hk; omega
          have hn5 : ∀ k, blk A5 k → w'.heap.size < k := fun k hk => by
            rcases b9 k hk with h | h
            · exact hn4 k h
            · omega
          refine ⟨_, w9, hr, A5, i - a + 1, c5', rfl, hB9.code fun w10 hB10 k10 => ?_⟩
          have hcur : (xs.take (i + 1)).drop a = (xs.take i).drop a ++ [y] := take_drop_succ hai hyi
          have hO10 : OInsns w10 A5 c5' ((xs.take (i + 1)).drop a) := by
            rw [hcur, OInsns, List.flatMap_append]
            exact hO9.keep k10 fun k hk h => by have := hn5 k hk; omega
          have x10 := xk x9 k10
          unfold ref15_Of.J2
          rw [ew]
          obtain ⟨g0, g1, p, hp, hcell⟩ := mark w10 x10 (j := i + 1) (g := ((i + 1 : Nat) : Int)) rfl (by omega)
          refine ⟨g0, g1, p, hp, _, hcell, ifP_of (fun hld => ?_) fun hld => ?_⟩
          · have hend : endN xs a = i + 1 := endN_eq (by omega) (by omega) (.inl hld) fun j h1 h2 => hlead j h1 (by omega)
            obtain rfl : l = y := by rw [hend, Nat.add_sub_cancel, hyi] at hl; exact (Option.some.inj hl).symm
            refine ⟨_, _, _, hB10.at8.s, ifP_yes (by show ((i - a + 1 : Nat) : Int) > 0; omega) ?_⟩
            obtain ⟨g0, g1, p, hp, hcell⟩ := mark w10 x10 (j := i + 1) (g := ((i + 1 : Nat) : Int)) rfl (by omega)
            refine ⟨g0, g1, p, hp, _, hcell, ?_⟩
            rw [hld]
            refine ifP_t rfl (hB10.putE fun w11 hB11 k11 => ?_)
            obtain ⟨g0, g1, p, hp, hcell⟩ := num w11 (xk x10 k11) (j := i + 1) (g := ((i + 1 : Nat) : Int)) rfl (by omega)
            refine ⟨g0, g1, p, hp, _, hcell, hB11.putY fun w12 hB12 k12 => ?_⟩
            have nb5 : ∀ k, blk A5 k → ¬ (k = w'.heap.size) := fun k hk h => by have := hn5 k hk; omega
            have c5 : l.c ≠ 5 := fun h => h5 (by rw [h]; rfl)
            refine hB12.at8.rd (fin w12 ⟨A5, i - a + 1, c5', ⟨(xs.take (i + 1)).drop a, 2, ins0, numZ xs (i + 1), 0⟩⟩ ?_ ((hO10.keep k11 nb5).keep k12 nb5) ?_ (fun k hk => by have := hn5 k hk; omega) (xk (xk x10 k11) k12) _ (by rw [hend]))
            · rw [hend, blockX, if_neg h6, if_neg c5, if_neg h5, Nat.add_sub_cancel, hcur]
            · show ((xs.take (i + 1)).drop a).length = _
              rw [hcur, List.length_append, hcl]
              rfl
          · refine ihm (i + 1) (by omega) (by omega) (by omega) (fun j h1 h2 => ?_) w10 A5 c5' ?_ hO10 hn5 x10
            · by_cases e : j = i + 1
              · rw [e]; exact hld
              · exact hlead j h1 (by omega)
            · unfold BAt at hB10 ⊢
              rw [hB10, show i + 1 - a = i - a + 1 by omega]
              rfl
        refine ref15_Of.L4_step (ifP_yes (by omega) ⟨by omega, by omega, q, hq', ?_⟩)
        rw [ht]
        refine ⟨_, h4.c, rClass_spec.mono ?_⟩
        rintro v w7 ⟨rfl, rfl⟩
        rw [← class_eq]
        refine ⟨_, rfl, ifP_bne.2 ⟨fun h5 => ⟨by omega, by omega, q, hq', ?_⟩, fun h5 => ends (.inl h5)⟩⟩
        refine ⟨_, h4.c, rReturn_spec.mono ?_⟩
        rintro v w8 ⟨rfl, rfl⟩
        refine ⟨_, rfl, ?_⟩
        by_cases h6 : classOf y.c = 6
        · rw [decide_eq_true h6]
          exact ends (.inr h6)
        · rw [decide_eq_false h6]
          exact goes h5 h6
  -- the numbers
  suffices H : ∀ (d k : Nat), xs.length - k = d → k ≤ xs.length → ∀ (w' : World) (ns : List Int) (m : Int), ns.length = xs.length + 1 → (∀ j, j < k → ns[j]? = some (numZ xs j)) → m = (headsN xs k : Int) - 1 → OInts w' N (xs.length + 1) ns → OBools w' L (xs.length + 1) (leadL xs) → Go.Rd.Ext w w' →
      ref15_Of.L0 (OfOf w (ofX xs, 0)) A xs.length c L (xs.length + 1) (xs.length + 1) N (xs.length + 1) (xs.length + 1) m (k : Int) w' by
    exact H xs.length 0 (by omega) (by omega) w3 _ (-1) (by simp) (fun j hj => absurd hj (Nat.not_lt_zero j)) rfl oN (oL.ext x3) x03
  intro d
  induction d with
  | zero =>
    intro k hd hk w' ns m hns hj hm oN' oL' x
    obtain rfl : k = xs.length := by omega
    refine ref15_Of.L0_step (ifP_no (by omega) ?_)
    exact outer ns hns hj xs.length 0 0 (by omega) (by omega) (Nat.le_refl _) w' none 0 [] GOk.nil rfl rfl (fun k hk => by rcases hk with hk | ⟨p, hp, _⟩; exact absurd hk blk_none; cases hp) x oL' oN'
  | succ d ih =>
    intro k hd hk w' ns m hns hj hm oN' oL' x
    have hkn : k < xs.length := by omega
    obtain ⟨p, hp, hcell⟩ := (oL'.rd (leadL_length xs)).2 k _ (leadL_get (by omega))
    have hhl := headsN_le xs k
    have sep : ∀ j, blk L j → ¬ blk N j := fun j h1 h2 => by
      obtain ⟨us, e1⟩ := own_typ oL' h1
      obtain ⟨vs, e2⟩ := own_typ oN' h2
      have := typ_ne e1 e2
      revert this
      decide
    have go : ∀ (m' : Int), m' = (headsN xs (k + 1) : Int) - 1 → ref15_Of.J0 (OfOf w (ofX xs, 0)) A xs.length c L (xs.length + 1) (xs.length + 1) N (xs.length + 1) (xs.length + 1) m' (k : Int) w' := by
      intro m' hm'
      refine ⟨by omega, by omega, put_int (t := k) oN' rfl (by omega) fun w4 o4 k4 => ?_⟩
      rw [wrap_i64 (by omega) (by omega)]
      refine ih (k + 1) (by omega) (by omega) w4 _ m' (by rw [List.length_set]; exact hns) (fun j hjk => ?_) hm' o4 (oL'.keep k4 sep) (x.fresh k4 fun j hj => by have := bN j hj; omega)
      rw [List.getElem?_set]
      split
      · rename_i e
        subst e
        rw [if_pos (by omega), hm']
        rfl
      · exact hj j (by omega)
    refine ref15_Of.L0_step (ifP_yes (by omega) ⟨by omega, by omega, p, hp, _, by rw [Int.toNat_natCast]; exact hcell, ifP_of (fun h => ?_) fun h => ?_⟩)
    · rw [wrap_i64 (by omega) (by omega)]
      refine go _ ?_
      rw [headsN, if_pos h, hm]
      omega
    · refine go _ ?_
      rw [headsN, if_neg (by rw [h]; decide), hm]
      omega
end
end Go.Proofs.Ytbchjihecdkfeaa
