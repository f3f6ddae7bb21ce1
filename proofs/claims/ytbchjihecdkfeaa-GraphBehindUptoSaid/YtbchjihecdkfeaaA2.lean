/- Package graph: Check, Size, Measure. -/
import Derived.Test.YtbchjihecdkfeaaA3
namespace Go.Proofs.Ytbchjihecdkfeaa
open Go.Rd Go.RowKit
set_option linter.unusedVariables false
set_option linter.unusedSimpArgs false
set_option maxRecDepth 100000

theorem all_take_succ {α : Type} {p : α → Bool} {xs : List α} {k : Nat} {x : α} (hx : xs[k]? = some x) (h : (xs.take k).all p = true) : (xs.take (k + 1)).all p = p x := by
  have hk := (List.getElem?_eq_some_iff.1 hx).1
  rw [List.take_add_one, hx, List.all_append, h]
  simp
section
variable {Wb w : World} {A : Option Addr} {n c : Nat} {ps : List BP} {p : BP}
theorem one_goals {R : Value → World → Prop} {gs : List Int} {at_ m : Int} {O : Option Addr} {oc : Nat} (hR : ∀ w', Go.Rd.Ext w w' → R (.int .i64 (if (gs.all fun g => decide (at_ < g ∧ g < m)) = false then 154 else 0)) w') :
    ∀ (d k : Nat), gs.length - k = d → k ≤ gs.length → ((gs.take k).all fun g => decide (at_ < g ∧ g < m)) = true → gs.length ≤ 2 → ∀ (w' : World), Rd (Value.int .i64) w' O gs.length gs → Go.Rd.Ext w w' → graph_one.L2 R at_ m O gs.length oc (gs.length : Int) (k : Int) w' := by
  intro d
  induction d with
  | zero =>
    intro k hd hk ha h2 w' hr x
    refine graph_one.L2_step (ifP_no (by omega) ?_)
    have := hR w' x
    rw [if_neg] at this
    · exact this
    · rw [List.take_of_length_le (by omega)] at ha
      rw [ha]; decide
  | succ d ih =>
    intro k hd hk ha h2 w' hr x
    obtain ⟨v, hv⟩ : ∃ v, gs[k]? = some v := ⟨_, List.getElem?_eq_getElem (by omega)⟩
    obtain ⟨q, hq, hc⟩ := hr.2 k v hv
    have hs := all_take_succ hv ha
    refine graph_one.L2_step (ifP_yes (by omega) ⟨by omega, by omega, q, hq, v, by rw [Int.toNat_natCast]; exact hc, ?_⟩)
    have bad : ¬ (at_ < v ∧ v < m) → R (.int .i64 154) w' := by
      intro h
      have := hR w' x
      rw [if_pos] at this
      · exact this
      · rw [List.all_eq_false]
        exact ⟨v, List.mem_of_getElem? hv, by simpa using h⟩
    refine ifP_decide.2 ⟨fun h => ifP_t rfl (bad (by omega)), fun h => ?_⟩
    unfold graph_one.J0
    refine ifP_decide.2 ⟨fun h2 => bad (by omega), fun h2 => ?_⟩
    rw [wrap_i64 (by omega) (by omega)]
    exact ih (k + 1) (by omega) (by omega) (by rw [hs]; exact decide_eq_true ⟨by omega, by omega⟩) (by assumption) w' hr x
theorem goalsL_le (b : Blk) : (goalsL b).length ≤ 2 := by
  unfold goalsL
  split
  · show 1 ≤ 2
    decide
  · split
    · show 2 ≤ 2
      decide
    · show 0 ≤ 2
      decide
theorem one_spec {at_ all m : Int} (hp : IInsns w p.A p.n p.b.code) (hn : all ≤ 4096 → p.n ≤ 4096) : Run Try.prog 45 #[p.arg, .int .i64 at_, .int .i64 all, .int .i64 m] w fun v w' => v = .int .i64 (oneV p.b at_ all m) ∧ Go.Rd.Ext w w' := by
  refine graph_one.ok (letA fun w1 h1 x1 s1 => ifP_decide.2 ⟨fun h => ⟨?_, x1⟩, fun h => ?_⟩)
  · rw [oneV, if_pos (by omega)]
  have hb : BAt w1 w.heap.size p := h1
  refine ⟨_, _, _, hb.at8.s, ?_⟩
  have hl := hp.len
  have hn := hn (by omega)
  suffices H : ∀ (d k : Nat), p.n - k = d → k ≤ p.n → (p.b.code.take k).all straightB = true → ∀ (w' : World), Go.Rd.Ext w1 w' → graph_one.L0 (fun v w' => v = .int .i64 (oneV p.b at_ all m) ∧ Go.Rd.Ext w w') at_ m (newA w) p.A p.n p.c (p.n : Int) (k : Int) w' from H p.n 0 (by omega) (by omega) rfl w1 (Go.Rd.Ext.refl _)
  intro d
  induction d with
  | zero =>
    intro k hd hk ha w' x
    have ha : p.b.code.all straightB = true := by rwa [List.take_of_length_le (by omega)] at ha
    refine graph_one.L0_step (ifP_no (by omega) ((hb.ext x).at8.rd (gended_spec.mono ?_)))
    rintro v w2 ⟨rfl, x2⟩
    refine ⟨_, rfl, ifP_not.2 (ifP_of (fun he => ((hb.ext x).ext x2).at8.rd (ggoals_spec.mono ?_)) fun he => ⟨?_, (x1.trans x).trans x2⟩)⟩
    · rintro v w3 ⟨O, oc, rfl, hr, -, x3⟩
      refine ⟨_, _, _, rfl, one_goals (w := w3) ?_ (goalsL p.b).length 0 rfl (by omega) rfl (goalsL_le p.b) w3 hr (Go.Rd.Ext.refl _)⟩
      intro w4 x4
      refine ⟨?_, ((x1.trans x).trans (x2.trans x3)).trans x4⟩
      have e1 : oneV p.b at_ all m = if goalsOk p.b at_ m = false then 154 else 0 := by rw [oneV, if_neg (by omega), if_neg (by rw [ha]; decide), if_neg (by rw [he]; decide)]
      rw [e1]
      rfl
    · rw [oneV, if_neg (by omega), if_neg (by rw [ha]; decide), if_pos he]
  | succ d ih =>
    intro k hd hk ha w' x
    obtain ⟨q, i, hq, hi, h4⟩ := IInsns.at4 (RdM.ext hp (x1.trans x)) (i := k) (by omega)
    have hs := all_take_succ hi ha
    have ht : Int.toNat ((k : Nat) : Int) = k := Int.toNat_natCast k
    refine graph_one.L0_step (ifP_yes (by omega) ⟨by omega, by omega, q, hq, ?_⟩)
    rw [ht]
    refine ⟨_, h4.c, _, h4.t, _, h4.f, _, h4.k, istore fun w2 h2 x2 => IAt.rd h2 (gstraight_spec.mono ?_)⟩
    rintro v w3 ⟨rfl, x3⟩
    refine ⟨_, rfl, ifP_not.2 (ifP_of (fun hb => ?_) fun hb => ⟨?_, (x1.trans x).trans (x2.trans x3)⟩)⟩
    · rw [wrap_i64 (by omega) (by omega)]
      exact ih (k + 1) (by omega) (by omega) (by rw [hs, hb]) w3 (x.trans (x2.trans x3))
    · rw [oneV, if_neg (by omega), if_pos]
      rw [List.all_eq_false]
      exact ⟨i, List.mem_of_getElem? hi, by rw [hb]; decide⟩
theorem gFrom_at {m : Int} : ∀ (bs : List Blk) (k : Nat) (at_ all : Int), (∀ (j : Nat) (b : Blk), j < k → bs[j]? = some b → oneV b (at_ + j) (all + ((bs.take (j + 1)).map (·.code.length)).sum) m = 0) → gFrom m at_ all bs = gFrom m (at_ + k) (all + ((bs.take k).map (·.code.length)).sum) (bs.drop k)
  | bs, 0, at_, all, h => by simp
  | [], k + 1, at_, all, h => by simp [gFrom]
  | b :: r, k + 1, at_, all, h => by
    have h0 := h 0 b (by omega) rfl
    have e0 : at_ + ((0 : Nat) : Int) = at_ := by omega
    have e1 : (((b :: r).take (0 + 1)).map (·.code.length)).sum = b.code.length := by simp
    rw [e0, e1] at h0
    rw [gFrom, if_neg (not_not_intro h0), gFrom_at r k (at_ + 1) (all + b.code.length) fun j b' hj hb => ?_]
    · rw [List.drop_succ_cons, List.take_succ_cons, List.map_cons, List.sum_cons, show at_ + 1 + (k : Int) = at_ + ((k + 1 : Nat) : Int) by omega, show all + (b.code.length : Int) + (((r.take k).map (·.code.length)).sum : Nat) = all + ((b.code.length + ((r.take k).map (·.code.length)).sum : Nat) : Int) by omega]
    · have := h (j + 1) b' (by omega) (by simpa using hb)
      rw [List.take_succ_cons, List.map_cons, List.sum_cons] at this
      rwa [show at_ + 1 + (j : Int) = at_ + ((j + 1 : Nat) : Int) by omega, show all + (b.code.length : Int) + (((r.take (j + 1)).map (·.code.length)).sum : Nat) = all + ((b.code.length + ((r.take (j + 1)).map (·.code.length)).sum : Nat) : Int) by omega]
theorem sum_take_succ {bs : List Blk} {k : Nat} {b : Blk} (hb : bs[k]? = some b) : ((bs.take (k + 1)).map (·.code.length)).sum = ((bs.take k).map (·.code.length)).sum + b.code.length := by
  rw [List.take_add_one, hb]
  simp
theorem blks_get {k : Nat} (hp : ps[k]? = some p) : (blks ps)[k]? = some p.b := by
  rw [blks, List.getElem?_map, hp]
  rfl
theorem gcheck_spec (hx : IBl w A n ps) (hs : ∀ p ∈ ps, p.n ≤ 140737488351232) : Run Try.prog 12 #[.slice A n c] w fun v w' => v = .tuple #[.int .i64 (gcheckV (blks ps)).1, .int .i64 (gcheckV (blks ps)).2] ∧ Go.Rd.Ext w w' := by
  have hl := hx.len
  have hbl : (blks ps).length = n := by rw [blks, List.length_map, hl]
  refine graph_Check.ok (ifP_beq.2 ⟨fun h => ⟨?_, Go.Rd.Ext.refl _⟩, fun h0 => ifP_decide.2 ⟨fun h => ⟨?_, Go.Rd.Ext.refl _⟩, fun h1 => ?_⟩⟩)
  · rw [gcheckV, if_pos (by omega)]
  · rw [gcheckV, if_neg (by omega), if_pos (by omega)]
  have ev : gcheckV (blks ps) = gFrom (n : Int) 0 0 (blks ps) := by rw [gcheckV, if_neg (by omega), if_neg (by omega), hbl]
  suffices H : ∀ (d k : Nat), n - k = d → k ≤ n → (∀ (j : Nat) (b : Blk), j < k → (blks ps)[j]? = some b → oneV b (0 + j) (0 + (((blks ps).take (j + 1)).map (·.code.length)).sum) n = 0) → (((blks ps).take k).map (·.code.length)).sum ≤ 4096 → ∀ (w' : World), Go.Rd.Ext w w' →
      graph_Check.L0 (fun v w' => v = .tuple #[.int .i64 (gcheckV (blks ps)).1, .int .i64 (gcheckV (blks ps)).2] ∧ Go.Rd.Ext w w') A n c ((((blks ps).take k).map (·.code.length)).sum : Nat) A n c (n : Int) (k : Int) w' from H n 0 (by omega) (by omega) (fun j b hj => absurd hj (Nat.not_lt_zero j)) (by simp) w (Go.Rd.Ext.refl _)
  intro d
  induction d with
  | zero =>
    intro k hd hk hz hc w' x
    refine graph_Check.L0_step (ifP_no (by omega) ⟨?_, x⟩)
    rw [ev, gFrom_at (blks ps) k 0 0 hz, List.drop_eq_nil_of_le (by omega), gFrom]
  | succ d ih =>
    intro k hd hk hz hc w' x
    obtain ⟨q, p, hq, hp, h8⟩ := (hx.ext x).at8 (i := k) (by omega)
    have hb := blks_get hp
    have hpm := List.mem_of_getElem? hp
    have hpc := RdM.ext (hx.code p hpm) x
    have hpl : p.b.code.length = p.n := hpc.len
    have hpn := hs p hpm
    have hsum := sum_take_succ hb
    have hdrop : (blks ps).drop k = p.b :: (blks ps).drop (k + 1) := by
      obtain ⟨hlt, he⟩ := List.getElem?_eq_some_iff.1 hb
      rw [List.drop_eq_getElem_cons hlt, he]
    have ht : Int.toNat ((k : Nat) : Int) = k := Int.toNat_natCast k
    refine graph_Check.L0_step (ifP_yes (by omega) ⟨by omega, by omega, q, hq, ?_⟩)
    rw [ht]
    refine h8.rd (bstore fun w2 h2 x2 => ⟨_, _, _, h2.at8.s, ?_⟩)
    have ew : IntKind.i64.wrap (((((blks ps).take k).map (·.code.length)).sum : Nat) + (p.n : Int)) = ((((blks ps).take (k + 1)).map (·.code.length)).sum : Nat) := by
      rw [wrap_i64 (by omega) (by omega), hsum]
      omega
    rw [ew]
    refine h2.at8.rd ((one_spec (RdM.ext hpc x2) (by omega)).mono ?_)
    rintro v w3 ⟨rfl, x3⟩
    have e0 : (0 : Int) + (k : Int) = k := by omega
    refine ⟨_, rfl, ifP_bne.2 ⟨fun hne => ⟨?_, x.trans (x2.trans x3)⟩, fun hz0 => ?_⟩⟩
    · have es : ((((blks ps).take k).map (·.code.length)).sum : Nat) + (p.b.code.length : Int) = ((((blks ps).take (k + 1)).map (·.code.length)).sum : Nat) := by rw [hsum]; omega
      rw [ev, gFrom_at (blks ps) k 0 0 hz, hdrop, gFrom, Int.zero_add, Int.zero_add, es, if_pos hne]
    · rw [wrap_i64 (by omega) (by omega)]
      have h4096 := (oneV_zero hz0).1
      refine ih (k + 1) (by omega) (by omega) (fun j b hj hb' => ?_) (by omega) w3 (x.trans (x2.trans x3))
      by_cases e : j = k
      · subst e
        rw [hb] at hb'
        obtain rfl := Option.some.inj hb'
        rw [Int.zero_add, Int.zero_add]
        exact hz0
      · exact hz j b (by omega) hb'
theorem gtaken_spec (hx : IBl w A n ps) (hs : ∀ p ∈ ps, p.n ≤ 140737488351232) : Run Try.prog 48 #[.slice A n c] w fun v w' => v = .int .i64 (if (gcheckV (blks ps)).2 ≠ 0 then 155 else 0) ∧ Go.Rd.Ext w w' := by
  refine graph_taken.ok ((gcheck_spec hx hs).mono ?_)
  rintro v w2 ⟨rfl, x2⟩
  refine ⟨_, _, rfl, ifP_bne.2 ⟨fun h => ⟨?_, x2⟩, fun h => ⟨?_, x2⟩⟩⟩
  · rw [if_pos h]
  · rw [if_neg (not_not_intro h)]
/-- What a size answers. -/
def weighR (back on test : Int) (bs : List Blk) : Int × Int := if (gcheckV bs).2 ≠ 0 then (0, 155) else (weighV back on test bs, 0)
theorem weigh_take {back on test : Int} {bs : List Blk} {k : Nat} {b : Blk} (hb : bs[k]? = some b) : weighV back on test (bs.take (k + 1)) = weighV back on test (bs.take k) + weighB back on test b := by
  unfold weighV
  rw [List.take_add_one, hb]
  simp
theorem weigh_le {back on test : Int} (hb : 0 ≤ back ∧ back ≤ 3) (ho : 0 ≤ on ∧ on ≤ 3) (ht : 0 ≤ test ∧ test ≤ 3) : ∀ (bs : List Blk), 0 ≤ weighV back on test bs ∧ weighV back on test bs ≤ ((bs.map (·.code.length)).sum : Nat) + 3 * (bs.length : Int)
  | [] => by simp [weighV]
  | b :: r => by
    have ih := weigh_le hb ho ht r
    unfold weighV at ih ⊢
    rw [List.map_cons, List.sum_cons, List.map_cons, List.sum_cons, List.length_cons]
    have : 0 ≤ weighB back on test b ∧ weighB back on test b ≤ b.code.length + 3 := by
      unfold weighB
      split
      · omega
      · split <;> omega
    omega
theorem sum_take_le (bs : List Blk) (k : Nat) : ((bs.take k).map (·.code.length)).sum ≤ (bs.map (·.code.length)).sum := by
  conv => rhs; rw [← List.take_append_drop k bs]
  rw [List.map_append, List.sum_append]
  omega
theorem weighed_spec {back on test : Int} (hx : IBl w A n ps) (hs : ∀ p ∈ ps, p.n ≤ 140737488351232) (hb : 0 ≤ back ∧ back ≤ 3) (ho : 0 ≤ on ∧ on ≤ 3) (ht : 0 ≤ test ∧ test ≤ 3) : Run Try.prog 61 #[.slice A n c, .int .i64 back, .int .i64 on, .int .i64 test] w fun v w' => v = .tuple #[.int .i64 (weighR back on test (blks ps)).1, .int .i64 (weighR back on test (blks ps)).2] ∧ Go.Rd.Ext w w' := by
  have hl := hx.len
  have hbl : (blks ps).length = n := by rw [blks, List.length_map, hl]
  refine graph_weighed.ok ((gtaken_spec hx hs).mono ?_)
  rintro v w1 ⟨rfl, x1⟩
  by_cases hc : (gcheckV (blks ps)).2 ≠ 0
  · rw [if_pos hc]
    refine ⟨_, rfl, ifP_t rfl ⟨?_, x1⟩⟩
    rw [weighR, if_pos hc]
  have hc := Classical.not_not.1 hc
  rw [if_neg (not_not_intro hc)]
  refine ⟨_, rfl, ifP_f rfl ?_⟩
  obtain ⟨T, _⟩ := gtaken_of hc
  have hTl := T.le
  have hTc := T.codes
  suffices H : ∀ (d k : Nat), n - k = d → k ≤ n → ∀ (w' : World), Go.Rd.Ext w w' →
      graph_weighed.L0 (fun v w' => v = .tuple #[.int .i64 (weighR back on test (blks ps)).1, .int .i64 (weighR back on test (blks ps)).2] ∧ Go.Rd.Ext w w') back on test (weighV back on test ((blks ps).take k)) A n c (n : Int) (k : Int) w' from H n 0 (by omega) (by omega) w1 x1
  intro d
  induction d with
  | zero =>
    intro k hd hk w' x
    refine graph_weighed.L0_step (ifP_no (by omega) ⟨?_, x⟩)
    rw [weighR, if_neg (not_not_intro hc), List.take_of_length_le (by omega)]
  | succ d ih =>
    intro k hd hk w' x
    obtain ⟨q, p, hq, hp, h8⟩ := (hx.ext x).at8 (i := k) (by omega)
    have hbk := blks_get hp
    have hpm := List.mem_of_getElem? hp
    have hpl : p.b.code.length = p.n := (hx.code p hpm).len
    have ht' : Int.toNat ((k : Nat) : Int) = k := Int.toNat_natCast k
    have hsum := sum_take_succ hbk
    have z1 := weigh_le hb ho ht ((blks ps).take k)
    have z2 := sum_take_le (blks ps) (k + 1)
    have z3 : ((blks ps).take k).length ≤ n := by rw [List.length_take]; omega
    have hw := weigh_take (back := back) (on := on) (test := test) hbk
    have fin : ∀ (w3 : World) (z : Int), Go.Rd.Ext w w3 → 0 ≤ z → z ≤ 3 → weighB back on test p.b = p.b.code.length + z → graph_weighed.J0 (fun v w' => v = .tuple #[.int .i64 (weighR back on test (blks ps)).1, .int .i64 (weighR back on test (blks ps)).2] ∧ Go.Rd.Ext w w') back on test (IntKind.i64.wrap (IntKind.i64.wrap (weighV back on test ((blks ps).take k) + ((p.n : Nat) : Int)) + z)) A n c (n : Int) (k : Int) w3 := by
      intro w3 z x3 z0 z3' hz
      unfold graph_weighed.J0
      rw [wrap_i64 (x := weighV back on test ((blks ps).take k) + ((p.n : Nat) : Int)) (by omega) (by omega), wrap_i64 (by omega) (by omega), wrap_i64 (by omega) (by omega)]
      have := ih (k + 1) (by omega) (by omega) w3 x3
      rw [hw, hz, hpl] at this
      rwa [Int.add_assoc]
    refine graph_weighed.L0_step (ifP_yes (by omega) ⟨by omega, by omega, q, hq, ?_⟩)
    rw [ht']
    refine h8.rd (bstore fun w2 h2 x2 => ⟨_, _, _, h2.at8.s, _, h2.at8.e, ifP_beq.2 ⟨fun e1 => fin w2 back (x.trans x2) hb.1 hb.2 ?_, fun e1 => ifP_beq.2 ⟨fun e2 => fin w2 on (x.trans x2) ho.1 ho.2 ?_, fun e2 => fin w2 test (x.trans x2) ht.1 ht.2 ?_⟩⟩⟩)
    · rw [weighB, if_pos e1]
    · rw [weighB, if_neg e1, if_pos e2]
    · rw [weighB, if_neg e1, if_neg e2]
def sizeR (bs : List Blk) : Int × Int := weighR 1 0 1 bs
def measureR (bs : List Blk) : Int × Int := weighR 1 1 3 bs
theorem gsize_spec (hx : IBl w A n ps) (hs : ∀ p ∈ ps, p.n ≤ 140737488351232) : Run Try.prog 31 #[.slice A n c] w fun v w' => v = .tuple #[.int .i64 (sizeR (blks ps)).1, .int .i64 (sizeR (blks ps)).2] ∧ Go.Rd.Ext w w' := by
  refine graph_Size.ok ((weighed_spec hx hs (by decide) (by decide) (by decide)).mono ?_)
  rintro v w2 ⟨rfl, x2⟩
  exact ⟨_, _, rfl, rfl, x2⟩
theorem gmeasure_spec (hx : IBl w A n ps) (hs : ∀ p ∈ ps, p.n ≤ 140737488351232) : Run Try.prog 32 #[.slice A n c] w fun v w' => v = .tuple #[.int .i64 (measureR (blks ps)).1, .int .i64 (measureR (blks ps)).2] ∧ Go.Rd.Ext w w' := by
  refine graph_Measure.ok ((weighed_spec hx hs (by decide) (by decide) (by decide)).mono ?_)
  rintro v w2 ⟨rfl, x2⟩
  exact ⟨_, _, rfl, rfl, x2⟩
end
end Go.Proofs.Ytbchjihecdkfeaa
