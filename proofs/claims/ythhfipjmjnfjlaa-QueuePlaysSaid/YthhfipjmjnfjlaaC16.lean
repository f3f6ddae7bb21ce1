/- The document's queue: Drain, Lens; lists of lists, alike and spoilt. -/
import Derived.Test.YthhfipjmjnfjlaaC15
namespace Go.Proofs.Ythhfipjmjnfjlaa
open Go.Rd Go.RowKit
set_option linter.unusedVariables false
set_option linter.unusedSimpArgs false
set_option maxRecDepth 100000
section
variable {w w' : World} {q : Nat} {F : Nat → Prop} {cl : List Cls}
theorem rdrain_spec (h : WOk w q F cl) (hn : (drainL cl).length ≤ 100000000) :
    Run Try.prog 27 #[.pointer (some ⟨q, 0, none⟩)] w (DrainOf w F cl fun w' F' cl' => WOk w' q F' cl') := by
  have loop : ∀ (d : Nat) (O : Option Addr) (n oc : Nat) (ps : List Part) (os : List (List Int)) (F1 : Nat → Prop) (cl1 : List Cls) (w1 : World), (drainL cl1).length = d → os ++ drainL cl1 = drainL cl → bare cl1 = bare cl → FOk w1 O n oc ps os → WOk w1 q F1 cl1 →
      Keep F w w1 → (∀ k, F1 k → F k) → (∀ k, ffp O oc ps k → (F k ∨ w.heap.size ≤ k) ∧ ¬ F1 k) →
      ref21_Queue_Drain.L0 (DrainOf w F cl fun w' F' cl' => WOk w' q F' cl') (some ⟨q, 0, none⟩) O n oc w1 := by
    intro d
    induction d with
    | zero =>
      intro O n oc ps os F1 cl1 w1 hd ho hb f1 h1 K hF hf
      refine ref21_Queue_Drain.L0_step ((rtake_spec h1).mono ?_)
      rintro v w2 (⟨he, rfl, x2⟩ | ⟨i, x, cl2, A, m, c, F2, hfirst, rfl, h2, o2, l2, K2, s2, d2⟩)
      · obtain ⟨e1, e2⟩ := he.drain
        rw [e1, List.append_nil] at ho
        subst ho
        refine ⟨_, _, _, _, _, rfl, ifP_t rfl ⟨O, n, oc, ps, F1, rfl, f1.ext x2, ?_, K.trans' (Keep.ext x2), hF, hf⟩⟩
        rw [← hb, e2]
        exact h1.ext x2
      · have := hfirst.drain.1
        rw [this] at hd
        cases hd
    | succ d ih =>
      intro O n oc ps os F1 cl1 w1 hd ho hb f1 h1 K hF hf
      refine ref21_Queue_Drain.L0_step ((rtake_spec h1).mono ?_)
      rintro v w2 (⟨he, rfl, x2⟩ | ⟨i, x, cl2, A, m, c, F2, hfirst, rfl, h2, o2, l2, K2, s2, d2⟩)
      · rw [he.drain.1] at hd
        cases hd
      · obtain ⟨e1, e2⟩ := hfirst.drain
        rw [e1] at hd ho
        refine ⟨_, _, _, _, _, rfl, ifP_f rfl (letA fun w3 h3 x3 s3 => ?_)⟩
        have hB : RdC w3 (some (newA w2)) [(Part.mk A m c x).v] := by
          have : Own 35 1 w3 (some (newA w2)) 1 [(Part.mk A m c x).v] := .inr ⟨_, [], rfl, h3, rfl⟩
          exact this.cells
        have f2 := f1.keep K2 fun k hk hk2 => (hf k hk).2 hk2
        have hol : os.length ≤ 100000000 := by
          have := congrArg List.length ho
          rw [List.length_append] at this
          omega
        have hol2 := f1.length
        obtain ⟨O4, c4, w4, hr4, f4, k4, n4⟩ := FOk.push (d := 1) (ty := 45) (f2.ext x3) (by omega) (p := ⟨A, m, c, x⟩) (o2.ext x3) l2 (fun k hk hk2 => (hf k hk2).2 (d2 k hk).1) hB
        have sub4 : ∀ k, ffp O4 c4 (ps ++ [⟨A, m, c, x⟩]) k → (F k ∨ w.heap.size ≤ k) ∧ ¬ F2 k := by
          have szs : w.heap.size ≤ w3.heap.size := by have := K.size; have := K2.size; have := x3.size; omega
          have ltF2 : ∀ k, F2 k → k < w3.heap.size := fun k hk => by
            have := h2.lt hk; have := x3.size; omega
          rintro k (hk | ⟨p, hp, hk⟩)
          · rcases n4 k hk with hk | hk
            · have := hf k (.inl hk); exact ⟨this.1, fun h => this.2 (s2 k h)⟩
            · exact ⟨.inr (by omega), fun h => by have := ltF2 k h; omega⟩
          · rcases List.mem_append.1 hp with hp | hp
            · have := hf k (.inr ⟨p, hp, hk⟩); exact ⟨this.1, fun h => this.2 (s2 k h)⟩
            · obtain rfl : p = _ := by simpa using hp
              have := d2 k hk
              exact ⟨.inl (hF k this.1), this.2⟩
        refine ⟨_, w4, hr4, O4, _, c4, rfl, ih O4 (n + 1) c4 _ (os ++ [x]) F2 cl2 w4 (by simpa using hd) (by rw [← ho]; simp) (e2.trans hb) f4 ?_ ?_ (fun k hk => hF k (s2 k hk)) sub4⟩
        · exact (h2.ext x3).keep k4 fun k hk hk2 => (hf k (.inl hk2)).2 (s2 k hk)
        · refine ((K.trans' (K2.mono fun k _ hk => hF k hk)).trans' (Keep.ext x3)).trans k4 (fun k _ hk => hk) fun k hlt hk => ?_
          rcases (hf k (.inl hk)).1 with h | h
          · exact h
          · omega
  refine ref21_Queue_Drain.ok (loop _ none 0 0 [] [] F cl w rfl rfl rfl FOk.nil h (Keep.refl w) (fun k hk => hk) ?_)
  rintro k (hk | ⟨p, hp, _⟩)
  · exact absurd hk.1 (Nat.lt_irrefl 0)
  · cases hp
theorem rlens_spec (h : WOk w q F cl) : Run Try.prog 30 #[.pointer (some ⟨q, 0, none⟩)] w fun v w' => NewInts w w' v cl.length (lensOf cl) := by
  obtain ⟨D, dc, X, xc, L, lc, S, hq, rfl⟩ := h
  have hlen := hq.len
  refine ref21_Queue_Lens.ok ?_
  suffices loop : ∀ (d i : Nat), cl.length - i = d → i ≤ cl.length → ∀ O oc w', OInts w' O oc ((lensOf cl).take i) → (∀ k, blk O k → w.heap.size ≤ k) → Ext w w' →
      ref21_Queue_Lens.L0 (fun v w' => NewInts w w' v cl.length (lensOf cl)) (some ⟨q, 0, none⟩) O i oc (i : Int) w' from loop cl.length 0 (by omega) (by omega) none 0 w Own.empty (fun k hk => (blk_none hk).elim) (Ext.refl w)
  intro d
  induction d with
  | zero =>
    intro i hd hi O oc w' o b xx
    have : i = cl.length := by omega
    subst this
    have q' := hq.keep (Keep.ext xx) fun _ _ h => h
    refine ref21_Queue_Lens.L0_step ⟨_, rfl, _, _, _, q'.c1, ifP_no (by omega) ⟨O, oc, rfl, ?_, by simp [lensOf], b, xx⟩⟩
    rwa [List.take_of_length_le (by simp [lensOf])] at o
  | succ d ih =>
    intro i hd hi O oc w' o b xx
    have hil : i < cl.length := by omega
    have q' := hq.keep (Keep.ext xx) fun _ _ h => h
    have ht : Int.toNat ((i : Nat) : Int) = i := Int.toNat_natCast i
    obtain ⟨s, C, hs, hC, f, sn, ⟨aX, hX, cX⟩, _, _⟩ := q'.at_ hil
    refine ref21_Queue_Lens.L0_step ⟨_, rfl, _, _, _, q'.c1, ifP_yes (by omega) ⟨_, rfl, _, _, _, q'.c1, by omega, by omega, aX, hX, _, _, _, by rw [ht]; exact cX, letA fun w1 h1 x1 s1 => ?_⟩⟩
    have hB : RdC w1 (some (newA w')) ([(C.fr.length : Int)].map (Value.int .i64)) := by
      have : OInts w1 (some (newA w')) 1 [(C.fr.length : Int)] := .inr ⟨_, [], rfl, by rw [← sn]; exact h1, rfl⟩
      exact this.cells
    obtain ⟨O', oc', w2, hr, o2, _, k2, n2⟩ := append_own slInts (ty := 22) (n := i) (d := 1) (o.ext x1) (by simp [lensOf]; omega) hB (m := 1) rfl rfl (by omega) (by omega)
    refine ⟨_, w2, hr, O', _, oc', rfl, ?_⟩
    rw [wrap_i64 (by omega) (by omega)]
    refine ih (i + 1) (by omega) (by omega) O' oc' w2 ?_ (fun k hk => (n2 k hk).elim (b k) fun h => by have := (xx.trans x1).size; omega) ((xx.trans x1).fresh k2 fun k hk => b k hk)
    have e : (lensOf cl).take (i + 1) = (lensOf cl).take i ++ [(C.fr.length : Int)] := by
      rw [List.take_add_one]
      have : (lensOf cl)[i]? = some (C.fr.length : Int) := by unfold lensOf; rw [List.getElem?_map, hC]; rfl
      rw [this]; rfl
    rw [e, OInts, List.map_append]
    exact o2
end
/-! ## Lists of lists -/

def LRd (w : World) (A : Option Addr) (n : Nat) (fr : List (List Int)) : Prop := ∃ ps : List Part, Rd Part.v w A n ps ∧ (∀ p ∈ ps, IBytes w p.A p.n p.xs) ∧ ps.map (·.xs) = fr
theorem LRd.len {w : World} {A : Option Addr} {n : Nat} {fr : List (List Int)} (h : LRd w A n fr) : fr.length = n := by
  obtain ⟨ps, h1, _, rfl⟩ := h
  rw [List.length_map, h1.len]
theorem LRd.ext {w w' : World} {A : Option Addr} {n : Nat} {fr : List (List Int)} (h : LRd w A n fr) (x : Go.Rd.Ext w w') : LRd w' A n fr := by
  obtain ⟨ps, h1, h2, h3⟩ := h
  exact ⟨ps, h1.ext x, fun p hp => (h2 p hp).ext x, h3⟩
theorem LRd.at {w : World} {A : Option Addr} {n : Nat} {fr : List (List Int)} (h : LRd w A n fr) {i : Nat} (hi : i < n) : ∃ (a : Addr) (p : Part), A = some a ∧ w.cell? (a.add (i * 1)) = some (.slice p.A p.n p.c) ∧ IBytes w p.A p.n p.xs ∧ fr[i]? = some p.xs := by
  obtain ⟨ps, h1, h2, rfl⟩ := h
  have hp : ps[i]? = some (ps[i]'(by rw [h1.len]; exact hi)) := List.getElem?_eq_getElem _
  obtain ⟨a, ha, hc⟩ := h1.2 i _ hp
  exact ⟨a, _, ha, hc, h2 _ (List.mem_of_getElem? hp), by rw [List.getElem?_map, hp]; rfl⟩
theorem FOk.lrd {w : World} {A : Option Addr} {n c : Nat} {ps : List Part} {fr : List (List Int)} (f : FOk w A n c ps fr) : LRd w A n fr := by
  refine ⟨ps, ⟨f.len, fun i p hp => ?_⟩, fun p hp => ?_, f.frs⟩
  · obtain ⟨a, ha, hc⟩ := f.own.cells i p.v (by rw [List.getElem?_map, hp]; rfl)
    exact ⟨a, ha, by rw [Nat.mul_one]; exact hc⟩
  · obtain ⟨o, l⟩ := f.part p hp
    exact o.rd l
theorem sameLists_loop {W : World} {A B : Option Addr} {n c d : Nat} {fr gs : List (List Int)} (hx : LRd W A n fr) (hy : LRd W B n gs) (hn : n ≤ 1000000000) (hl : ∀ f ∈ fr, f.length ≤ 1000000000) : ∀ (k i : Nat), n - i = k → i ≤ n → (∀ j, j < i → fr[j]? = gs[j]?) → ∀ w, Go.Rd.Ext W w → law0_SameLists.L0 (fun v w' => v = .bool (decide (fr = gs)) ∧ Go.Rd.Ext W w') A n c B n d i w := by
  intro k
  induction k with
  | zero =>
    intro i hd hi hj w x
    refine law0_SameLists.L0_step (ifP_no (by omega) ⟨?_, x⟩)
    rw [decide_eq_true]
    refine List.ext_getElem? fun j => ?_
    by_cases h : j < i
    · exact hj j h
    · rw [List.getElem?_eq_none (by rw [hx.len]; omega), List.getElem?_eq_none (by rw [hy.len]; omega)]
  | succ k ih =>
    intro i hd hi hj w x
    obtain ⟨a, p, ha, hc, hp, e1⟩ := (hx.ext x).at (i := i) (by omega)
    obtain ⟨b, q, hb, hcq, hq, e2⟩ := (hy.ext x).at (i := i) (by omega)
    let S : World → Prop := fun u => u.cell? (a.add (i * 1)) = some (.slice p.A p.n p.c) ∧ u.cell? (b.add (i * 1)) = some (.slice q.A q.n q.c)
    refine law0_SameLists.L0_step (ifP_yes (by omega) ⟨S, ⟨(Go.Rd.Ext.drew w).cell hc, (Go.Rd.Ext.drew w).cell hcq⟩, letD fun w1 _ x1 => ⟨by omega, by omega, a, ha, _, _, p.c, fun u hu => ?_, by omega, by omega, b, hb, _, _, q.c, fun u hu => ?_, (sameBytes_spec (hp.ext x1) (hq.ext x1) ?_).mono ?_⟩⟩)
    · rw [Int.toNat_natCast]; exact hu.1
    · rw [Int.toNat_natCast]; exact hu.2
    · have := hl _ (List.mem_of_getElem? e1)
      rw [hp.len] at this
      omega
    · rintro v w2 ⟨rfl, x2⟩
      have x02 := (x.trans x1).trans x2
      refine ⟨_, rfl, ifP_not.2 (ifP_decide.2 ⟨fun h => ?_, fun h => ⟨?_, x02⟩⟩)⟩
      · have hw : IntKind.i64.wrap ((i : Int) + 1) = ((i + 1 : Nat) : Int) := wrap_i64 (by omega) (by omega)
        rw [hw]
        refine ih (i + 1) (by omega) (by omega) (fun j hj2 => ?_) w2 x02
        by_cases h2 : j = i
        · subst h2; rw [e1, e2, h]
        · exact hj j (by omega)
      · rw [decide_eq_false]
        intro h2
        rw [h2, e2] at e1
        exact h (Option.some.inj e1).symm
theorem sameLists_spec {W : World} {A B : Option Addr} {n m c d : Nat} {fr gs : List (List Int)} (hx : LRd W A n fr) (hy : LRd W B m gs) (hn : n ≤ 1000000000) (hl : ∀ f ∈ fr, f.length ≤ 1000000000) :
    Run Try.prog 28 #[.slice A n c, .slice B m d] W fun v w' => v = .bool (decide (fr = gs)) ∧ Go.Rd.Ext W w' := by
  refine law0_SameLists.ok (ifP_bne.2 ⟨fun h => ⟨?_, Go.Rd.Ext.refl W⟩, fun h => ?_⟩)
  · rw [decide_eq_false]
    intro h2
    exact h (by rw [← hx.len, ← hy.len, h2])
  · obtain rfl : n = m := by omega
    exact sameLists_loop hx hy hn hl n 0 rfl (by omega) (fun j hj => by omega) W (Go.Rd.Ext.refl W)
theorem putS {e : Nat} {w : World} {A : Option Addr} {c : Nat} {cs : List Value} (h : OwnS e 1 w A c cs) {i : Nat} {j : Int} (hj : j = i) (hi : i < cs.length) {v : Value} {f : World → Prop}
    (hf : ∀ w', OwnS e 1 w' A c (cs.set i v) → Keep (blkC A c) w w' → f w') :
    ∃ p, A = some p ∧ (∃ u, w.cell? (p.add (Int.toNat j * 1)) = some u) ∧ w.frozen? (p.add (Int.toNat j * 1)) = false ∧ letW (w.setCell (p.add (Int.toNat j * 1)) v) f := by
  subst hj
  rcases h with ⟨rfl, rfl⟩ | ⟨b, pre, sp, rfl, hb, hl⟩
  · simp at hi
  · have e1 : (Addr.mk b (List.length pre) none).add (Int.toNat (i : Int) * 1) = ⟨b, List.length pre + i, none⟩ := by rw [add_mk]; simp
    refine ⟨_, rfl, ?_⟩
    rw [e1]
    refine ⟨st_cell hb (by simp; omega), frozen_of hb, letS hb fun w' h' k' s' => hf w' (.inr ⟨b, pre, sp, rfl, ?_, by simpa using hl⟩) (k'.mono fun k _ h => ⟨?_, blk_some.2 h⟩)⟩
    · rw [h']
      congr 2
      apply Array.ext'
      simp [List.set_append, hi]
    · rw [List.length_append] at hl
      omega
theorem spoilLists_spec {w : World} {A : Option Addr} {n c : Nat} {ps : List Part} {fr : List (List Int)} (h : FOk w A n c ps fr) (hn : n ≤ 1000000000) (hl : ∀ x ∈ fr, x.length ≤ 1000000000) :
    Run Try.prog 29 #[.slice A n c] w fun v w' => v = .tuple #[] ∧ Keep (ffp A c ps) w w' := by
  have hlen := h.len
  refine law0_SpoilLists.ok ?_
  suffices H : ∀ (d i : Nat), n - i = d → i ≤ n → ∀ (w' : World) (cs : List Value), cs.length = n → (∀ (j : Nat) (p : Part), i ≤ j → ps[j]? = some p → cs[j]? = some p.v) → OwnS 35 1 w' A c cs → (∀ (j : Nat) (p : Part), i ≤ j → ps[j]? = some p → OBytes w' p.A p.c p.xs) → Keep (ffp A c ps) w w' → law0_SpoilLists.L0 (fun v w' => v = .tuple #[] ∧ Keep (ffp A c ps) w w') A n c (i : Int) w' from
    H n 0 (by omega) (by omega) w (ps.map Part.v) (by rw [List.length_map]; exact hlen) (fun j p _ hj => by rw [List.getElem?_map, hj]; rfl) h.own (fun j p _ hj => (h.part p (List.mem_of_getElem? hj)).1) (Keep.refl w)
  intro d
  induction d with
  | zero => intro i hd hi w' cs hcl hcs ho hp k; exact law0_SpoilLists.L0_step (ifP_no (by omega) ⟨rfl, k⟩)
  | succ d ih =>
    intro i hd hi w' cs hcl hcs ho hp k
    obtain ⟨p, hpi⟩ : ∃ p, ps[i]? = some p := ⟨_, List.getElem?_eq_getElem (by omega)⟩
    have hpm := List.mem_of_getElem? hpi
    obtain ⟨a, ha, hc⟩ := ho.cells i p.v (hcs i p (Nat.le_refl i) hpi)
    have ht : Int.toNat ((i : Nat) : Int) = i := Int.toNat_natCast i
    have hxl : p.xs.length ≤ 1000000000 := hl p.xs (by rw [← h.frs]; exact List.mem_map.2 ⟨p, hpm, rfl⟩)
    have hpn := (h.part p hpm).2
    have op := hp i p (Nat.le_refl i) hpi
    have hsepA : ∀ k, blkC A c k → ¬ blk p.A k := fun k h1 h2 => by
      obtain ⟨us, e1⟩ := OwnS.typ ho h1
      obtain ⟨vs, e2⟩ := Own.typ op h2
      have := typ_ne e1 e2
      revert this
      decide
    refine law0_SpoilLists.L0_step (ifP_yes (by omega) ⟨by omega, by omega, a, ha, p.A, p.n, p.c, by rw [ht, Nat.mul_one]; exact hc, (spoilBytes_spec op (by rw [List.length_map]; exact hpn) (by omega)).mono ?_⟩)
    rintro v w2 ⟨rfl, k2⟩
    refine ⟨rfl, letA fun w3 h3 x3 s3 => ⟨by omega, by omega, ?_⟩⟩
    have ho3 := (ho.keep k2 hsepA).ext x3
    refine putS ho3 (i := i) rfl (by omega) fun w4 o4 k4 => ?_
    rw [wrap_i64 (by omega) (by omega)]
    have K : Keep (ffp A c ps) w w4 := ((k.trans k2 (fun _ _ h => h) fun j _ h => .inr ⟨p, hpm, h⟩).trans' (Keep.ext x3)).trans k4 (fun _ _ h => h) fun j _ h => .inl h
    refine ih (i + 1) (by omega) (by omega) w4 (cs.set i _) (by rw [List.length_set]; exact hcl) (fun j r hj hr => ?_) o4 (fun j r hj hr => ?_) K
    · rw [List.getElem?_set_ne (by omega)]
      exact hcs j r (by omega) hr
    · have or' := hp j r (by omega) hr
      have h1 := List.getElem?_eq_some_iff.1 hpi
      have h2 := List.getElem?_eq_some_iff.1 hr
      have pw := (List.pairwise_iff_getElem.1 h.pair) i j h1.1 h2.1 (by omega)
      rw [h1.2, h2.2] at pw
      have or2 := (or'.keep k2 fun l hl1 hl2 => pw l hl2 hl1).ext x3
      refine or2.keep k4 fun l hl1 hl2 => ?_
      obtain ⟨us, e1⟩ := OwnS.typ ho3 hl2
      obtain ⟨vs, e2⟩ := Own.typ or2 hl1
      have := typ_ne e1 e2
      revert this
      decide
end Go.Proofs.Ythhfipjmjnfjlaa
