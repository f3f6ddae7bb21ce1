/- The statement over any calls. -/
import Derived.Test.YthhfipjmjnfjlaaC16
import Derived.Test.YthhfipjmjnfjlaaOpenA
namespace Go.Proofs.Ythhfipjmjnfjlaa
open Go.Rd Go.RowKit
set_option linter.unusedVariables false
set_option linter.unusedSimpArgs false
set_option maxRecDepth 100000
theorem First.same {cl cl1 cl2 : List Cls} {i j : Nat} {x y : List Int} (h1 : First cl i x cl1) (h2 : First cl j y cl2) : i = j ∧ x = y ∧ cl1 = cl2 := by
  obtain ⟨C, fr, hC, hfr, he, rfl⟩ := h1
  obtain ⟨C', fr', hC', hfr', he', rfl⟩ := h2
  have hij : i = j := by
    rcases Nat.lt_trichotomy i j with h | h | h
    · have := he' i C h hC; rw [hfr] at this; cases this
    · exact h
    · have := he j C' h hC'; rw [hfr'] at this; cases this
  subst hij
  rw [hC] at hC'
  obtain rfl := Option.some.inj hC'
  rw [hfr] at hfr'
  injection hfr' with e1 e2
  subst e1 e2
  exact ⟨rfl, rfl, rfl⟩
theorem Empty.no {cl cl' : List Cls} {i : Nat} {x : List Int} (h : Empty cl) : ¬ First cl i x cl' := fun ⟨C, fr, hC, hfr, _, _⟩ => by
  rw [h i C hC] at hfr
  cases hfr
theorem First.small {cl cl' : List Cls} {i : Nat} {x : List Int} (h : First cl i x cl') (hs : Small cl) : Small cl' ∧ x.length ≤ 65535 := by
  obtain ⟨C, fr, hC, hfr, he, rfl⟩ := h
  have hC' := hs C (List.mem_of_getElem? hC)
  rw [hfr] at hC'
  refine ⟨fun E hE => ?_, hC' x (List.mem_cons_self ..)⟩
  rcases List.mem_or_eq_of_mem_set hE with hE | rfl
  · exact hs E hE
  · exact fun y hy => hC' y (List.mem_cons_of_mem _ hy)
theorem drain_le {cl : List Cls} (h : ∀ C ∈ cl, C.fr.length ≤ 1024) : (drainL cl).length ≤ 1024 * cl.length := by
  induction cl with
  | nil => exact Nat.le_refl _
  | cons C r ih =>
    have h1 := h C (List.mem_cons_self ..)
    have h2 := ih fun D hD => h D (List.mem_cons_of_mem _ hD)
    unfold drainL at h2 ⊢
    rw [List.flatMap_cons, List.length_append, List.length_cons]
    omega
theorem WOk.drain {w : World} {q : Nat} {F : Nat → Prop} {cl : List Cls} (h : WOk w q F cl) : (drainL cl).length ≤ 17408 ∧ cl.length ≤ 17 := by
  obtain ⟨D, dc, X, xc, L, lc, S, hq, _⟩ := h
  have := drain_le (cl := cl) fun C hC => by have := hq.ok C hC; omega
  have := hq.len
  omega
/-- The program's queue and the document's, in the same state. -/
structure Pair (w : World) (q d : Nat) (F G : Nat → Prop) (cl : List Cls) : Prop where
  q : QOk w q F cl
  d : WOk w d G cl
  dis : ∀ k, F k → ¬ G k
  small : Small cl
section
variable {w w' : World} {q d : Nat} {F G : Nat → Prop} {cl : List Cls}
theorem QOk.lt (h : QOk w q F cl) {k : Nat} (hk : F k) : k < w.heap.size := by
  obtain ⟨A, c, S, hq⟩ := h
  exact hq.lt k hk
theorem Pair.keep {X : Nat → Prop} (h : Pair w q d F G cl) (k : Keep X w w') (hF : ∀ j, F j → ¬ X j) (hG : ∀ j, G j → ¬ X j) : Pair w' q d F G cl := ⟨h.q.keep k hF, h.d.keep k hG, h.dis, h.small⟩
theorem Pair.ext (h : Pair w q d F G cl) (x : Ext w w') : Pair w' q d F G cl := h.keep x (fun _ _ h => h) fun _ _ h => h
/-- A call went over the two. -/
def PStep (w : World) (q d : Nat) (F G : Nat → Prop) (w' : World) : Prop := ∃ F' G' cl', Pair w' q d F' G' cl' ∧ Keep (fun k => F k ∨ G k) w w' ∧ (∀ k, F' k → F k ∨ w.heap.size ≤ k) ∧ ∀ k, G' k → G k ∨ w.heap.size ≤ k
theorem lent_bytes {w : World} {A : Option Addr} {n c : Nat} {xs : List Int} (h : OBytes w A c (xs ++ [201, 201, 201])) (hl : xs.length = n) : IBytes w A n xs := by
  have h3 : (xs ++ [201, 201, 201]).length = n + 3 := by simp [hl]
  refine ⟨hl, fun i x hx => (Own.rd h h3).2 i x ?_⟩
  rw [List.getElem?_append_left (List.getElem?_eq_some_iff.1 hx).1]
  exact hx
theorem told_spec {W : World} {a : AP} (h : Pair w q d F G cl) (hx : Ext W w) (hF : ∀ k, F k → W.heap.size ≤ k) (hG : ∀ k, G k → W.heap.size ≤ k) (hb : IBytes W a.p.A a.p.n a.p.xs) (hn : a.p.n ≤ 140737488351232) :
    Run Try.prog 13 #[.pointer (some ⟨q, 0, none⟩), .pointer (some ⟨d, 0, none⟩), .agg #[.int .i64 a.k, .int .i64 a.cl, .slice a.p.A a.p.n a.p.c]] w fun v w' => v = .bool true ∧ PStep w q d F G w' := by
  have hbl := hb.len
  obtain ⟨hdr, hcl⟩ := h.d.drain
  refine law21_told.ok (letA fun w1 h1 x1 s1 => ?_)
  have c0 : ∀ u : World, Ext w1 u → u.cell? (newA w) = some (.int .i64 a.k) := fun u xu => (cell_of (xu.heap h1)).trans rfl
  have c1 : ∀ u : World, u.heap[w.heap.size]? = w1.heap[w.heap.size]? → u.cell? ((newA w).add 1) = some (.int .i64 a.cl) := fun u hu => by rw [h1] at hu; rw [newA, add_mk]; exact (cell_of hu).trans rfl
  have c2 : ∀ u : World, u.heap[w.heap.size]? = w1.heap[w.heap.size]? → u.cell? ((newA w).add 2) = some (.slice a.p.A a.p.n a.p.c) := fun u hu => by rw [h1] at hu; rw [newA, add_mk]; exact (cell_of hu).trans rfl
  have p1 := h.ext x1
  have z1 := x1.size
  refine ⟨_, c0 w1 (Ext.refl _), ifP_beq.2 ⟨fun k0 => ?_, fun k0 => ifP_beq.2 ⟨fun k1 => ?_, fun k1 => ifP_beq.2 ⟨fun k2 => ?_, fun k2 => ifP_beq.2 ⟨fun k3 => ?_, fun k3 => ?_⟩⟩⟩⟩⟩
  · -- Take
    refine (take_spec p1.q).mono ?_
    rintro v w2 (⟨he, rfl, x2⟩ | ⟨i, x, cl2, A, n, c, F2, hf, rfl, ok2, o2, l2, K2, s2, d2⟩)
    · refine ⟨_, _, _, _, _, rfl, (rtake_spec (p1.ext x2).d).mono ?_⟩
      rintro v w3 (⟨_, rfl, x3⟩ | ⟨i, x, cl2, A, n, c, F2, hf, _⟩)
      · refine ⟨_, _, _, _, _, rfl, ifP_eq rfl (ifP_t rfl ((sameBytes_spec (xs := []) (ys := []) Rd.nil Rd.nil (by decide)).mono ?_))⟩
        rintro v w4 ⟨rfl, x4⟩
        refine ⟨_, rfl, (spoilBytes_spec (cs := []) Own.empty rfl (by decide)).mono ?_⟩
        rintro v w5 ⟨rfl, k5⟩
        have x5 : Ext w4 w5 := k5.mono fun k _ h => (blk_none h).elim
        have x05 := (((x1.trans x2).trans x3).trans x4).trans x5
        exact ⟨rfl, rfl, F, G, cl, h.ext x05, Keep.ext x05, fun k hk => .inl hk, fun k hk => .inl hk⟩
      · exact absurd hf he.no
    · have d2' : WOk w2 d G cl := p1.d.keep K2 fun k hk h2 => h.dis k h2 hk
      obtain ⟨sm, xl⟩ := hf.small h.small
      refine ⟨_, _, _, _, _, rfl, (rtake_spec d2').mono ?_⟩
      rintro v w3 (⟨he, _⟩ | ⟨j, y, cl3, A3, n3, c3, G3, hf3, rfl, ok3, o3, l3, K3, s3, d3⟩)
      · exact absurd hf he.no
      obtain ⟨rfl, rfl, rfl⟩ := hf.same hf3
      have dA : ∀ k, blk A k → F k ∧ ¬ F2 k := d2
      have dB : ∀ k, blk A3 k → G k ∧ ¬ G3 k := d3
      have oA := o2.keep K3 fun k hk h3 => h.dis k (dA k hk).1 h3
      refine ⟨_, _, _, _, _, rfl, ifP_eq rfl (ifP_t rfl ((sameBytes_spec (oA.rd l2) (o3.rd l3) (by omega)).mono ?_))⟩
      rintro v w4 ⟨rfl, x4⟩
      refine ⟨_, rfl, (spoilBytes_spec (oA.ext x4) (by rw [List.length_map]; exact l2) (by omega)).mono ?_⟩
      rintro v w5 ⟨rfl, k5⟩
      rw [decide_eq_true rfl]
      refine ⟨rfl, rfl, F2, G3, cl2, ⟨?_, ?_, fun k h1 h2 => h.dis k (s2 k h1) (s3 k h2), sm⟩, ?_, fun k hk => .inl (s2 k hk), fun k hk => .inl (s3 k hk)⟩
      · exact ((ok2.keep K3 fun k hk h3 => h.dis k (s2 k hk) h3).ext x4).keep k5 fun k hk hx => (dA k hx).2 hk
      · exact (ok3.ext x4).keep k5 fun k hk hx => h.dis k (dA k hx).1 (s3 k hk)
      · exact ((((Keep.ext x1).trans K2 (fun _ _ h => h) fun k _ h => .inl h).trans K3 (fun _ _ h => h) fun k _ h => .inr h).trans' (Keep.ext x4)).trans k5 (fun _ _ h => h) fun k _ hx => .inl (dA k hx).1
  · -- Drain
    refine (drain_spec p1.q (by omega)).mono ?_
    rintro v w2 ⟨A, n, c, ps, F2, rfl, f2, ok2, K2, s2, d2⟩
    have d2' : WOk w2 d G cl := p1.d.keep K2 fun k hk h2 => h.dis k h2 hk
    refine ⟨_, _, _, rfl, (rdrain_spec d2' (by omega)).mono ?_⟩
    rintro v w3 ⟨B, m, bc, qs, G3, rfl, f3, ok3, K3, s3, d3⟩
    have z2 := K2.size
    have gl : ∀ k, G k → k < w1.heap.size := fun k hk => p1.d.lt hk
    have f2' := f2.keep K3 fun k hk h3 => by
      rcases (d2 k hk).1 with h4 | h4
      · exact h.dis k h4 h3
      · have := gl k h3; omega
    have sl := h.small.drain
    have hlen2 := f2.length
    have hlen3 := f3.length
    refine ⟨_, _, _, rfl, (sameLists_spec f2'.lrd f3.lrd (by omega) (fun x hx => by have := sl x hx; omega)).mono ?_⟩
    rintro v w4 ⟨rfl, x4⟩
    refine ⟨_, rfl, (spoilLists_spec (f2'.ext x4) (by omega) (fun x hx => by have := sl x hx; omega)).mono ?_⟩
    rintro v w5 ⟨rfl, k5⟩
    rw [decide_eq_true rfl]
    refine ⟨rfl, rfl, F2, G3, bare cl, ⟨?_, ?_, fun k h1 h2 => h.dis k (s2 k h1) (s3 k h2), Small.bare cl⟩, ?_, fun k hk => .inl (s2 k hk), fun k hk => .inl (s3 k hk)⟩
    · exact ((ok2.keep K3 fun k hk h3 => h.dis k (s2 k hk) h3).ext x4).keep k5 fun k hk hx => (d2 k hx).2 hk
    · refine (ok3.ext x4).keep k5 fun k hk hx => ?_
      rcases (d2 k hx).1 with h4 | h4
      · exact h.dis k h4 (s3 k hk)
      · have := gl k (s3 k hk); omega
    · refine ((((Keep.ext x1).trans K2 (fun _ _ h => h) fun k _ h => .inl h).trans K3 (fun _ _ h => h) fun k _ h => .inr h).trans' (Keep.ext x4)).trans k5 (fun _ _ h => h) fun k hlt hx => ?_
      rcases (d2 k hx).1 with h4 | h4
      · exact .inl h4
      · omega
  · -- Lens
    refine (lens_spec p1.q).mono ?_
    rintro v w2 ⟨A, c, rfl, o2, l2, b2, x2⟩
    refine ⟨_, _, _, rfl, (lens_spec (p1.ext x2).q).mono ?_⟩
    rintro v w3 ⟨B, bc, rfl, o3, l3, b3, x3⟩
    refine ⟨_, _, _, rfl, (rlens_spec ((p1.ext x2).ext x3).d).mono ?_⟩
    rintro v w4 ⟨C, cc, rfl, o4, l4, b4, x4⟩
    refine ⟨_, _, _, rfl, (sameInts_spec (((o2.ext x3).ext x4).rd l2) (o4.rd l4) (by omega)).mono ?_⟩
    rintro v w5 ⟨rfl, x5⟩
    refine ⟨_, rfl, (spoilInts_spec (((o2.ext x3).ext x4).ext x5) (by rw [List.length_map]; exact l2) (by omega)).mono ?_⟩
    rintro v w6 ⟨rfl, k6⟩
    rw [decide_eq_true rfl]
    have x05 := (((x1.trans x2).trans x3).trans x4).trans x5
    have z2 := x2.size
    have x06 : Ext w w6 := x05.fresh k6 fun k hk => by have := b2 k hk; omega
    have o6 := ((o3.ext x4).ext x5).keep k6 fun k hk h6 => by have := b3 k hk; have := o2.lt k h6; omega
    refine ⟨rfl, ifP_t rfl ((rlens_spec (h.ext x06).d).mono ?_)⟩
    rintro v w7 ⟨E, ec, rfl, o7, l7, b7, x7⟩
    refine ⟨_, _, _, rfl, (sameInts_spec ((o6.ext x7).rd l3) (o7.rd l7) (by omega)).mono ?_⟩
    rintro v w8 ⟨rfl, x8⟩
    rw [decide_eq_true rfl]
    have x08 := (x06.trans x7).trans x8
    exact ⟨_, rfl, rfl, F, G, cl, h.ext x08, Keep.ext x08, fun k hk => .inl hk, fun k hk => .inl hk⟩
  · -- Dropped
    refine (dropped_spec p1.q).mono ?_
    rintro v w2 ⟨A, c, rfl, o2, l2, b2, x2⟩
    refine ⟨_, _, _, rfl, (dropped_spec (p1.ext x2).q).mono ?_⟩
    rintro v w3 ⟨B, bc, rfl, o3, l3, b3, x3⟩
    have x03 := (x1.trans x2).trans x3
    obtain ⟨D, dc, X, xc, L, lc, S, hq, _⟩ := (h.ext x03).d
    have hw : ∀ u : World, Ext w3 u → u.cell? ((Addr.mk d 0 none).add 2) = some (.slice L cl.length lc) ∧ IWords u L cl.length (lostOf cl) := fun u xu => by
      have := hq.keep (Keep.ext xu) fun _ _ h => h
      exact ⟨this.c2, this.lost.rd (by rw [List.length_map])⟩
    refine ⟨_, _, _, rfl, _, rfl, _, _, _, (hw w3 (Ext.refl _)).1, (sameWords_spec ((o2.ext x3).rd l2) (hw w3 (Ext.refl _)).2 (by omega)).mono ?_⟩
    rintro v w4 ⟨rfl, x4⟩
    refine ⟨_, rfl, (spoilWords_spec ((o2.ext x3).ext x4) (by rw [List.length_map]; exact l2) (by omega)).mono ?_⟩
    rintro v w5 ⟨rfl, k5⟩
    rw [decide_eq_true rfl]
    have z2 := x2.size
    have z3 := x3.size
    have x05 : Ext w w5 := (x03.trans x4).fresh k5 fun k hk => by have := b2 k hk; omega
    have o5 := (o3.ext x4).keep k5 fun k hk h5 => by have := b3 k hk; have := o2.lt k h5; omega
    obtain ⟨D', dc', X', xc', L', lc', S', hq', _⟩ := (h.ext x05).d
    refine ⟨rfl, ifP_t rfl ⟨_, rfl, _, _, _, hq'.c2, (sameWords_spec (o5.rd l3) (hq'.lost.rd (by rw [List.length_map])) (by omega)).mono ?_⟩⟩
    rintro v w6 ⟨rfl, x6⟩
    have x06 := x05.trans x6
    exact ⟨_, rfl, congrArg Value.bool (decide_eq_true rfl), F, G, cl, h.ext x06, Keep.ext x06, fun k hk => .inl hk, fun k hk => .inl hk⟩
  · -- Put
    have nbox : ∀ k, F k ∨ G k → k < w.heap.size := fun k hk => hk.elim (fun h1 => h.q.lt h1) fun h1 => h.d.lt h1
    refine ⟨_, _, _, c2 w1 rfl, (lendBytes_spec (hb.ext (hx.trans x1)) (by omega)).mono ?_⟩
    rintro v w2 ⟨P, Pc, rfl, o2, b2, x2⟩
    have z2 := x2.size
    have LP := o2.lt
    have e2 : w2.heap[w.heap.size]? = w1.heap[w.heap.size]? := (x2.heap h1).trans h1.symm
    have p2 := p1.ext x2
    refine ⟨_, _, _, rfl, _, c1 w2 e2, (qput_spec p2.q (lent_bytes o2 hbl) (by omega)).mono ?_⟩
    rintro v w3 ⟨rfl, F2, ok2, K2, n2⟩
    have x02 := hx.trans (x1.trans x2)
    have x03 : Ext W w3 := x02.fresh K2 hF
    have e3 : w3.heap[w.heap.size]? = w1.heap[w.heap.size]? := (K2.heap (x2.heap h1) fun h5 => by have := nbox _ (.inl h5); omega).trans h1.symm
    have d3 : WOk w3 d G cl := p2.d.keep K2 fun k hk h5 => h.dis k h5 hk
    refine ⟨_, _, rfl, _, c1 w3 e3, _, _, _, c2 w3 e3, (rput_spec d3 (hb.ext x03) hn).mono ?_⟩
    rintro v w4 ⟨rfl, G2, ok3, K3, n3⟩
    have x04 : Ext W w4 := x03.fresh K3 hG
    have z3 := K2.size
    have z4 := K3.size
    have e4 : w4.heap[w.heap.size]? = w1.heap[w.heap.size]? := (K3.heap (e3.trans h1) fun h5 => by have := nbox _ (.inr h5); omega).trans h1.symm
    have o4 := (o2.keep K2 fun k hk h5 => by have := b2 k hk; have := nbox k (.inl h5); omega).keep K3 fun k hk h5 => by have := b2 k hk; have := nbox k (.inr h5); omega
    refine ⟨_, _, rfl, _, _, _, c2 w4 e4, (keptBytes_spec o4 (hb.ext x04) (by omega)).mono ?_⟩
    rintro v w5 ⟨rfl, k5⟩
    refine ⟨_, rfl, ifP_t rfl (ifP_t (beq_self_eq_true _) ⟨by rw [beq_self_eq_true], ?_⟩)⟩
    obtain ⟨ok, e, cl', hp, _, _, hsm⟩ := putQ_some cl a.cl a.p.xs
    rw [hp] at ok2 ok3
    refine ⟨F2, G2, cl', ⟨?_, ?_, fun k h5 h6 => ?_, hsm h.small⟩, ?_, fun k hk => (n2 k hk).imp id fun h5 => by omega, fun k hk => (n3 k hk).imp id fun h5 => by omega⟩
    · refine (ok2.keep K3 fun k hk h5 => ?_).keep k5 fun k hk h5 => ?_
      · rcases n2 k hk with h6 | h6
        · exact h.dis k h6 h5
        · have := nbox k (.inr h5); omega
      · have := b2 k h5
        have := LP k h5
        rcases n2 k hk with h6 | h6
        · have := nbox k (.inl h6); omega
        · omega
    · refine ok3.keep k5 fun k hk h5 => ?_
      have := b2 k h5
      have := LP k h5
      rcases n3 k hk with h6 | h6
      · have := nbox k (.inr h6); omega
      · omega
    · rcases n3 k h6 with h7 | h7
      · rcases n2 k h5 with h8 | h8
        · exact h.dis k h8 h7
        · have := nbox k (.inr h7); omega
      · have := ok2.lt h5; omega
    · refine (((Keep.ext (x1.trans x2)).trans K2 (fun _ _ h => h) fun k _ h => .inl h).trans K3 (fun _ _ h => h) fun k _ h => .inr h).trans k5 (fun _ _ h => h) fun k hlt h5 => ?_
      have := b2 k h5
      omega
/-- Two pairs, one beside the other. -/
structure Duo (W w : World) (q d p v : Nat) (F G F2 G2 : Nat → Prop) (cl cl2 : List Cls) : Prop where
  a : Pair w q d F G cl
  b : Pair w p v F2 G2 cl2
  x : Ext W w
  na : ∀ k, F k ∨ G k → W.heap.size ≤ k
  nb : ∀ k, F2 k ∨ G2 k → W.heap.size ≤ k
  dis : ∀ k, F k ∨ G k → ¬ (F2 k ∨ G2 k)
theorem Pair.lt (h : Pair w q d F G cl) {k : Nat} (hk : F k ∨ G k) : k < w.heap.size := hk.elim (fun h1 => h.q.lt h1) fun h1 => h.d.lt h1
theorem Duo.swap {W : World} {p v : Nat} {F2 G2 : Nat → Prop} {cl2 : List Cls} (h : Duo W w q d p v F G F2 G2 cl cl2) : Duo W w p v q d F2 G2 F G cl2 cl := ⟨h.b, h.a, h.x, h.nb, h.na, fun k h1 h2 => h.dis k h2 h1⟩
theorem Duo.ext {W : World} {p v : Nat} {F2 G2 : Nat → Prop} {cl2 : List Cls} (h : Duo W w q d p v F G F2 G2 cl cl2) (x : Ext w w') : Duo W w' q d p v F G F2 G2 cl cl2 := ⟨h.a.ext x, h.b.ext x, h.x.trans x, h.na, h.nb, h.dis⟩
theorem Duo.told {W : World} {p v : Nat} {F2 G2 : Nat → Prop} {cl2 : List Cls} {a : AP} {R : Value → World → Prop} (h : Duo W w q d p v F G F2 G2 cl cl2) (hb : IBytes W a.p.A a.p.n a.p.xs) (hn : a.p.n ≤ 140737488351232)
    (hR : ∀ w' F' G' cl', Duo W w' q d p v F' G' F2 G2 cl' cl2 → R (.bool true) w') :
    Run Try.prog 13 #[.pointer (some ⟨q, 0, none⟩), .pointer (some ⟨d, 0, none⟩), .agg #[.int .i64 a.k, .int .i64 a.cl, .slice a.p.A a.p.n a.p.c]] w R := by
  refine (told_spec h.a h.x (fun k hk => h.na k (.inl hk)) (fun k hk => h.na k (.inr hk)) hb hn).mono ?_
  rintro u w1 ⟨rfl, F', G', cl', p1, K, s1, s2⟩
  have sub : ∀ k, F' k ∨ G' k → (F k ∨ G k) ∨ w.heap.size ≤ k := fun k hk => hk.elim (fun h1 => (s1 k h1).imp .inl id) fun h1 => (s2 k h1).imp .inr id
  refine hR w1 F' G' cl' ⟨p1, h.b.keep K (fun k hk h1 => h.dis k h1 (.inl hk)) fun k hk h1 => h.dis k h1 (.inr hk), h.x.fresh K h.na, fun k hk => ?_, h.nb, fun k hk h2 => ?_⟩
  · rcases sub k hk with h1 | h1
    · exact h.na k h1
    · have := h.x.size; omega
  · rcases sub k hk with h1 | h1
    · exact h.dis k h1 h2
    · have := h.b.lt h2; omega
end
section
variable {W : World} {D A : Option Addr} {n dc m ac : Nat} {ds : List Int} {acts : List AP}
theorem QueuePlays_main (h : IInts W D n ds) (hn : n * 8 ≤ 140737488351232) (ha : RdM AP.v W A m acts) (hm : m * 40 ≤ 140737488351232) (hi : ∀ a ∈ acts, AIn W a) :
    Run Try.prog 3 #[.slice D n dc, .slice A m ac] W (Good W) := by
  have hl := h.len
  have aw : ∀ {w : World} {J : Bool → World → Prop}, Fr W w → (∀ w', Fr W w' → J true w') → Run Try.prog 11 #[] w fun v w' => ∃ t : Bool, v = .bool t ∧ J t w' := by
    intro w J f hJ
    refine awake_spec.mono ?_
    rintro v w' ⟨rfl, x⟩
    exact ⟨_, rfl, hJ _ (f.ext x)⟩
  refine law21_QueuePlays.ok ((rnew_spec h).mono ?_)
  rintro v w1 (⟨hmay, d, G, rfl, okd, x1, fd⟩ | ⟨hmay, rfl, x1⟩)
  rotate_left
  · -- no queue
    refine ⟨_, _, rfl, (lendInts_spec (h.ext x1) hn).mono ?_⟩
    rintro v w2 ⟨L, lc, rfl, o2, b2, x2⟩
    have i2 : IInts w2 L n ds := by
      have h3 : (ds ++ [(-77), (-77), (-77)]).length = n + 3 := by simp [hl]
      refine ⟨hl, fun i x hx => (Own.rd o2 h3).2 i x ?_⟩
      rw [List.getElem?_append_left (List.getElem?_eq_some_iff.1 hx).1]
      exact hx
    refine ⟨_, _, _, rfl, (qnew_spec i2 (by omega)).mono ?_⟩
    rintro v w3 (⟨hm2, _⟩ | ⟨_, rfl, x3⟩)
    · exact absurd hm2 hmay
    have z1 := x1.size
    refine ⟨_, _, rfl, (keptInts_spec (o2.ext x3) (h.ext ((x1.trans x2).trans x3)) hn).mono ?_⟩
    rintro v w4 ⟨rfl, k4⟩
    have x04 : Ext W w4 := ((x1.trans x2).trans x3).fresh k4 fun k hk => by have := b2 k hk; omega
    refine ⟨_, rfl, ifP_f rfl (ifP_nne rfl (ifP_f rfl (ifP_ne (by decide) (aw (Fr.of_ext x04) fun w' f => ⟨rfl, f⟩))))⟩
  refine ⟨_, _, rfl, (lendInts_spec (h.ext x1) hn).mono ?_⟩
  rintro v w2 ⟨L, lc, rfl, o2, b2, x2⟩
  have i2 : IInts w2 L n ds := by
    have h3 : (ds ++ [(-77), (-77), (-77)]).length = n + 3 := by simp [hl]
    refine ⟨hl, fun i x hx => (Own.rd o2 h3).2 i x ?_⟩
    rw [List.getElem?_append_left (List.getElem?_eq_some_iff.1 hx).1]
    exact hx
  refine ⟨_, _, _, rfl, (qnew_spec i2 (by omega)).mono ?_⟩
  rintro v w3 (⟨_, q, F, rfl, okq, x3, fq⟩ | ⟨hm2, _⟩)
  rotate_left
  · exact absurd hmay hm2
  have z1 := x1.size
  have z2 := x2.size
  have x03 := (x1.trans x2).trans x3
  refine ⟨_, _, rfl, (keptInts_spec (o2.ext x3) (h.ext x03) hn).mono ?_⟩
  rintro v w4 ⟨rfl, k4⟩
  have L2 := o2.lt
  have x04 : Ext W w4 := x03.fresh k4 fun k hk => by have := b2 k hk; omega
  have okd1 := okd
  have okd4 : WOk w4 d G (ds.map fresh) := (okd.ext (x2.trans x3)).keep k4 fun k hk h5 => by have := okd1.lt hk; have := b2 k h5; omega
  have okq4 : QOk w4 q F (ds.map fresh) := okq.keep k4 fun k hk h5 => by have := fq k hk; have := L2 k h5; omega
  refine ⟨_, rfl, ifP_f rfl (ifP_nne rfl (ifP_f rfl (ifP_nne rfl ((copyInts_spec (h.ext x04) (by omega)).mono ?_))))⟩
  rintro v w5 ⟨B, bc, rfl, o5, l5, b5, x5⟩
  refine ⟨_, _, _, rfl, (qnew_spec (o5.rd l5) (by omega)).mono ?_⟩
  rintro v w6 (⟨_, p, F2, rfl, okp, x6, fp⟩ | ⟨hm2, _⟩)
  rotate_left
  · exact absurd hmay hm2
  have x06 := (x04.trans x5).trans x6
  refine ⟨_, _, rfl, (rnew_spec (h.ext x06)).mono ?_⟩
  rintro v w7 (⟨_, v7, G2, rfl, okv, x7, fv⟩ | ⟨hm2, _⟩)
  rotate_left
  · exact absurd hmay hm2
  have sm : Small (ds.map fresh) := fun C hC x hx => by
    obtain ⟨y, _, rfl⟩ := List.mem_map.1 hC
    cases hx
  have z4 := k4.size
  have z3 := x3.size
  have z5 := x5.size
  have z6 := x6.size
  have duo : Duo W w7 q d p v7 F G F2 G2 (ds.map fresh) (ds.map fresh) := by
    refine ⟨⟨((okq4.ext x5).ext x6).ext x7, ((okd4.ext x5).ext x6).ext x7, fun k h1 h2 => ?_, sm⟩, ⟨okp.ext x7, okv, fun k h1 h2 => ?_, sm⟩, x06.trans x7, fun k hk => ?_, fun k hk => ?_, fun k hk hk2 => ?_⟩
    · have := fq k h1; have := okd1.lt h2; omega
    · have := okp.lt h1; have := fv k h2; omega
    · rcases hk with hk | hk
      · have := fq k hk; omega
      · exact fd k hk
    · have zz := x04.size
      rcases hk with hk | hk
      · have := fp k hk; omega
      · have := fv k hk; omega
    · have h1 : k < w4.heap.size := hk.elim (fun h => okq4.lt h) fun h => okd4.lt h
      rcases hk2 with h2 | h2
      · have := fp k h2; omega
      · have := fv k h2; omega
  refine ⟨_, _, rfl, ifP_f rfl ?_⟩
  suffices H : ∀ (e i : Nat), m - i = e → i ≤ m → ∀ (w : World) (F G F2 G2 : Nat → Prop) (cl cl2 : List Cls), Duo W w q d p v7 F G F2 G2 cl cl2 → law21_QueuePlays.L0 (Good W) A m ac (some ⟨d, 0, none⟩) (some ⟨q, 0, none⟩) (some ⟨p, 0, none⟩) (some ⟨v7, 0, none⟩) (i : Int) w from H m 0 (by omega) (by omega) w7 F G F2 G2 _ _ duo
  have nilA : ∀ k : Int, ∃ a : AP, a = ⟨k, 0, ⟨none, 0, 0, []⟩⟩ := fun k => ⟨_, rfl⟩
  intro e
  induction e with
  | zero =>
    intro i he hi' w F G F2 G2 cl cl2 duo
    refine law21_QueuePlays.L0_step (ifP_no (by omega) ?_)
    refine duo.told (a := ⟨2, 0, ⟨none, 0, 0, []⟩⟩) Rd.nil (Nat.zero_le _) fun w8 F8 G8 cl8 duo8 => ⟨_, rfl, ifP_t rfl ?_⟩
    refine duo8.told (a := ⟨3, 0, ⟨none, 0, 0, []⟩⟩) Rd.nil (Nat.zero_le _) fun w9 F9 G9 cl9 duo9 => ⟨_, rfl, ifP_t rfl ?_⟩
    refine duo9.told (a := ⟨1, 0, ⟨none, 0, 0, []⟩⟩) Rd.nil (Nat.zero_le _) fun w10 F10 G10 cl10 duo10 => ⟨_, rfl, ifP_t rfl ?_⟩
    refine duo10.swap.told (a := ⟨1, 0, ⟨none, 0, 0, []⟩⟩) Rd.nil (Nat.zero_le _) fun w11 F11 G11 cl11 duo11 => ⟨_, rfl, ifP_t rfl ?_⟩
    exact aw (Fr.of_ext duo11.x) fun w' f => ⟨rfl, f⟩
  | succ e ih =>
    intro i he hi' w F G F2 G2 cl cl2 duo
    obtain ⟨t, a, ht, hai, _⟩ := RdM.at AP.len (by decide) ha (i := i) (by omega)
    have hin := hi a (List.mem_of_getElem? hai)
    have hti : Int.toNat ((i : Nat) : Int) = i := Int.toNat_natCast i
    have cells : ∀ u, Ext W u → u.cell? (t.add (i * 3)) = some (.int .i64 a.k) ∧ u.cell? ((t.add (i * 3)).add 1) = some (.int .i64 a.cl) ∧ u.cell? ((t.add (i * 3)).add 2) = some (.slice a.p.A a.p.n a.p.c) := fun u xu => by
      obtain ⟨t', a', ht', ha', hc⟩ := RdM.at AP.len (by decide) (RdM.ext ha xu) (i := i) (by omega)
      rw [ht] at ht'; rw [hai] at ha'
      obtain rfl := Option.some.inj ht'
      obtain rfl := Option.some.inj ha'
      have := hc 0 _ rfl
      rw [add_zero] at this
      exact ⟨this, hc 1 _ rfl, hc 2 _ rfl⟩
    have next : ∀ (w : World) (F G F2 G2 : Nat → Prop) (cl cl2 : List Cls), Duo W w q d p v7 F G F2 G2 cl cl2 → law21_QueuePlays.J1 (Good W) A m ac (some ⟨d, 0, none⟩) (some ⟨q, 0, none⟩) (some ⟨p, 0, none⟩) (some ⟨v7, 0, none⟩) (i : Int) false w := by
      intro w F G F2 G2 cl cl2 duo
      refine ifP_f rfl ?_
      rw [wrap_i64 (by omega) (by omega)]
      exact ih (i + 1) (by omega) (by omega) w F G F2 G2 cl cl2 duo
    obtain ⟨k1, k2, k3⟩ := cells w duo.x
    refine law21_QueuePlays.L0_step (ifP_yes (by omega) ⟨by omega, by omega, t, ht, ?_⟩)
    rw [hti]
    refine ⟨_, k1, _, k2, _, _, _, k3, duo.told hin.fr.rd hin.fr.size fun w8 F8 G8 cl8 duo8 => ⟨_, rfl, ifP_f rfl (ifP_beq.2 ⟨fun _ => ⟨by omega, by omega, t, ht, ?_⟩, fun _ => next _ _ _ _ _ _ _ duo8⟩)⟩⟩
    obtain ⟨k1, k2, k3⟩ := cells w8 duo8.x
    exact ⟨_, k1, _, k2, _, _, _, k3, duo8.swap.told hin.fr.rd hin.fr.size fun w9 F9 G9 cl9 duo9 => ⟨_, rfl, next _ _ _ _ _ _ _ duo9.swap⟩⟩
end
end Go.Proofs.Ythhfipjmjnfjlaa
