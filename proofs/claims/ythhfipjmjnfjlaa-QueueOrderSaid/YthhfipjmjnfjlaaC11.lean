/- The statement over the order in which a queue tells. -/
import Derived.Test.YthhfipjmjnfjlaaC10
namespace Go.Proofs.Ythhfipjmjnfjlaa
open Go.Rd Go.RowKit
set_option linter.unusedVariables false
set_option linter.unusedSimpArgs false

theorem slIntLists : SliceOf Try.prog 40 22 1 24 (.slice none 0 0) := ⟨by kernel_rfl, by kernel_rfl, rfl, by decide⟩

/-! ## Lists of numbers that wait -/

def wfp (A : Option Addr) (ps : List Part) (k : Nat) : Prop := blk A k ∨ ∃ p ∈ ps, blkC p.A p.c k
structure WOk (w : World) (A : Option Addr) (c : Nat) (ps : List Part) : Prop where
  own : Own 22 1 w A c (ps.map Part.v)
  part : ∀ p ∈ ps, OwnS 3 1 w p.A p.c (p.xs.map (Value.int .i64)) ∧ p.xs.length = p.n
  pair : ps.Pairwise (fun p q => ∀ k, blkC p.A p.c k → ¬ blkC q.A q.c k)
section
variable {w w' : World} {A : Option Addr} {c : Nat} {ps : List Part}
theorem WOk.keep {X : Nat → Prop} (h : WOk w A c ps) (hk : Keep X w w') (hs : ∀ k, wfp A ps k → ¬ X k) : WOk w' A c ps :=
  ⟨h.own.keep hk fun k h1 => hs k (.inl h1), fun p hp => ⟨(h.part p hp).1.keep hk fun k h1 => hs k (.inr ⟨p, hp, h1⟩), (h.part p hp).2⟩, h.pair⟩
theorem WOk.ext (h : WOk w A c ps) (hk : Ext w w') : WOk w' A c ps := h.keep hk fun _ _ h => h
theorem WOk.lt (h : WOk w A c ps) {k : Nat} (hk : wfp A ps k) : k < w.heap.size := by
  rcases hk with hk | ⟨p, hp, hk⟩
  · exact h.own.lt k hk
  · exact (h.part p hp).1.lt k hk
theorem WOk.sep (h : WOk w A c ps) {p : Part} (hp : p ∈ ps) {k : Nat} (hk : blkC p.A p.c k) : ¬ blk A k := fun hk2 => by
  obtain ⟨us, h1⟩ := OwnS.typ (h.part p hp).1 hk
  obtain ⟨vs, h2⟩ := Own.typ h.own hk2
  have := typ_ne h1 h2
  revert this
  decide
theorem WOk.cell (h : WOk w A c ps) {i : Nat} {p : Part} (hi : ps[i]? = some p) : ∃ a, A = some a ∧ w.cell? (a.add (i * 1)) = some p.v := by
  obtain ⟨a, ha, hc⟩ := h.own.cells i p.v (by rw [List.getElem?_map, hi]; rfl)
  exact ⟨a, ha, by rw [Nat.mul_one]; exact hc⟩
theorem pairwise_set {α : Type} {R : α → α → Prop} {l : List α} (hsym : ∀ a b, R a b → R b a) (h : l.Pairwise R) {i : Nat} {x y : α} (hi : l[i]? = some x) (hy : ∀ (j : Nat) (z : α), j ≠ i → l[j]? = some z → R y z) : (l.set i y).Pairwise R := by
  rw [List.pairwise_iff_getElem] at h ⊢
  intro a b ha hb hab
  have ha' : a < l.length := by rw [List.length_set] at ha; exact ha
  have hb' : b < l.length := by rw [List.length_set] at hb; exact hb
  by_cases h1 : a = i
  · subst h1
    rw [List.getElem_set_self, List.getElem_set_ne (by omega)]
    exact hy b _ (by omega) (List.getElem?_eq_getElem hb')
  · rw [List.getElem_set_ne (fun e => h1 e.symm)]
    by_cases h2 : b = i
    · subst h2
      rw [List.getElem_set_self]
      exact hsym _ _ (hy a _ h1 (List.getElem?_eq_getElem ha'))
    · rw [List.getElem_set_ne (fun e => h2 e.symm)]
      exact h a b ha' hb' hab
theorem WOk.other (h : WOk w A c ps) {i j : Nat} {p q : Part} (hi : ps[i]? = some p) (hj : ps[j]? = some q) (hij : j ≠ i) {k : Nat} (hp : blkC p.A p.c k) : ¬ blkC q.A q.c k := by
  have hw := List.pairwise_iff_getElem.1 h.pair
  obtain ⟨h1, e1⟩ := List.getElem?_eq_some_iff.1 hi
  obtain ⟨h2, e2⟩ := List.getElem?_eq_some_iff.1 hj
  by_cases hlt : i < j
  · have := hw i j h1 h2 hlt k (by rw [e1]; exact hp)
    rwa [e2] at this
  · intro hq
    exact hw j i h2 h1 (by omega) k (by rw [e2]; exact hq) (by rw [e1]; exact hp)
/-- One list is another one now, and that is written. -/
theorem WOk.upd {X : Nat → Prop} (h : WOk w A c ps) {i : Nat} {p p' : Part} (hi : ps[i]? = some p) (hk : Keep X w w') (hX : ∀ k, X k → blkC p.A p.c k) (ho : OwnS 3 1 w' p'.A p'.c (p'.xs.map (Value.int .i64))) (hl : p'.xs.length = p'.n)
    (hb : ∀ k, blkC p'.A p'.c k → blkC p.A p.c k ∨ w.heap.size ≤ k) {j : Int} (hj : j = i) {f : World → Prop} (hf : ∀ w'', WOk w'' A c (ps.set i p') → Keep (blk A) w' w'' → f w'') :
    ∃ a, A = some a ∧ (∃ u, w'.cell? (a.add (Int.toNat j * 1)) = some u) ∧ w'.frozen? (a.add (Int.toNat j * 1)) = false ∧ letW (w'.setCell (a.add (Int.toNat j * 1)) p'.v) f := by
  have hmem := List.mem_of_getElem? hi
  have hil := (List.getElem?_eq_some_iff.1 hi).1
  have own' : Own 22 1 w' A c (ps.map Part.v) := h.own.keep hk fun k hA hx => h.sep hmem (hX k hx) hA
  have blkp : ∀ k, blkC p'.A p'.c k → ¬ blk A k := fun k hk2 hA => by
    rcases hb k hk2 with h2 | h2
    · exact h.sep hmem h2 hA
    · have := h.own.lt k hA; omega
  refine own'.put1 hj (by rw [List.length_map]; exact hil) fun w'' o'' k'' _ => hf w'' ⟨by rw [List.map_set]; exact o'', fun q hq => ?_, ?_⟩ k''
  · rcases List.getElem?_of_mem hq with ⟨a, ha⟩
    by_cases hai : a = i
    · subst hai
      rw [List.getElem?_set_self hil] at ha
      obtain rfl := Option.some.inj ha
      exact ⟨ho.keep k'' blkp, hl⟩
    · rw [List.getElem?_set_ne (fun e => hai e.symm)] at ha
      obtain ⟨h1, h2⟩ := h.part q (List.mem_of_getElem? ha)
      exact ⟨(h1.keep hk fun k hq hx => h.other hi ha hai (hX k hx) hq).keep k'' fun k hq => h.sep (List.mem_of_getElem? ha) hq, h2⟩
  · refine pairwise_set (fun a b hab k h1 h2 => hab k h2 h1) h.pair hi fun a z haz hz k hk2 hzk => ?_
    rcases hb k hk2 with h2 | h2
    · exact h.other hi hz haz h2 hzk
    · have := (h.part z (List.mem_of_getElem? hz)).1.lt k hzk; omega
theorem wfp_set {i : Nat} {p p' : Part} (hi : ps[i]? = some p) {N : Nat} (hb : ∀ k, blkC p'.A p'.c k → blkC p.A p.c k ∨ N ≤ k) {k : Nat} (hk : wfp A (ps.set i p') k) : wfp A ps k ∨ N ≤ k := by
  rcases hk with hk | ⟨q, hq, hk⟩
  · exact .inl (.inl hk)
  · rcases List.mem_or_eq_of_mem_set hq with hq | rfl
    · exact .inl (.inr ⟨q, hq, hk⟩)
    · exact (hb k hk).elim (fun h => .inl (.inr ⟨p, List.mem_of_getElem? hi, h⟩)) .inr
end

/-! ## The queue against them -/

structure Cor (ds : List Int) (cl : List Cls) (ps : List Part) : Prop where
  len : cl.length = ps.length
  at_ : ∀ (j : Nat) (C : Cls) (p : Part), cl[j]? = some C → ps[j]? = some p → C.fr = p.xs.map (fun x => [x]) ∧ ds[j]? = some C.d ∧ (C.fr.length : Int) ≤ C.d ∧ ∀ x ∈ p.xs, 0 ≤ x ∧ x ≤ 255
structure Ord (ds : List Int) (W w : World) (q : Nat) (F : Nat → Prop) (cl : List Cls) (A : Option Addr) (c : Nat) (ps : List Part) : Prop where
  since : Since W w q F cl
  ok : WOk w A c ps
  cor : Cor ds cl ps
  new : ∀ k, wfp A ps k → W.heap.size ≤ k
  dis : ∀ k, wfp A ps k → ¬ F k
section
variable {W w : World} {ds : List Int} {q n c : Nat} {F : Nat → Prop} {cl : List Cls} {A : Option Addr} {ps : List Part}
theorem Ord.ext {w' : World} (h : Ord ds W w q F cl A c ps) (x : Ext w w') : Ord ds W w' q F cl A c ps := ⟨h.since.more x, h.ok.ext x, h.cor, h.new, h.dis⟩
theorem Cor.set {i : Nat} {C C' : Cls} {p p' : Part} (h : Cor ds cl ps) (hC : cl[i]? = some C) (hp : ps[i]? = some p) (h1 : C'.fr = p'.xs.map (fun x => [x])) (h2 : C'.d = C.d) (h3 : (C'.fr.length : Int) ≤ C'.d) (h4 : ∀ x ∈ p'.xs, 0 ≤ x ∧ x ≤ 255) : Cor ds (cl.set i C') (ps.set i p') := by
  refine ⟨by rw [List.length_set, List.length_set, h.len], fun j E q hE hq => ?_⟩
  by_cases hj : j = i
  · subst hj
    rw [List.getElem?_set_self (List.getElem?_eq_some_iff.1 hC).1] at hE
    rw [List.getElem?_set_self (List.getElem?_eq_some_iff.1 hp).1] at hq
    obtain rfl := Option.some.inj hE
    obtain rfl := Option.some.inj hq
    exact ⟨h1, by rw [h2]; exact (h.at_ j C p hC hp).2.1, h3, h4⟩
  · rw [List.getElem?_set_ne (fun e => hj e.symm)] at hE hq
    exact h.at_ j E q hE hq

theorem first_spec (h : Ord ds W w q F cl A c ps) (hn : ps.length = n) (h17 : n ≤ 17) :
    Run Try.prog 16 #[.pointer (some ⟨q, 0, none⟩), .slice A n c] w fun v w' => v = .bool true ∧ ∃ F' cl' ps', Ord ds W w' q F' cl' A c ps' ∧ ps'.length = n ∧ (drainL cl').length = (drainL cl).length - 1 := by
  have hcn : cl.length = n := h.cor.len.trans hn
  refine law21_first.ok ((take_spec h.since.ok).mono ?_)
  rintro v w1 (⟨he, rfl, x1⟩ | ⟨i, x, cl', A2, m, c2, F', hfi, rfl, ok1, o1, l1, k1, s1, d1⟩)
  · have h1 := h.ext x1
    refine ⟨_, _, _, _, _, rfl, ?_⟩
    have loop : ∀ d j : Nat, n - j = d → j ≤ n → law21_first.L0 (fun v w' => v = .bool true ∧ ∃ F' cl' ps', Ord ds W w' q F' cl' A c ps' ∧ ps'.length = n ∧ (drainL cl').length = (drainL cl).length - 1) A n c 0 none 0 0 false j w1 := by
      intro d
      induction d with
      | zero =>
        intro j hd hj
        exact law21_first.L0_step (ifP_no (by omega) (ifP_t rfl (ifP_t rfl ⟨rfl, F, cl, ps, h1, hn, by rw [he.drain.1]; rfl⟩)))
      | succ d ih =>
        intro j hd hj
        have hp : ps[j]? = some (ps[j]'(by omega)) := List.getElem?_eq_getElem _
        have hC : cl[j]? = some (cl[j]'(by omega)) := List.getElem?_eq_getElem _
        obtain ⟨a, ha, hc⟩ := h1.ok.cell hp
        have e0 := he j _ hC
        have e1 := (h1.cor.at_ j _ _ hC hp).1
        rw [e0] at e1
        have e2 := (h1.ok.part _ (List.mem_of_getElem? hp)).2
        have e3 : (ps[j]'(by omega)).n = 0 := by
          have := congrArg List.length e1
          rw [List.length_map] at this
          simp at this
          rw [← e2, ← this]
        refine law21_first.L0_step (ifP_yes (by omega) ⟨by omega, by omega, a, ha, _, _, _, by rw [Int.toNat_natCast]; exact hc, ifP_no (by rw [e3]; omega) ?_⟩)
        have hw : IntKind.i64.wrap ((j : Int) + 1) = ((j + 1 : Nat) : Int) := wrap_i64 (by omega) (by omega)
        rw [hw]
        exact ih (j + 1) (by omega) (by omega)
    exact loop n 0 rfl (by omega)
  · obtain ⟨C, fr, hC, hfr, hbef, hcl'⟩ := id hfi
    have hi : i < n := by rw [← hcn]; exact (List.getElem?_eq_some_iff.1 hC).1
    have S1 : Since W w1 q F' cl' := ⟨ok1, h.since.ext.fresh k1 h.since.new, fun k hk => h.since.new k (s1 k hk)⟩
    have K1 : WOk w1 A c ps := h.ok.keep k1 fun k hk hF => h.dis k hk hF
    have hp : ps[i]? = some (ps[i]'(by omega)) := List.getElem?_eq_getElem _
    generalize (ps[i]'(by omega)) = p at hp
    obtain ⟨e1, e2, e3, e4⟩ := h.cor.at_ i C p hC hp
    obtain ⟨po, pl⟩ := K1.part p (List.mem_of_getElem? hp)
    obtain ⟨y, ys, hxs⟩ : ∃ y ys, p.xs = y :: ys := by
      cases hx : p.xs with
      | nil => rw [hx, hfr] at e1; cases e1
      | cons y ys => exact ⟨y, ys, rfl⟩
    rw [hxs, hfr, List.map_cons] at e1
    obtain ⟨rfl, rfl⟩ := List.cons.inj e1
    refine ⟨_, _, _, _, _, rfl, ?_⟩
    have loop : ∀ d j : Nat, i - j = d → j ≤ i → law21_first.L0 (fun v w' => v = .bool true ∧ ∃ F' cl' ps', Ord ds W w' q F' cl' A c ps' ∧ ps'.length = n ∧ (drainL cl').length = (drainL cl).length - 1) A n c i A2 m c2 true j w1 := by
      intro d
      induction d with
      | zero =>
        intro j hd hj
        have : j = i := by omega
        subst this
        obtain ⟨a, ha, hc⟩ := K1.cell hp
        have hc' : w1.cell? (a.add (Int.toNat (j : Int) * 1)) = some p.v := by rw [Int.toNat_natCast]; exact hc
        have hpn : p.n = ys.length + 1 := by rw [← pl, hxs]; rfl
        rw [hxs, List.map_cons] at po
        have hple := po.le
        simp only [List.length_cons, List.length_map] at hple
        obtain ⟨ot, bt⟩ := po.tail
        obtain ⟨b, hb, hbc⟩ := po.cells 0 _ rfl
        refine law21_first.L0_step (ifP_yes (by omega) ⟨by omega, by omega, a, ha, p.A, p.n, p.c, hc', ifP_yes (by omega) ⟨by omega, by omega, a, ha, p.A, p.n, p.c, hc', by omega, by omega, b, hb, y, hbc, by omega, by omega, a, ha, p.A, p.n, p.c, hc', by omega, by omega, by omega, by omega, by omega, ?_⟩⟩)
        refine K1.upd (X := fun _ => False) (p' := ⟨subA p.A p.c 1 1, p.n - 1, p.c - 1, ys⟩) hp (Keep.refl w1) (fun _ h => h.elim) ot (by show ys.length = p.n - 1; omega) (fun k hk => .inl (bt k hk)) rfl fun w2 ok2 k2 => ?_
        have o2 := o1.keep k2 fun k hk hA => by
          have := (d1 k hk).1
          exact h.dis k (.inl hA) this
        have l1' : m = 1 := by rw [← l1]; rfl
        subst l1'
        have i2 : IBytes w2 A2 1 [y] := o2.rd rfl
        obtain ⟨z, hz, hzc⟩ := i2.2 0 y rfl
        have hy := e4 y (by rw [hxs]; exact List.mem_cons_self ..)
        refine ifP_t rfl (ifP_t (by simp) (ifP_t rfl ⟨by omega, by omega, z, hz, y, hzc, ?_⟩))
        rw [wrap_i64 (x := y) (by omega) (by omega)]
        have hd2 := hfi.drain
        refine ⟨by simp, F', cl', ps.set j ⟨subA p.A p.c 1 1, p.n - 1, p.c - 1, ys⟩, ?_, by rw [List.length_set]; exact hn, by rw [hd2.1]; rfl⟩
        refine ⟨S1.keepX k2 (fun k hF hA => h.dis k (.inl hA) (s1 k hF)) (fun k hA => h.new k (.inl hA)), ok2, ?_, fun k hk => ?_, fun k hk hF => ?_⟩
        · rw [hcl']
          refine h.cor.set hC hp rfl rfl ?_ fun x hx => e4 x (by rw [hxs]; exact List.mem_cons_of_mem _ hx)
          rw [hfr] at e3
          simp only [List.length_cons] at e3 ⊢
          omega
        · rcases wfp_set (N := w1.heap.size) hp (fun k hk => .inl (bt k hk)) hk with h2 | h2
          · exact h.new k h2
          · have := S1.ext.size; omega
        · rcases wfp_set (N := w1.heap.size) hp (fun k hk => .inl (bt k hk)) hk with h2 | h2
          · exact h.dis k h2 (s1 k hF)
          · have := S1.lt k hF; omega
      | succ d ih =>
        intro j hd hj
        have hpj : ps[j]? = some (ps[j]'(by omega)) := List.getElem?_eq_getElem _
        have hCj : cl[j]? = some (cl[j]'(by omega)) := List.getElem?_eq_getElem _
        obtain ⟨a, ha, hc⟩ := K1.cell hpj
        have e0 := hbef j _ (by omega) hCj
        have e1 := (h.cor.at_ j _ _ hCj hpj).1
        rw [e0] at e1
        have e2 := (K1.part _ (List.mem_of_getElem? hpj)).2
        have e3 : (ps[j]'(by omega)).n = 0 := by
          have := congrArg List.length e1
          rw [List.length_map] at this
          simp at this
          rw [← e2, ← this]
        refine law21_first.L0_step (ifP_yes (by omega) ⟨by omega, by omega, a, ha, _, _, _, by rw [Int.toNat_natCast]; exact hc, ifP_no (by rw [e3]; omega) ?_⟩)
        have hw : IntKind.i64.wrap ((j : Int) + 1) = ((j + 1 : Nat) : Int) := wrap_i64 (by omega) (by omega)
        rw [hw]
        exact ih (j + 1) (by omega) (by omega)
    exact loop i 0 rfl (by omega)
end
end Go.Proofs.Ythhfipjmjnfjlaa
