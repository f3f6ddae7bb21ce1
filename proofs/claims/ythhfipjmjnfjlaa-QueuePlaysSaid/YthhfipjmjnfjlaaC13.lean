/- The document's queue: its memory; New, Lens. -/
import Derived.Test.YthhfipjmjnfjlaaC10
namespace Go.Proofs.Ythhfipjmjnfjlaa
open Go.Rd Go.RowKit
set_option linter.unusedVariables false
set_option linter.unusedSimpArgs false
set_option maxRecDepth 100000

theorem slLL : SliceOf Try.prog 53 45 1 24 (.slice none 0 0) := ⟨by kernel_rfl, by kernel_rfl, rfl, by decide⟩
/-- Where a class's frames lie. -/
structure DSpot where
  A : Option Addr
  n : Nat
  c : Nat
  ps : List Part
def DSpot.v (s : DSpot) : Value := .slice s.A s.n s.c
def DSpot.fp (s : DSpot) (k : Nat) : Prop := ffp s.A s.c s.ps k
def wfp (q : Nat) (D X L : Option Addr) (S : List DSpot) (k : Nat) : Prop := k = q ∨ blk D k ∨ blk X k ∨ blk L k ∨ ∃ s ∈ S, s.fp k
structure WAt (w : World) (q : Nat) (cl : List Cls) (D : Option Addr) (dc : Nat) (X : Option Addr) (xc : Nat) (L : Option Addr) (lc : Nat) (S : List DSpot) : Prop where
  head : w.heap[q]? = some (.cells #[.slice D cl.length dc, .slice X cl.length xc, .slice L cl.length lc] 56 (0, 0))
  dep : OInts w D dc (cl.map (·.d))
  frs : Own 45 1 w X xc (S.map DSpot.v)
  lost : OWords w L lc (cl.map (·.lost))
  slen : S.length = cl.length
  each : ∀ (i : Nat) (s : DSpot) (C : Cls), S[i]? = some s → cl[i]? = some C → FOk w s.A s.n s.c s.ps C.fr
  sep : ∀ (i j : Nat) (s t : DSpot), S[i]? = some s → S[j]? = some t → i ≠ j → ∀ k, s.fp k → ¬ t.fp k
  ok : ∀ C ∈ cl, (1 ≤ C.d ∧ C.d ≤ 1024) ∧ (C.fr.length : Int) ≤ C.d ∧ 0 ≤ C.lost ∧ C.lost ≤ 4294967295
  len : cl.length ≤ 17
def WOk (w : World) (q : Nat) (F : Nat → Prop) (cl : List Cls) : Prop := ∃ D dc X xc L lc S, WAt w q cl D dc X xc L lc S ∧ F = wfp q D X L S
section
variable {w w' : World} {q : Nat} {F : Nat → Prop} {cl : List Cls} {D X L : Option Addr} {dc xc lc : Nat} {S : List DSpot}
theorem fok_typ {A : Option Addr} {n c : Nat} {ps : List Part} {fr : List (List Int)} (h : FOk w A n c ps fr) {k : Nat} (hk : ffp A c ps k) : (∃ vs, w.heap[k]? = some (.cells vs 35 (0, 0))) ∨ ∃ vs, w.heap[k]? = some (.cells vs 5 (0, 0)) := by
  rcases hk with hk | ⟨p, hp, hk⟩
  · exact .inl (OwnS.typ h.own hk)
  · exact .inr (Own.typ (h.part p hp).1 hk)
theorem WAt.spot (h : WAt w q cl D dc X xc L lc S) {s : DSpot} (hs : s ∈ S) : ∃ (i : Nat) (C : Cls), S[i]? = some s ∧ cl[i]? = some C ∧ FOk w s.A s.n s.c s.ps C.fr := by
  obtain ⟨i, hi⟩ := List.getElem?_of_mem hs
  have hlt := (List.getElem?_eq_some_iff.1 hi).1
  obtain ⟨C, hC⟩ : ∃ C, cl[i]? = some C := ⟨_, List.getElem?_eq_getElem (by rw [← h.slen]; exact hlt)⟩
  exact ⟨i, C, hi, hC, h.each i s C hi hC⟩
theorem WAt.lt (h : WAt w q cl D dc X xc L lc S) {k : Nat} (hk : wfp q D X L S k) : k < w.heap.size := by
  rcases hk with rfl | hk | hk | hk | ⟨s, hs, hk⟩
  · exact (Array.getElem?_eq_some_iff.1 h.head).1
  · exact h.dep.lt k hk
  · exact h.frs.lt k hk
  · exact h.lost.lt k hk
  · obtain ⟨i, C, _, _, f⟩ := h.spot hs
    exact f.lt hk
theorem WAt.keep {Y : Nat → Prop} (h : WAt w q cl D dc X xc L lc S) (k : Keep Y w w') (hs : ∀ k, wfp q D X L S k → ¬ Y k) : WAt w' q cl D dc X xc L lc S :=
  { head := k.heap h.head (hs q (.inl rfl)), dep := h.dep.keep k fun j hj => hs j (.inr (.inl hj)), frs := h.frs.keep k fun j hj => hs j (.inr (.inr (.inl hj))), lost := h.lost.keep k fun j hj => hs j (.inr (.inr (.inr (.inl hj)))), slen := h.slen,
    each := fun i s C h1 h2 => (h.each i s C h1 h2).keep k fun j hj => hs j (.inr (.inr (.inr (.inr ⟨s, List.mem_of_getElem? h1, hj⟩)))), sep := h.sep, ok := h.ok, len := h.len }
theorem WOk.keep {Y : Nat → Prop} (h : WOk w q F cl) (k : Keep Y w w') (hs : ∀ k, F k → ¬ Y k) : WOk w' q F cl := by
  obtain ⟨D, dc, X, xc, L, lc, S, h, rfl⟩ := h
  exact ⟨D, dc, X, xc, L, lc, S, h.keep k hs, rfl⟩
theorem WOk.ext (h : WOk w q F cl) (k : Ext w w') : WOk w' q F cl := h.keep k fun _ _ h => h
theorem WOk.lt (h : WOk w q F cl) {k : Nat} (hk : F k) : k < w.heap.size := by
  obtain ⟨D, dc, X, xc, L, lc, S, h, rfl⟩ := h
  exact h.lt hk
/-- Blocks of different types are not the same. -/
theorem WAt.nX (h : WAt w q cl D dc X xc L lc S) {k : Nat} (hk : blk X k) : k ≠ q ∧ ¬ blk D k ∧ ¬ blk L k ∧ ∀ s ∈ S, ¬ s.fp k := by
  obtain ⟨us, e⟩ := Own.typ h.frs hk
  refine ⟨fun h2 => ?_, fun h2 => ?_, fun h2 => ?_, fun s hs h2 => ?_⟩
  · have := typ_ne h.head (h2 ▸ e); revert this; decide
  · obtain ⟨vs, e2⟩ := Own.typ h.dep h2
    have := typ_ne e e2; revert this; decide
  · obtain ⟨vs, e2⟩ := Own.typ h.lost h2
    have := typ_ne e e2; revert this; decide
  · obtain ⟨i, C, _, _, f⟩ := h.spot hs
    rcases fok_typ f h2 with ⟨vs, e2⟩ | ⟨vs, e2⟩
    · have := typ_ne e e2; revert this; decide
    · have := typ_ne e e2; revert this; decide
theorem WAt.nL (h : WAt w q cl D dc X xc L lc S) {k : Nat} (hk : blk L k) : k ≠ q ∧ ¬ blk D k ∧ ¬ blk X k ∧ ∀ s ∈ S, ¬ s.fp k := by
  obtain ⟨us, e⟩ := Own.typ h.lost hk
  refine ⟨fun h2 => ?_, fun h2 => ?_, fun h2 => (h.nX h2).2.2.1 hk, fun s hs h2 => ?_⟩
  · have := typ_ne h.head (h2 ▸ e); revert this; decide
  · obtain ⟨vs, e2⟩ := Own.typ h.dep h2
    have := typ_ne e e2; revert this; decide
  · obtain ⟨i, C, _, _, f⟩ := h.spot hs
    rcases fok_typ f h2 with ⟨vs, e2⟩ | ⟨vs, e2⟩
    · have := typ_ne e e2; revert this; decide
    · have := typ_ne e e2; revert this; decide
theorem WAt.nS (h : WAt w q cl D dc X xc L lc S) {s : DSpot} (hs : s ∈ S) {k : Nat} (hk : s.fp k) : k ≠ q ∧ ¬ blk D k ∧ ¬ blk X k ∧ ¬ blk L k := by
  obtain ⟨i, C, _, _, f⟩ := h.spot hs
  refine ⟨fun h2 => ?_, fun h2 => ?_, fun h2 => (h.nX h2).2.2.2 s hs hk, fun h2 => (h.nL h2).2.2.2 s hs hk⟩
  · subst h2
    rcases fok_typ f hk with ⟨vs, e2⟩ | ⟨vs, e2⟩
    · have := typ_ne h.head e2; revert this; decide
    · have := typ_ne h.head e2; revert this; decide
  · obtain ⟨us, e⟩ := Own.typ h.dep h2
    rcases fok_typ f hk with ⟨vs, e2⟩ | ⟨vs, e2⟩
    · have := typ_ne e e2; revert this; decide
    · have := typ_ne e e2; revert this; decide
theorem WAt.at_ (h : WAt w q cl D dc X xc L lc S) {i : Nat} (hi : i < cl.length) : ∃ s C, S[i]? = some s ∧ cl[i]? = some C ∧ FOk w s.A s.n s.c s.ps C.fr ∧ s.n = C.fr.length ∧ (∃ a, X = some a ∧ w.cell? (a.add (i * 1)) = some (.slice s.A s.n s.c)) ∧ (∃ a, D = some a ∧ w.cell? (a.add (i * 1)) = some (.int .i64 C.d)) ∧ ∃ a, L = some a ∧ w.cell? (a.add (i * 1)) = some (.int .u32 C.lost) := by
  obtain ⟨s, hs⟩ : ∃ s, S[i]? = some s := ⟨_, List.getElem?_eq_getElem (by rw [h.slen]; exact hi)⟩
  obtain ⟨C, hC⟩ : ∃ C, cl[i]? = some C := ⟨_, List.getElem?_eq_getElem hi⟩
  have f := h.each i s C hs hC
  have rx : Rd DSpot.v w X cl.length S := h.frs.rd h.slen
  have rd : Rd (Value.int .i64) w D cl.length (cl.map (·.d)) := h.dep.rd (by rw [List.length_map])
  have rl : Rd (Value.int .u32) w L cl.length (cl.map (·.lost)) := h.lost.rd (by rw [List.length_map])
  exact ⟨s, C, hs, hC, f, f.length.symm, rx.2 i s hs, rd.2 i _ (by rw [List.getElem?_map, hC]; rfl), rl.2 i _ (by rw [List.getElem?_map, hC]; rfl)⟩
/-- A class's frames are others now. -/
theorem WAt.upd {i : Nat} {s s' : DSpot} {C C' : Cls} (h : WAt w q cl D dc X xc L lc S) (hs : S[i]? = some s) (hC : cl[i]? = some C) (k : Keep (fun j => s.fp j ∨ blk X j) w w') (ho : Own 45 1 w' X xc ((S.map DSpot.v).set i s'.v))
    (hf : FOk w' s'.A s'.n s'.c s'.ps C'.fr) (hn : ∀ j, s'.fp j → s.fp j ∨ w.heap.size ≤ j) (hd : C'.d = C.d) (hl : C'.lost = C.lost) (hr : (C'.fr.length : Int) ≤ C'.d) : WAt w' q (cl.set i C') D dc X xc L lc (S.set i s') := by
  have hil : i < S.length := (List.getElem?_eq_some_iff.1 hs).1
  have hic : i < cl.length := (List.getElem?_eq_some_iff.1 hC).1
  have hsm := List.mem_of_getElem? hs
  have at' : ∀ j t, (S.set i s')[j]? = some t → (j = i ∧ t = s') ∨ (j ≠ i ∧ S[j]? = some t) := by
    intro j t ht
    by_cases hj : j = i
    · subst hj
      rw [List.getElem?_set_self hil] at ht
      exact .inl ⟨rfl, (Option.some.inj ht).symm⟩
    · rw [List.getElem?_set_ne (fun e => hj e.symm)] at ht
      exact .inr ⟨hj, ht⟩
  have md : (cl.set i C').map (·.d) = cl.map (·.d) := by
    refine List.ext_getElem? fun j => ?_
    rw [List.getElem?_map, List.getElem?_map]
    by_cases hj : j = i
    · subst hj
      rw [List.getElem?_set_self hic, hC]
      exact congrArg some hd
    · rw [List.getElem?_set_ne (fun e => hj e.symm)]
  have ml : (cl.set i C').map (·.lost) = cl.map (·.lost) := by
    refine List.ext_getElem? fun j => ?_
    rw [List.getElem?_map, List.getElem?_map]
    by_cases hj : j = i
    · subst hj
      rw [List.getElem?_set_self hic, hC]
      exact congrArg some hl
    · rw [List.getElem?_set_ne (fun e => hj e.symm)]
  refine { head := ?_, dep := ?_, frs := ?_, lost := ?_, slen := ?_, each := ?_, sep := ?_, ok := ?_, len := ?_ }
  · rw [List.length_set]
    exact k.heap h.head fun hx => hx.elim (fun h1 => (h.nS hsm h1).1 rfl) fun h1 => (h.nX h1).1 rfl
  · rw [md]
    exact h.dep.keep k fun j hj hx => hx.elim (fun h1 => (h.nS hsm h1).2.1 hj) fun h1 => (h.nX h1).2.1 hj
  · rw [List.map_set]
    exact ho
  · rw [ml]
    exact h.lost.keep k fun j hj hx => hx.elim (fun h1 => (h.nS hsm h1).2.2.2 hj) fun h1 => (h.nX h1).2.2.1 hj
  · rw [List.length_set, List.length_set]
    exact h.slen
  · intro j t C2 ht hC2
    rcases at' j t ht with ⟨rfl, rfl⟩ | ⟨hj, ht⟩
    · rw [List.getElem?_set_self hic] at hC2
      obtain rfl := Option.some.inj hC2
      exact hf
    · rw [List.getElem?_set_ne (fun e => hj e.symm)] at hC2
      exact (h.each j t C2 ht hC2).keep k fun l hl hx => hx.elim (fun h1 => h.sep j i t s ht hs hj l hl h1) fun h1 => (h.nX h1).2.2.2 t (List.mem_of_getElem? ht) hl
  · intro j1 j2 t1 t2 h1 h2 hne l l1 l2
    have old : ∀ j t, S[j]? = some t → j ≠ i → ∀ l, s'.fp l → ¬ t.fp l := by
      intro j t ht hj l h3 h4
      rcases hn l h3 with h5 | h5
      · exact h.sep j i t s ht hs hj l h4 h5
      · have := h.lt (k := l) (.inr (.inr (.inr (.inr ⟨t, List.mem_of_getElem? ht, h4⟩)))); omega
    rcases at' j1 t1 h1 with ⟨e1, rfl⟩ | ⟨hj1, g1⟩
    · rcases at' j2 t2 h2 with ⟨e2, _⟩ | ⟨hj2, g2⟩
      · exact hne (e1.trans e2.symm)
      · exact old j2 t2 g2 hj2 l l1 l2
    · rcases at' j2 t2 h2 with ⟨_, rfl⟩ | ⟨hj2, g2⟩
      · exact old j1 t1 g1 hj1 l l2 l1
      · exact h.sep j1 j2 t1 t2 g1 g2 hne l l1 l2
  · intro C2 hC2
    rcases List.mem_or_eq_of_mem_set hC2 with h2 | rfl
    · exact h.ok C2 h2
    · have := h.ok C (List.mem_of_getElem? hC)
      rw [hl, hd] at *
      exact ⟨this.1, hr, this.2.2⟩
  · rw [List.length_set]
    exact h.len
/-! ## New -/

theorem mkF {n : Nat} (hn : n ≤ 17) {φ : Value → World → Prop}
    (hφ : ∀ X w', Own 45 1 w' X n ((List.replicate n (⟨none, 0, 0, []⟩ : DSpot)).map DSpot.v) → (∀ k, blk X k → w.heap.size ≤ k) → Ext w w' → φ (.slice X n n) w') :
    ∃ (v : Value) (w' : World), (Instr.makeSlice 53 (.int .i64 ((n : Nat) : Int)) (.int .i64 ((n : Nat) : Int))).run Try.prog w = .ok v w' ∧ φ v w' := by
  obtain ⟨w', hr, o, x, _⟩ := make_full slLL rfl (w := w) (c := (n : Int)) (by omega) (by omega) (by omega)
  refine ⟨_, w', hr, hφ _ _ ?_ (fun k hk => by rw [blk_some.1 hk]; exact Nat.le_refl _) x⟩
  have e : List.replicate (n : Int).toNat (Value.slice none 0 0) = (List.replicate n (⟨none, 0, 0, []⟩ : DSpot)).map DSpot.v := by simp [DSpot.v]
  rw [e] at o
  exact o
theorem mkL {n : Nat} (hn : n ≤ 17) {φ : Value → World → Prop}
    (hφ : ∀ X w', OWords w' X n (List.replicate n 0) → (∀ k, blk X k → w.heap.size ≤ k) → Ext w w' → φ (.slice X n n) w') :
    ∃ (v : Value) (w' : World), (Instr.makeSlice 54 (.int .i64 ((n : Nat) : Int)) (.int .i64 ((n : Nat) : Int))).run Try.prog w = .ok v w' ∧ φ v w' := by
  obtain ⟨w', hr, o, x, _⟩ := make_full slWords rfl (w := w) (c := (n : Int)) (by omega) (by omega) (by omega)
  refine ⟨_, w', hr, hφ _ _ ?_ (fun k hk => by rw [blk_some.1 hk]; exact Nat.le_refl _) x⟩
  have e : List.replicate (n : Int).toNat (Value.int .u32 0) = (List.replicate n (0 : Int)).map (Value.int .u32) := by simp
  rw [e] at o
  exact o
theorem mkD {b : Nat} {A : Option Addr} {n c : Nat} {ds : List Int} (h : IInts w A n ds) (hn : n ≤ 17) (hb : w.heap[b]? = some (.cells #[] 3 (0, 0))) {φ : Value → World → Prop}
    (hφ : ∀ D dc w', OInts w' D dc ds → (∀ k, blk D k → k = b ∨ w.heap.size ≤ k) → Keep (· = b) w w' → φ (.slice D n dc) w') :
    ∃ (v : Value) (w' : World), (Builtin.append_ #[22, 22] 22 #[.slice (some ⟨b, 0, none⟩) 0 0, .slice A n c]).run Try.prog w = .ok v w' ∧ φ v w' := by
  have hO : Own 3 1 w (some ⟨b, 0, none⟩) 0 [] := .inr ⟨_, [], rfl, hb, rfl⟩
  obtain ⟨A', c', w2, hr, hO', hc', hk, hbb⟩ := append_own slInts (ty := 22) (n := 0) (d := c) hO rfl (Rd.cells h) (m := n) (by rw [List.length_map, h.len, Nat.mul_one]) (cellsInts ds) (by omega) (by omega)
  rw [Nat.zero_add] at hr
  exact ⟨_, w2, hr, hφ _ _ _ (by simpa using hO') (fun k hk' => (hbb k hk').imp blk_some.1 id) (hk.mono fun k _ h => blk_some.1 h)⟩
theorem rnew_fin {W w : World} {n : Nat} {ds : List Int} (hn : ds.length = n) (hm : may ds) {D X L : Option Addr} {dc : Nat} (oD : OInts w D dc ds) (oX : Own 45 1 w X n ((List.replicate n (⟨none, 0, 0, []⟩ : DSpot)).map DSpot.v)) (oL : OWords w L n (List.replicate n 0)) (x : Ext W w)
    (nD : ∀ k, blk D k → W.heap.size ≤ k) (nX : ∀ k, blk X k → W.heap.size ≤ k) (nL : ∀ k, blk L k → W.heap.size ≤ k) {w' : World} (hw : w'.heap[w.heap.size]? = some (.cells #[.slice D n dc, .slice X n n, .slice L n n] 56 (0, 0))) (x' : Ext w w') :
    NewOf W ds WOk (.tuple #[.pointer (some (newA w)), .int .i64 0]) w' := by
  have hlen : (ds.map fresh).length = n := by rw [List.length_map]; exact hn
  refine .inl ⟨hm, w.heap.size, wfp w.heap.size D X L (List.replicate n ⟨none, 0, 0, []⟩), rfl, ⟨D, dc, X, n, L, n, List.replicate n ⟨none, 0, 0, []⟩, ?_, rfl⟩, x.trans x', ?_⟩
  · have empty : ∀ s ∈ List.replicate n (⟨none, 0, 0, []⟩ : DSpot), s = ⟨none, 0, 0, []⟩ := fun s hs => (List.mem_replicate.1 hs).2
    refine { head := by rw [hlen]; exact hw, dep := ?_, frs := oX.ext x', lost := ?_, slen := by rw [hlen, List.length_replicate], each := ?_, sep := ?_, ok := ?_, len := by rw [hlen]; have := hm.2.1; omega }
    · have e : (ds.map fresh).map (·.d) = ds := by simp [List.map_map, Function.comp_def, fresh]
      rw [e]
      exact oD.ext x'
    · have e : (ds.map fresh).map (·.lost) = List.replicate n 0 := by
        simp only [List.map_map, Function.comp_def, fresh, ← hn]
        exact List.map_const'
      rw [e]
      exact oL.ext x'
    · intro i s C hs hC
      rw [empty s (List.mem_of_getElem? hs)]
      obtain ⟨d, _, rfl⟩ := List.mem_map.1 (List.mem_of_getElem? hC)
      exact FOk.nil
    · intro i j s t hs ht hne k hk
      rw [empty s (List.mem_of_getElem? hs)] at hk
      rcases hk with hk | ⟨p, hp, _⟩
      · exact absurd hk.1 (Nat.lt_irrefl 0)
      · cases hp
    · intro C hC
      obtain ⟨d, hd, rfl⟩ := List.mem_map.1 hC
      have := hm.2.2 d hd
      refine ⟨this, ?_, ?_⟩
      · show ((0 : Nat) : Int) ≤ d
        omega
      · show (0 : Int) ≤ 0 ∧ (0 : Int) ≤ 4294967295
        omega
  · have := x.size
    rintro k (rfl | hk | hk | hk | ⟨s, hs, hk⟩)
    · omega
    · exact nD k hk
    · exact nX k hk
    · exact nL k hk
    · rw [(List.mem_replicate.1 hs).2] at hk
      rcases hk with hk | ⟨p, hp, _⟩
      · exact absurd hk.1 (Nat.lt_irrefl 0)
      · cases hp
end
end Go.Proofs.Ythhfipjmjnfjlaa
