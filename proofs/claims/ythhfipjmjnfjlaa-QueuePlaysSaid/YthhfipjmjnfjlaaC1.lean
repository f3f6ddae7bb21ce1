/- Package queue: its memory, and what each call computes. -/
import Derived.Test.YthhfipjmjnfjlaaFrames
import Derived.Test.YthhfipjmjnfjlaaWJoin2
import Derived.Test.YthhfipjmjnfjlaaWSum
import Derived.Test.YthhfipjmjnfjlaaHInts
namespace Go.Proofs.Ythhfipjmjnfjlaa
open Go.Rd Go.RowKit
set_option linter.unusedVariables false
set_option linter.unusedSimpArgs false

/-- A class: its depth, how many were lost, the frames that wait. -/
structure Cls where
  d : Int
  lost : Int
  fr : List (List Int)
/-- Where a class lies. -/
structure Spot where
  b : Nat
  A : Option Addr
  c : Nat
  ps : List Part
def Spot.fp (s : Spot) (k : Nat) : Prop := k = s.b ∨ ffp s.A s.c s.ps k

structure SpotOk (w : World) (s : Spot) (C : Cls) : Prop where
  cell : w.heap[s.b]? = some (.cells #[.int .u32 C.lost, .int .i64 C.d, .slice s.A C.fr.length s.c] 65 (0, 0))
  frs : FOk w s.A C.fr.length s.c s.ps C.fr
  lost : 0 ≤ C.lost ∧ C.lost ≤ 4294967295
  d : 1 ≤ C.d ∧ C.d ≤ 1024
  room : (C.fr.length : Int) ≤ C.d

theorem SpotOk.not_frames {w : World} {s : Spot} {C : Cls} (h : SpotOk w s C) : ¬ ffp s.A s.c s.ps s.b := by
  rintro (hk | ⟨p, hp, hk⟩)
  · obtain ⟨us, h1⟩ := OwnS.typ h.frs.own hk
    have := typ_ne h.cell h1
    revert this; decide
  · obtain ⟨us, h1⟩ := Own.typ (h.frs.part p hp).1 hk
    have := typ_ne h.cell h1
    revert this; decide
theorem SpotOk.lt {w : World} {s : Spot} {C : Cls} (h : SpotOk w s C) {k : Nat} (hk : s.fp k) : k < w.heap.size := by
  rcases hk with rfl | hk
  · exact (Array.getElem?_eq_some_iff.1 h.cell).1
  · exact h.frs.lt hk
theorem SpotOk.keep {X : Nat → Prop} {w w' : World} {s : Spot} {C : Cls} (h : SpotOk w s C) (hk : Keep X w w') (hs : ∀ k, s.fp k → ¬ X k) : SpotOk w' s C :=
  ⟨hk.heap h.cell (hs _ (.inl rfl)), h.frs.keep hk fun k h1 => hs k (.inr h1), h.lost, h.d, h.room⟩

def ptr (s : Spot) : Value := .pointer (some ⟨s.b, 0, none⟩)

/-- A queue of the program: where it lies, the blocks that are its own, its classes. -/
structure QAt (w : World) (q : Nat) (F : Nat → Prop) (cl : List Cls) (A : Option Addr) (c : Nat) (S : List Spot) : Prop where
  head : w.heap[q]? = some (.cells #[.slice A cl.length c] 59 (0, 0))
  rd : Rd ptr w A cl.length S
  each : ∀ (i : Nat) (s : Spot) (C : Cls), S[i]? = some s → cl[i]? = some C → SpotOk w s C
  sep : ∀ (i j : Nat) (s t : Spot), S[i]? = some s → S[j]? = some t → i ≠ j → ∀ k, s.fp k → ¬ t.fp k
  fq : F q
  fA : ∀ k, blk A k → F k
  fS : ∀ s ∈ S, ∀ k, s.fp k → F k
  lt : ∀ k, F k → k < w.heap.size
  nq : ∀ s ∈ S, ¬ s.fp q
  nA : ∀ s ∈ S, ∀ k, blk A k → ¬ s.fp k
  len : cl.length ≤ 17
def QOk (w : World) (q : Nat) (F : Nat → Prop) (cl : List Cls) : Prop := ∃ A c S, QAt w q F cl A c S

section
variable {w w' : World} {q : Nat} {F : Nat → Prop} {cl : List Cls} {A : Option Addr} {c : Nat} {S : List Spot}
theorem QAt.keep {X : Nat → Prop} (h : QAt w q F cl A c S) (hk : Keep X w w') (hs : ∀ k, F k → ¬ X k) : QAt w' q F cl A c S :=
  { head := hk.heap h.head (hs _ h.fq), rd := h.rd.keep hk fun a ha hx => hs _ (h.fA _ ⟨a, ha, rfl⟩) hx, each := fun i s C h1 h2 => (h.each i s C h1 h2).keep hk fun k h3 => hs k (h.fS s (List.mem_of_getElem? h1) k h3),
    sep := h.sep, fq := h.fq, fA := h.fA, fS := h.fS, lt := fun k h1 => Nat.lt_of_lt_of_le (h.lt k h1) hk.size, nq := h.nq, nA := h.nA, len := h.len }
theorem QOk.keep {X : Nat → Prop} (h : QOk w q F cl) (hk : Keep X w w') (hs : ∀ k, F k → ¬ X k) : QOk w' q F cl := by
  obtain ⟨A, c, S, h⟩ := h
  exact ⟨A, c, S, h.keep hk hs⟩
theorem QOk.ext (h : QOk w q F cl) (hk : Ext w w') : QOk w' q F cl := h.keep hk fun _ _ h => h

/-- One class is another one now. -/
theorem QAt.upd {X : Nat → Prop} {i : Nat} {s s' : Spot} {C C' : Cls} (h : QAt w q F cl A c S) (hs : S[i]? = some s) (hC : cl[i]? = some C) (hb : s'.b = s.b) (hk : Keep X w w') (hX : ∀ k, X k → s.fp k) (h' : SpotOk w' s' C')
    (hf : ∀ k, s'.fp k → s.fp k ∨ w.heap.size ≤ k) : QAt w' q (fun k => (F k ∧ ¬ s.fp k) ∨ s'.fp k) (cl.set i C') A c (S.set i s') := by
  have hil : i < S.length := (List.getElem?_eq_some_iff.1 hs).1
  have hic : i < cl.length := (List.getElem?_eq_some_iff.1 hC).1
  have hsm := List.mem_of_getElem? hs
  have other : ∀ j t, S[j]? = some t → j ≠ i → ∀ k, s'.fp k → ¬ t.fp k := by
    intro j t ht hj k h1 h2
    rcases hf k h1 with h3 | h3
    · exact h.sep i j s t hs ht (fun e => hj e.symm) k h3 h2
    · have := h.lt k (h.fS t (List.mem_of_getElem? ht) k h2); omega
  have at' : ∀ j t, (S.set i s')[j]? = some t → (j = i ∧ t = s') ∨ (j ≠ i ∧ S[j]? = some t) := by
    intro j t ht
    by_cases hj : j = i
    · subst hj
      rw [List.getElem?_set_self hil] at ht
      exact .inl ⟨rfl, (Option.some.inj ht).symm⟩
    · rw [List.getElem?_set_ne (fun e => hj e.symm)] at ht
      exact .inr ⟨hj, ht⟩
  have mem' : ∀ t ∈ S.set i s', t = s' ∨ ∃ j, j ≠ i ∧ S[j]? = some t := by
    intro t ht
    obtain ⟨j, hj⟩ := List.getElem?_of_mem ht
    rcases at' j t hj with ⟨_, h⟩ | ⟨h1, h2⟩
    · exact .inl h
    · exact .inr ⟨j, h1, h2⟩
  have hq' : ¬ s'.fp q := fun h1 => (hf q h1).elim (h.nq s hsm) fun h2 => by have := h.lt q h.fq; omega
  have hA' : ∀ k, blk A k → ¬ s'.fp k := fun k hk h1 => (hf k h1).elim (h.nA s hsm k hk) fun h2 => by have := h.lt k (h.fA k hk); omega
  refine { head := ?_, rd := ?_, each := ?_, sep := ?_, fq := .inl ⟨h.fq, h.nq s hsm⟩, fA := fun k hk => .inl ⟨h.fA k hk, h.nA s hsm k hk⟩, fS := ?_, lt := ?_, nq := ?_, nA := ?_, len := by rw [List.length_set]; exact h.len }
  · rw [List.length_set]
    exact hk.heap h.head fun hx => h.nq s hsm (hX q hx)
  · rw [List.length_set]
    have r := h.rd.keep hk fun a ha hx => h.nA s hsm _ ⟨a, ha, rfl⟩ (hX _ hx)
    refine ⟨by rw [List.length_set]; exact r.1, fun j t ht => ?_⟩
    rcases at' j t ht with ⟨rfl, rfl⟩ | ⟨_, ht⟩
    · have := r.2 j s hs
      unfold ptr at this ⊢
      rwa [hb]
    · exact r.2 j t ht
  · intro j t C2 ht hC2
    rcases at' j t ht with ⟨rfl, rfl⟩ | ⟨hj, ht⟩
    · rw [List.getElem?_set_self hic] at hC2
      obtain rfl := Option.some.inj hC2
      exact h'
    · rw [List.getElem?_set_ne (fun e => hj e.symm)] at hC2
      exact (h.each j t C2 ht hC2).keep hk fun k h1 hx => h.sep i j s t hs ht (fun e => hj e.symm) k (hX k hx) h1
  · intro j1 j2 t1 t2 h1 h2 hne k k1 k2
    rcases at' j1 t1 h1 with ⟨e1, e2⟩ | ⟨hj1, g1⟩
    · rcases at' j2 t2 h2 with ⟨e3, e4⟩ | ⟨hj2, g2⟩
      · exact hne (e1.trans e3.symm)
      · exact other j2 t2 g2 hj2 k (e2 ▸ k1) k2
    · rcases at' j2 t2 h2 with ⟨e3, e4⟩ | ⟨hj2, g2⟩
      · exact other j1 t1 g1 hj1 k (e4 ▸ k2) k1
      · exact h.sep j1 j2 t1 t2 g1 g2 hne k k1 k2
  · intro t ht k h1
    rcases mem' t ht with rfl | ⟨j, hj, ht⟩
    · exact .inr h1
    · exact .inl ⟨h.fS t (List.mem_of_getElem? ht) k h1, fun h2 => h.sep i j s t hs ht (fun e => hj e.symm) k h2 h1⟩
  · intro k h1
    rcases h1 with ⟨h1, _⟩ | h1
    · exact Nat.lt_of_lt_of_le (h.lt k h1) hk.size
    · exact h'.lt h1
  · intro t ht
    rcases mem' t ht with rfl | ⟨j, hj, ht⟩
    · exact hq'
    · exact h.nq t (List.mem_of_getElem? ht)
  · intro t ht
    rcases mem' t ht with rfl | ⟨j, hj, ht⟩
    · exact hA'
    · exact h.nA t (List.mem_of_getElem? ht)
end
end Go.Proofs.Ythhfipjmjnfjlaa
