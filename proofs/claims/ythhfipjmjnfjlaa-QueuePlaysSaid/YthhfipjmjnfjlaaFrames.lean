/- Lists of bytes that wait, one behind the other: in blocks of their own; one more behind, the first one taken away. -/
import Derived.Test.YthhfipjmjnfjlaaM6
import Derived.Test.YthhfipjmjnfjlaaWJoin
namespace Go.Proofs.Ythhfipjmjnfjlaa
open Go.Rd Go.RowKit
set_option linter.unusedVariables false
set_option linter.unusedSimpArgs false

theorem slLists : SliceOf Try.prog 45 35 1 24 (.slice none 0 0) := ⟨by kernel_rfl, by kernel_rfl, rfl, by decide⟩

/-- The blocks of a list of lists. -/
def ffp (A : Option Addr) (c : Nat) (ps : List Part) (k : Nat) : Prop := blkC A c k ∨ ∃ p ∈ ps, blk p.A k

structure FOk (w : World) (A : Option Addr) (n c : Nat) (ps : List Part) (fr : List (List Int)) : Prop where
  own : OwnS 35 1 w A c (ps.map Part.v)
  len : ps.length = n
  frs : ps.map (·.xs) = fr
  part : ∀ p ∈ ps, OBytes w p.A p.c p.xs ∧ p.xs.length = p.n
  pair : ps.Pairwise (fun p q => ∀ k, blk p.A k → ¬ blk q.A k)

theorem FOk.nil {w : World} : FOk w none 0 0 [] [] := ⟨.inl ⟨rfl, rfl⟩, rfl, rfl, fun p h => (by cases h), .nil⟩
theorem OwnS.typ {e sz : Nat} {w : World} {A : Option Addr} {c : Nat} {cs : List Value} (h : OwnS e sz w A c cs) {k : Nat} (hk : blkC A c k) : ∃ vs, w.heap[k]? = some (.cells vs e (0, 0)) := by
  rcases h with ⟨hc, _⟩ | ⟨b, pre, sp, rfl, hb, hl⟩
  · exact absurd hk.1 (by omega)
  · rw [blk_some.1 hk.2]; exact ⟨_, hb⟩
theorem Own.typ {e sz : Nat} {w : World} {A : Option Addr} {c : Nat} {cs : List Value} (h : Own e sz w A c cs) {k : Nat} (hk : blk A k) : ∃ vs, w.heap[k]? = some (.cells vs e (0, 0)) := by
  rcases h with ⟨rfl, _⟩ | ⟨b, sp, rfl, hb, hl⟩
  · exact (blk_none hk).elim
  · rw [blk_some.1 hk]; exact ⟨_, hb⟩
theorem typ_ne {w : World} {k e f : Nat} {us vs : Array Value} (h : w.heap[k]? = some (.cells us e (0, 0))) (h2 : w.heap[k]? = some (.cells vs f (0, 0))) : e = f := by
  rw [h] at h2
  injection h2 with h2
  injection h2

section
variable {w w' : World} {A : Option Addr} {n c : Nat} {ps : List Part} {fr : List (List Int)}
theorem FOk.sep (h : FOk w A n c ps fr) {p : Part} (hp : p ∈ ps) {k : Nat} (hk : blkC A c k) : ¬ blk p.A k := fun hk2 => by
  obtain ⟨us, h1⟩ := OwnS.typ h.own hk
  obtain ⟨vs, h2⟩ := Own.typ (h.part p hp).1 hk2
  have := typ_ne h1 h2
  revert this
  decide
theorem FOk.lt (h : FOk w A n c ps fr) {k : Nat} (hk : ffp A c ps k) : k < w.heap.size := by
  rcases hk with hk | ⟨p, hp, hk⟩
  · exact h.own.lt k hk
  · exact (h.part p hp).1.lt k hk
theorem FOk.keep {X : Nat → Prop} (h : FOk w A n c ps fr) (hk : Keep X w w') (hs : ∀ k, ffp A c ps k → ¬ X k) : FOk w' A n c ps fr :=
  ⟨h.own.keep hk fun k h1 => hs k (.inl h1), h.len, h.frs, fun p hp => ⟨(h.part p hp).1.keep hk fun k h1 => hs k (.inr ⟨p, hp, h1⟩), (h.part p hp).2⟩, h.pair⟩
theorem FOk.ext (h : FOk w A n c ps fr) (hk : Ext w w') : FOk w' A n c ps fr := h.keep hk fun _ _ h => h
theorem FOk.length (h : FOk w A n c ps fr) : fr.length = n := by rw [← h.frs, List.length_map, h.len]

/-- One more behind. -/
theorem FOk.push (h : FOk w A n c ps fr) (hn : n ≤ 1000000000) {p : Part} (hp : OBytes w p.A p.c p.xs) (hl : p.xs.length = p.n) (hf : ∀ k, blk p.A k → ¬ ffp A c ps k) {B : Option Addr} {d ty : Nat} (hB : RdC w B [p.v]) :
    ∃ A' c' w', (Builtin.append_ #[45, 45] ty #[.slice A n c, .slice B 1 d]).run Try.prog w = .ok (.slice A' (n + 1) c') w' ∧ FOk w' A' (n + 1) c' (ps ++ [p]) (fr ++ [p.xs]) ∧ Keep (blkC A c) w w' ∧
      (∀ k, blkC A' c' k → blkC A c k ∨ w.heap.size ≤ k) := by
  have hpl : (ps.map Part.v).length = n * 1 := by rw [List.length_map, h.len]; omega
  have fin : ∀ A' c' w', OwnS 35 1 w' A' c' (ps.map Part.v ++ [p.v]) → Keep (blkC A c) w w' → FOk w' A' (n + 1) c' (ps ++ [p]) (fr ++ [p.xs]) := by
    intro A' c' w' o k
    refine ⟨by rw [List.map_append]; exact o, by rw [List.length_append, h.len]; rfl, by rw [List.map_append, h.frs]; rfl, fun q hq => ?_, ?_⟩
    · rcases List.mem_append.1 hq with hq | hq
      · exact ⟨(h.part q hq).1.keep k fun k hk hk2 => h.sep hq hk2 hk, (h.part q hq).2⟩
      · obtain rfl : q = p := by simpa using hq
        exact ⟨hp.keep k fun k hk hk2 => hf k hk (.inl hk2), hl⟩
    · rw [List.pairwise_append]
      refine ⟨h.pair, by simp, fun q hq r hr k hk hk2 => ?_⟩
      obtain rfl : r = p := by simpa using hr
      exact hf k hk2 (.inr ⟨q, hq, hk⟩)
  rcases append_casesS slLists (ty := ty) (n := n) (d := d) h.own hpl hB (m := 1) rfl rfl (by omega) (by omega) with ⟨hr, w2, hrun, o, k, s⟩ | ⟨hr, c2, w2, hrun, o, hc2, x, s⟩
  · exact ⟨A, c, w2, hrun, fin _ _ _ o k, k, fun k hk => .inl hk⟩
  · exact ⟨_, c2, w2, hrun, fin _ _ _ o (Keep.ext x), Keep.ext x, fun k hk => .inr (by rw [blk_some.1 hk.2]; exact Nat.le_refl _)⟩

/-- The first one taken away. -/
theorem FOk.pop {p : Part} {x : List Int} (h : FOk w A n c (p :: ps) (x :: fr)) : FOk w (subA A c 1 1) (n - 1) (c - 1) ps fr ∧ (∀ k, blkC (subA A c 1 1) (c - 1) k → blkC A c k) ∧ p.xs = x ∧ (∀ k, blk p.A k → ¬ ffp (subA A c 1 1) (c - 1) ps k) := by
  obtain ⟨o, hb⟩ := OwnS.tail (cs := ps.map Part.v) h.own
  have hlen := h.len
  rw [List.length_cons] at hlen
  have hfr := h.frs
  rw [List.map_cons] at hfr
  injection hfr with e1 e2
  refine ⟨⟨o, by omega, e2, fun q hq => h.part q (List.mem_cons_of_mem _ hq), (List.pairwise_cons.1 h.pair).2⟩, hb, e1, fun k hk hf => ?_⟩
  rcases hf with hf | ⟨q, hq, hf⟩
  · exact h.sep (List.mem_cons_self ..) (hb k hf) hk
  · exact (List.pairwise_cons.1 h.pair).1 q hq k hk hf
end
end Go.Proofs.Ythhfipjmjnfjlaa
