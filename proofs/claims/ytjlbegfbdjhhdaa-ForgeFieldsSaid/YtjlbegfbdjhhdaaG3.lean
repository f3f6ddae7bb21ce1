/- A piece's header, the wrongs' list. -/
import Derived.Test.YtjlbegfbdjhhdaaG2
namespace Go.Proofs.Ytjlbegfbdjhhdaa
open Go.Rd Go.RowKit
set_option linter.unusedVariables false
set_option linter.unusedSimpArgs false

section
variable {w : World} {k : Lnk} {s : Sp} {bs bl bn : Nat}

theorem srcBytes (hs : SAt w bs s) {n : Nat} (hn : n ≤ 16) : IBytes w (some ((Addr.mk bs 0 none).add 8)) n ((List.range n).map s.sr) := by
  refine ⟨by simp, fun i x hi => ⟨_, rfl, ?_⟩⟩
  obtain ⟨h1, h2⟩ := List.getElem?_eq_some_iff.1 hi
  simp at h1 h2
  rw [Nat.mul_one, srcCells hs i (by omega), h2]
theorem dstBytes (hs : SAt w bs s) {n : Nat} (hn : n ≤ 16) : IBytes w (some ((Addr.mk bs 0 none).add 24)) n ((List.range n).map s.ds) := by
  refine ⟨by simp, fun i x hi => ⟨_, rfl, ?_⟩⟩
  obtain ⟨h1, h2⟩ := List.getElem?_eq_some_iff.1 hi
  simp at h1 h2
  rw [Nat.mul_one, dstCells hs i (by omega), h2]

theorem piece_spec : Run Try.prog 27 #[.agg #[.bool k.ac, .bool k.pf, .int .i64 k.mp], s.v] w fun v w' => NewBytes w w' v (headSize k).toNat (headB k s.bg s.en s.sq) := by
  refine forge_piece.ok (letA fun w1 h1 x1 s1 => letA fun w2 h2 x2 s2 => ?_)
  have hk : LAt w2 w.heap.size k := x2.heap h1
  have hs : SAt w2 w1.heap.size s := h2
  have last : ∀ (q n : Int), (n = 2 ∨ n = 4) → n = headSize k → q = headNum k s.bg s.en s.sq → forge_piece.J2 (fun v w' => NewBytes w w' v (headSize k).toNat (headB k s.bg s.en s.sq)) n q w2 := by
    intro q n hn e1 e2
    subst e1 e2
    obtain ⟨M, w3, hr, im, x3⟩ := made_put (v := headNum k s.bg s.en s.sq) (w := w2) (s := headSize k) (by omega)
    refine ⟨_, w3, hr, M, _, _, rfl, (put_spec im (by omega)).mono ?_⟩
    intro u w4 hput
    obtain ⟨B, bc, rfl, o4, b4, x4⟩ := put_made (s := headSize k) (by omega) hput
    exact ⟨B, _, bc, true, rfl, B, bc, rfl, o4, fieldB_length .., fun j hj => by have := b4 j hj; have := ((x1.trans x2).trans x3).size; omega, ((x1.trans x2).trans x3).trans x4⟩
  have four : k.mp = 2 → headSize k = 4 := fun h => if_pos h
  have two : k.mp ≠ 2 → headSize k = 2 := fun h => if_neg h
  refine ⟨_, hk.c2, ifP_beq.2 ⟨fun h => ?_, fun h => ?_⟩⟩
  · refine ⟨_, hs.at_ 5 rfl, _, hs.at_ 3 rfl, ifP_of (fun hb => ⟨by decide, _, hs.at_ 4 rfl, ifP_of (fun he => ⟨by decide, last _ _ (by omega) (four h).symm ?_⟩) fun he => last _ _ (by omega) (four h).symm ?_⟩) fun hb => ⟨_, hs.at_ 4 rfl, ifP_of (fun he => ⟨by decide, last _ _ (by omega) (four h).symm ?_⟩) fun he => last _ _ (by omega) (four h).symm ?_⟩⟩
    all_goals simp only [headNum, hb, he, h]; rfl
  · refine ⟨_, hs.at_ 5 rfl, _, hs.at_ 3 rfl, ifP_of (fun hb => ⟨by decide, _, hs.at_ 4 rfl, ifP_of (fun he => ⟨by decide, last _ _ (by omega) (two h).symm ?_⟩) fun he => last _ _ (by omega) (two h).symm ?_⟩) fun hb => ⟨_, hs.at_ 4 rfl, ifP_of (fun he => ⟨by decide, last _ _ (by omega) (two h).symm ?_⟩) fun he => last _ _ (by omega) (two h).symm ?_⟩⟩
    all_goals simp only [headNum, hb, he, if_neg h]; rfl

/-! ## The wrongs -/

def wrB (k : Lnk) (s : Sp) : Nat → Bool
  | 0 => wr1 k s
  | 1 => wr2 k s
  | 2 => wr3 k s
  | 3 => wr4 s
  | 4 => wr5 s
  | 5 => wr6 s
  | 6 => wr7 s
  | 7 => wr8 s
  | 8 => wr9 s
  | 9 => wr10 s
  | _ => wr11 k s
abbrev pt (b : Nat) : Value := .pointer (some ⟨b, 0, none⟩)
def clos (bs bl bn : Nat) : Array Value := #[.func (.func 43) #[] #[pt bs, pt bl], .func (.func 44) #[] #[pt bs, pt bl], .func (.func 46) #[] #[pt bs, pt bl], .func (.func 47) #[] #[pt bs], .func (.func 48) #[] #[pt bs], .func (.func 49) #[] #[pt bs, pt bn],
  .func (.func 50) #[] #[pt bs], .func (.func 51) #[] #[pt bs], .func (.func 53) #[] #[pt bs], .func (.func 54) #[] #[pt bs], .func (.func 55) #[] #[pt bs, pt bl]]
/-- What the closures read. -/
structure CAt (w : World) (k : Lnk) (s : Sp) (bs bl bn : Nat) : Prop where
  s : SAt w bs s
  k : LAt w bl k
  z : w.heap[bn]? = some (.cells (Array.replicate 16 (Value.int .u8 0)) 25 (0, 0))
theorem CAt.ext {w' : World} (h : CAt w k s bs bl bn) (x : Ext w w') : CAt w' k s bs bl bn := ⟨h.s.ext x, h.k.ext x, x.heap h.z⟩
theorem wr_at (h : CAt w k s bs bl bn) (p0 : 0 ≤ s.pr) (p1 : s.pr ≤ 4294967295) {j : Nat} (hj : j < 11) : ∃ g cs, (clos bs bl bn)[j]? = some (.func (.func g) #[] cs) ∧ okCall Try.prog g = true ∧ Run Try.prog g (#[] ++ #[] ++ cs) w (Wr w (wrB k s j)) := by
  match j, hj with
  | 0, _ => exact ⟨_, _, rfl, by kernel_rfl, by simp only [Array.empty_append]; exact wr1_spec h.s h.k⟩
  | 1, _ => exact ⟨_, _, rfl, by kernel_rfl, by simp only [Array.empty_append]; exact wr2_spec h.s h.k⟩
  | 2, _ => exact ⟨_, _, rfl, by kernel_rfl, by simp only [Array.empty_append]; exact wr3_spec h.s h.k⟩
  | 3, _ => exact ⟨_, _, rfl, by kernel_rfl, by simp only [Array.empty_append]; exact wr4_spec h.s⟩
  | 4, _ => exact ⟨_, _, rfl, by kernel_rfl, by simp only [Array.empty_append]; exact wr5_spec h.s p0 p1⟩
  | 5, _ => exact ⟨_, _, rfl, by kernel_rfl, by simp only [Array.empty_append]; exact wr6_spec h.s h.z⟩
  | 6, _ => exact ⟨_, _, rfl, by kernel_rfl, by simp only [Array.empty_append]; exact wr7_spec h.s⟩
  | 7, _ => exact ⟨_, _, rfl, by kernel_rfl, by simp only [Array.empty_append]; exact wr8_spec h.s⟩
  | 8, _ => exact ⟨_, _, rfl, by kernel_rfl, by simp only [Array.empty_append]; exact wr9_spec h.s⟩
  | 9, _ => exact ⟨_, _, rfl, by kernel_rfl, by simp only [Array.empty_append]; exact wr10_spec h.s⟩
  | 10, _ => exact ⟨_, _, rfl, by kernel_rfl, by simp only [Array.empty_append]; exact wr11_spec h.s h.k⟩
theorem wrongs_spec : Run Try.prog 25 #[.agg #[.bool k.ac, .bool k.pf, .int .i64 k.mp], s.v] w fun v w' => ∃ q bs bl bn, v = .slice (some ⟨q, 0, none⟩) 11 11 ∧ CAt w' k s bs bl bn ∧ (∃ t fz, w'.heap[q]? = some (.cells (clos bs bl bn) t fz)) ∧ Ext w w' := by
  refine forge_wrongs.ok (letA fun w1 h1 x1 s1 => letA fun w2 h2 x2 s2 => letA fun w3 h3 x3 s3 => ?_)
  refine storeRow_block h3 (by decide) rfl fun w4 h4 k4 _ => letA fun w5 h5 x5 s5 => ?_
  have x34 : Ext w w4 := ((x1.trans x2).trans x3).fresh k4 fun i hi => by rw [hi]; have := (x1.trans x2).size; omega
  have hl : LAt w5 w.heap.size k := x5.heap (k4.heap (x3.heap (x2.heap h1)) (by omega))
  have hs : SAt w5 w1.heap.size s := x5.heap (k4.heap (x3.heap h2) (by omega))
  have hz : w5.heap[w2.heap.size]? = some (.cells (Array.replicate 16 (Value.int .u8 0)) 25 (0, 0)) := by
    rw [x5.heap h4]; rfl
  exact ⟨_, _, _, _, rfl, ⟨hs, hl, hz⟩, ⟨_, _, h5⟩, x34.trans x5⟩
end
end Go.Proofs.Ytjlbegfbdjhhdaa
