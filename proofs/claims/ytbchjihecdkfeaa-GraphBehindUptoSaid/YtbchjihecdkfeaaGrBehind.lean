/- Graphs, in plain words: one more block at the end; instructions ahead of the entry's. -/
import Derived.Test.YtbchjihecdkfeaaGrBound
namespace Go.Proofs.Ytbchjihecdkfeaa
open Go.Rd Go.RowKit
set_option linter.unusedVariables false
set_option linter.unusedSimpArgs false
section
variable {bs : List Blk} {pkt : List Int}
def moreB (k : Int) : Blk := ⟨[], 1, ⟨6, 0, 0, k⟩, 0, 0⟩
theorem moreB_ended (k : Int) : endedB (moreB k) = true := by
  have h1 : classOf 6 = 6 := by decide
  have h2 : (usesB 6).1 = true := by decide +kernel
  simp [endedB, bareB, moreB, h1, h2]
theorem goalsOk_mono {b : Blk} {a m m' : Int} (h : goalsOk b a m = true) (hm : m ≤ m') : goalsOk b a m' = true := by
  unfold goalsOk at h ⊢
  rw [List.all_eq_true] at h ⊢
  intro g hg
  have := of_decide_eq_true (h g hg)
  exact decide_eq_true ⟨this.1, by omega⟩
theorem behind_taken (T : GTaken bs) (hn : bs.length < 4096) (k : Int) : GTaken (bs ++ [moreB k]) := by
  have hl : (bs ++ [moreB k]).length = bs.length + 1 := by simp
  refine ⟨by omega, by omega, ?_, fun j b hj => ?_⟩
  · rw [List.map_append, List.sum_append]
    exact T.codes
  · by_cases h : j < bs.length
    · rw [List.getElem?_append_left h] at hj
      obtain ⟨t1, t2, t3⟩ := T.at_ j b hj
      exact ⟨t1, t2, goalsOk_mono t3 (by rw [hl]; omega)⟩
    · rw [List.getElem?_append_right (by omega)] at hj
      have hj0 : j - bs.length = 0 := by
        have := (List.getElem?_eq_some_iff.1 hj).1
        simp at this
        omega
      rw [hj0] at hj
      have hj : moreB k = b := by simpa using hj
      subst hj
      exact ⟨rfl, moreB_ended k, by simp [goalsOk, goalsL, moreB]⟩
theorem behind_run (T : GTaken bs) (hn : bs.length < 4096) (k : Int) : ∀ (d a : Nat) (ws : List Int), bs.length - a ≤ d → a < bs.length → grunX (bs ++ [moreB k]) pkt ((bs ++ [moreB k]).length - a) a ws = grunX bs pkt (bs.length - a) a ws := by
  have T' := behind_taken T hn k
  intro d
  induction d with
  | zero => intro a ws hd ha; omega
  | succ d ih =>
    intro a ws hd ha
    obtain ⟨b, hb⟩ : ∃ b, bs[a]? = some b := ⟨_, List.getElem?_eq_getElem ha⟩
    have hb' : (bs ++ [moreB k])[a]? = some b := by rw [List.getElem?_append_left ha]; exact hb
    by_cases hf : (codeX pkt b.code ws).1 = 0
    · cases hl : leaveX b (codeX pkt b.code ws).2.1 with
      | mk r z =>
        cases r with
        | inl v => rw [grunX_end hb hf hl, grunX_end hb' hf hl]
        | inr a' =>
          obtain ⟨hg, h1, h2⟩ := T.leave hb hl
          rw [grunX_go T hb hf hl, grunX_go T' hb' hf hl, ih a' _ (by omega) h2]
    · rw [grunX_fault hb hf, grunX_fault hb' hf]
theorem gcode_taken {bs : List Blk} {pkt : List Int} (h : gcodeV bs pkt = 0) : GTaken bs ∧ pkt.length ≤ 65536 := by
  unfold gcodeV at h
  split at h
  · cases h
  · rename_i h1
    refine ⟨(gtaken_of (Classical.not_not.1 h1)).1, ?_⟩
    split at h
    · cases h
    · omega
theorem taken_gcode {bs : List Blk} {pkt : List Int} (T : GTaken bs) (h : pkt.length ≤ 65536) : gcodeV bs pkt = 0 := by
  unfold gcodeV
  rw [T.check, if_neg (by decide), if_neg (by omega)]
theorem behind_verd (h : gcodeV bs pkt = 0) (hn : bs.length < 4096) (k : Int) : gcodeV (bs ++ [moreB k]) pkt = 0 ∧ gverdV (bs ++ [moreB k]) pkt = gverdV bs pkt := by
  obtain ⟨T, hp⟩ := gcode_taken h
  have e1 := taken_gcode (pkt := pkt) (behind_taken T hn k) hp
  refine ⟨e1, ?_⟩
  have e2 := behind_run (pkt := pkt) T hn k bs.length 0 ws0 (by omega) T.pos
  rw [Nat.sub_zero, Nat.sub_zero] at e2
  unfold gverdV
  rw [if_pos h, if_pos e1, e2]
/-! ## Ahead of the entry's -/

def aheadL (k : Int) : List Ins := [⟨0, 0, 0, k⟩, ⟨0, 0, 0, 0⟩]
def aheadB (k : Int) (b : Blk) : Blk := ⟨aheadL k ++ b.code, b.e, b.last, b.yes, b.no⟩
theorem ahead_straight (k : Int) : straightB ⟨0, 0, 0, k⟩ = true := by
  have h1 : classOf 0 = 0 := by decide
  have h2 : isKnown 0 = true := by decide
  have h3 : ¬ (0 : Int) ∈ wordsL := by decide
  simp [straightB, faultOf, h1, h2, h3]
theorem ahead_taken {b : Blk} {r : List Blk} (T : GTaken (b :: r)) (hs : (((b :: r).map (·.code.length)).sum) ≤ 4094) (k : Int) : GTaken (aheadB k b :: r) := by
  refine ⟨T.pos, T.le, ?_, fun j c hj => ?_⟩
  · rw [List.map_cons, List.sum_cons] at hs ⊢
    have : (aheadB k b).code.length = b.code.length + 2 := by
      show (aheadL k ++ b.code).length = _
      rw [List.length_append]
      show 2 + _ = _
      omega
    omega
  · cases j with
    | zero =>
      obtain rfl : aheadB k b = c := by simpa using hj
      obtain ⟨t1, t2, t3⟩ := T.at_ 0 b rfl
      refine ⟨?_, t2, t3⟩
      show (aheadL k ++ b.code).all straightB = true
      rw [List.all_append, t1]
      simp [aheadL, ahead_straight]
    | succ j =>
      have := T.at_ (j + 1) c (by simpa using hj)
      exact this
theorem ahead_code (k : Int) (xs : List Ins) : (codeX pkt (aheadL k ++ xs) ws0).1 = (codeX pkt xs ws0).1 ∧ (codeX pkt (aheadL k ++ xs) ws0).2.1 = (codeX pkt xs ws0).2.1 ∧ (codeX pkt (aheadL k ++ xs) ws0).2.2 = (codeX pkt xs ws0).2.2 + 2 := by
  have s1 : ∀ (k : Int) (ws : List Int), stepX pkt ⟨0, 0, 0, k⟩ ws = (0, ws.set 0 k) := by
    intro k ws
    unfold stepX
    rw [if_pos rfl]
  have e1 : codeX pkt (aheadL k ++ xs) ws0 = ((codeX pkt xs ws0).1, (codeX pkt xs ws0).2.1, (codeX pkt xs ws0).2.2 + 1 + 1) := by
    show codeX pkt (⟨0, 0, 0, k⟩ :: ⟨0, 0, 0, 0⟩ :: xs) ws0 = _
    rw [codeX, s1, if_neg (not_not_intro rfl), codeX, s1, if_neg (not_not_intro rfl)]
    simp only
    have e : (ws0.set 0 k).set 0 0 = ws0 := by
      rw [List.set_set]
      rfl
    rw [e]
  rw [e1]
  exact ⟨rfl, rfl, rfl⟩
theorem ahead_run {b : Blk} {r : List Blk} (T : GTaken (b :: r)) (hs : (((b :: r).map (·.code.length)).sum) ≤ 4094) (k : Int) : ∀ (d a : Nat) (ws : List Int), (b :: r).length - a ≤ d → a < (b :: r).length → 0 < a → grunX (aheadB k b :: r) pkt ((aheadB k b :: r).length - a) a ws = grunX (b :: r) pkt ((b :: r).length - a) a ws := by
  have T' := ahead_taken T hs k
  intro d
  induction d with
  | zero => intro a ws hd ha; omega
  | succ d ih =>
    intro a ws hd ha h0
    obtain ⟨c, hc⟩ : ∃ c, (b :: r)[a]? = some c := ⟨_, List.getElem?_eq_getElem ha⟩
    have hc' : (aheadB k b :: r)[a]? = some c := by
      obtain ⟨a, rfl⟩ : ∃ x, a = x + 1 := ⟨a - 1, by omega⟩
      rw [List.getElem?_cons_succ] at hc ⊢
      exact hc
    by_cases hf : (codeX pkt c.code ws).1 = 0
    · cases hl : leaveX c (codeX pkt c.code ws).2.1 with
      | mk x z =>
        cases x with
        | inl v => rw [grunX_end hc hf hl, grunX_end hc' hf hl]
        | inr a' =>
          obtain ⟨hg, h1, h2⟩ := T.leave hc hl
          rw [grunX_go T hc hf hl, grunX_go T' hc' hf hl, ih a' _ (by omega) h2 (by omega)]
    · rw [grunX_fault hc hf, grunX_fault hc' hf]
theorem ahead_verd {b : Blk} {r : List Blk} (h : gcodeV (b :: r) pkt = 0) (hs : (((b :: r).map (·.code.length)).sum) ≤ 4094) (k : Int) : gcodeV (aheadB k b :: r) pkt = 0 ∧ gverdV (aheadB k b :: r) pkt = ((gverdV (b :: r) pkt).1, (gverdV (b :: r) pkt).2.1, (gverdV (b :: r) pkt).2.2 + 2) := by
  obtain ⟨T, hp⟩ := gcode_taken h
  have T' := ahead_taken T hs k
  have e1 := taken_gcode (pkt := pkt) T' hp
  refine ⟨e1, ?_⟩
  unfold gverdV
  rw [if_pos h, if_pos e1]
  have hb : (b :: r)[0]? = some b := rfl
  have hb' : (aheadB k b :: r)[0]? = some (aheadB k b) := rfl
  obtain ⟨c1, c2, c3⟩ := ahead_code (pkt := pkt) k b.code
  have c1' : (codeX pkt (aheadB k b).code ws0).1 = (codeX pkt b.code ws0).1 := c1
  have c2' : (codeX pkt (aheadB k b).code ws0).2.1 = (codeX pkt b.code ws0).2.1 := c2
  have c3' : (codeX pkt (aheadB k b).code ws0).2.2 = (codeX pkt b.code ws0).2.2 + 2 := c3
  have key : grunX (aheadB k b :: r) pkt ((aheadB k b :: r).length - 0) 0 ws0 = ((grunX (b :: r) pkt ((b :: r).length - 0) 0 ws0).1, (grunX (b :: r) pkt ((b :: r).length - 0) 0 ws0).2.1, (grunX (b :: r) pkt ((b :: r).length - 0) 0 ws0).2.2 + 2) := by
    by_cases hf : (codeX pkt b.code ws0).1 = 0
    · cases hl : leaveX b (codeX pkt b.code ws0).2.1 with
      | mk x z =>
        have hl' : leaveX (aheadB k b) (codeX pkt (aheadB k b).code ws0).2.1 = (x, z) := by
          rw [c2', ← hl]
          rfl
        cases x with
        | inl v =>
          rw [grunX_end hb hf hl, grunX_end hb' (by rw [c1']; exact hf) hl', c3']
          simp only [Prod.mk.injEq, true_and]
          omega
        | inr a' =>
          obtain ⟨hg, h1, h2⟩ := T.leave hb hl
          rw [grunX_go T hb hf hl, grunX_go T' hb' (by rw [c1']; exact hf) hl', c2', c3', ahead_run T hs k _ a' _ (Nat.le_refl _) h2 (by omega)]
          simp only [Prod.mk.injEq, true_and]
          omega
    · rw [grunX_fault hb hf, grunX_fault hb' (by rw [c1']; exact hf), c1', c3']
  rw [Nat.sub_zero, Nat.sub_zero] at key
  rw [key]
  simp only [Prod.mk.injEq, true_and]
  omega
end
end Go.Proofs.Ytbchjihecdkfeaa
