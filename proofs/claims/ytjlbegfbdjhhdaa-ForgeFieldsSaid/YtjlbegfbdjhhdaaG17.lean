/- The plain laws of ForgeLinks and ForgeRefuses: what a turned spec comes to. -/
import Derived.Test.YtjlbegfbdjhhdaaG16
namespace Go.Proofs.Ytjlbegfbdjhhdaa
open Go.Rd Go.RowKit
set_option linter.unusedVariables false
set_option linter.unusedSimpArgs false

theorem anyWrong_eq (k : Lnk) (s : Sp) : anyWrong k s = (wr1 k s || (wr2 k s || (wr3 k s || (wr4 s || (wr5 s || (wr6 s || (wr7 s || (wr8 s || (wr9 s || (wr10 s || (wr11 k s || false))))))))))) := rfl
theorem wrong_of {k : Lnk} {s : Sp} (j : Nat) (hj : j < 11) (h : wrB k s j = true) : anyWrong k s = true :=
  List.any_eq_true.2 ⟨j, List.mem_range.2 hj, h⟩
theorem right_of {k : Lnk} {s : Sp} (h : anyWrong k s = false) (j : Nat) (hj : j < 11) : wrB k s j = false := by
  cases e : wrB k s j with
  | false => rfl
  | true => rw [wrong_of j hj e] at h; cases h
theorem make_ok {k : Lnk} {s : Sp} {xs b : List Int} (h : makeX k s xs = .ok b) : linkOk k = true ∧ anyWrong k s = false ∧ b.length ≤ 65535 ∧ b = outB k s xs := by
  unfold makeX at h
  split at h
  · cases h
  · rename_i h1
    split at h
    · cases h
    · rename_i h2
      split at h
      · cases h
      · rename_i h3
        injection h with h
        subst h
        exact ⟨by simpa using h1, by simpa using h2, by omega, rfl⟩
theorem make_of {k : Lnk} {s : Sp} {xs b : List Int} (h1 : linkOk k = true) (h2 : anyWrong k s = false) (h3 : b = outB k s xs) (h4 : b.length ≤ 65535) : makeX k s xs = .ok b := by
  subst h3
  rw [makeX, if_neg (by rw [h1]; decide), if_neg (by rw [h2]; decide), if_neg (by omega)]
theorem make_wrong {k : Lnk} {s : Sp} {xs : List Int} (h1 : linkOk k = true) (h2 : anyWrong k s = true) : makeX k s xs = .error 80 := by
  rw [makeX, if_neg (by rw [h1]; decide), if_pos h2]

/-! ## Links -/

def k00 : Lnk := ⟨false, false, 0⟩
section
variable {k : Lnk} {s : Sp} {xs b : List Int}
theorem plain_facts (h : makeX k00 s xs = .ok b) : s.wd = true ∧ s.mu = false := by
  obtain ⟨_, hw, _⟩ := make_ok h
  have h1 := right_of hw 0 (by decide)
  have h2 := right_of hw 1 (by decide)
  simp only [wrB, wr1, wr2, k00] at h1 h2
  revert h1 h2
  cases s.wd <;> cases s.mu <;> simp
theorem links_right (h : makeX k00 s xs = .ok b) (hp : s.pr ≠ 61) (pl : Bool) : anyWrong k { s with pl := pl } = false := by
  obtain ⟨_, hw, _⟩ := make_ok h
  obtain ⟨e1, e2⟩ := plain_facts h
  have h3 := right_of hw 2 (by decide)
  have g4 : wr4 { s with pl := pl } = false := right_of hw 3 (by decide)
  have g5 : wr5 { s with pl := pl } = false := right_of hw 4 (by decide)
  have g6 : wr6 { s with pl := pl } = false := right_of hw 5 (by decide)
  have g7 : wr7 { s with pl := pl } = false := right_of hw 6 (by decide)
  have g8 : wr8 { s with pl := pl } = false := right_of hw 7 (by decide)
  have g9 : wr9 { s with pl := pl } = false := right_of hw 8 (by decide)
  have g10 : wr10 { s with pl := pl } = false := right_of hw 9 (by decide)
  have g1 : wr1 k { s with pl := pl } = false := by simp [wr1, e1]
  have g2 : wr2 k { s with pl := pl } = false := by simp [wr2, e2]
  have g11 : wr11 k { s with pl := pl } = false := by simp [wr11, e1]
  have g3 : wr3 k { s with pl := pl } = false := by
    simp only [wrB, wr3, e2] at h3
    simp only [wr3, e2]
    revert h3
    simp [hp]
  rw [anyWrong_eq, g1, g2, g3, g4, g5, g6, g7, g8, g9, g10, g11]
  rfl
theorem links_same (h : makeX k00 s xs = .ok b) (hp : s.pr ≠ 61) (hl : s.pl = true) (hk : linkOk k = true) : makeX k s xs = .ok b := by
  obtain ⟨_, hw, hb, rfl⟩ := make_ok h
  obtain ⟨e1, e2⟩ := plain_facts h
  have hr := links_right (k := k) h hp true
  rw [show ({ s with pl := true } : Sp) = s by cases s; cases hl; rfl] at hr
  refine make_of hk hr ?_ hb
  simp [outB, multiB, e2, sayB, protoB, hl]
theorem links_less (h : makeX k00 s xs = .ok b) (hp : s.pr ≠ 61) (hl : s.pl = true) (hk : linkOk k = true) :
    ∃ y, makeX k { s with pl := false } xs = .ok y ∧ (y.length : Int) = b.length - (if k.pf = true ∧ s.pr < 256 then 1 else 0) := by
  obtain ⟨_, hw, hb, rfl⟩ := make_ok h
  obtain ⟨e1, e2⟩ := plain_facts h
  have hr := links_right (k := k) h hp false
  have key : ((outB k { s with pl := false } xs).length : Int) = (outB k00 s xs).length - (if k.pf = true ∧ s.pr < 256 then 1 else 0) := by
    have e3 : saidB s = true := by simp [saidB, e2]
    have e4 : sayB k { s with pl := false } = protoB k false s.pr := by
      show (if saidB s = true then protoB k false s.pr else []) = _
      rw [if_pos e3]
    have e5 : sayB k00 s = fieldB 2 s.pr := by
      rw [sayB, if_pos e3, protoB, if_neg (by simp [k00])]
    have e6 : multiB k { s with pl := false } = [] := by simp [multiB, e2]
    have e7 : multiB k00 s = [] := by simp [multiB, e2]
    simp only [outB, e4, e5, e6, e7, List.length_append]
    have a1 : wideB { s with pl := false } = wideB s := rfl
    have a2 : ipHB { s with pl := false } xs = ipHB s xs := rfl
    have a3 : loadB { s with pl := false } xs = loadB s xs := rfl
    rw [a1, a2, a3, fieldB_length]
    by_cases hq : k.pf = true ∧ s.pr < 256
    · rw [if_pos hq, protoB, if_pos ⟨hq.1, rfl, hq.2⟩]
      simp only [List.length_cons, List.length_nil]
      omega
    · rw [if_neg hq, protoB, if_neg (fun hh => hq ⟨hh.1, hh.2.2⟩), fieldB_length]
      omega
  refine ⟨_, make_of hk hr rfl ?_, key⟩
  split at key <;> omega
end
end Go.Proofs.Ytjlbegfbdjhhdaa
