/- Runs of graphs, in plain words: how long they are; blocks that can't be come to. -/
import Derived.Test.YtbchjihecdkfeaaGrRun
namespace Go.Proofs.Ytbchjihecdkfeaa
open Go.Rd Go.RowKit
set_option linter.unusedVariables false
set_option linter.unusedSimpArgs false
section
variable {bs : List Blk} {pkt : List Int}
theorem codeX_pos (pkt : List Int) : ∀ (xs : List Ins) (ws : List Int), (codeX pkt xs ws).1 ≠ 0 → 1 ≤ (codeX pkt xs ws).2.2
  | [], ws, h => absurd rfl h
  | i :: r, ws, h => by
    rw [codeX] at h ⊢
    split
    · exact Nat.le_refl _
    · show 1 ≤ _ + 1
      omega
theorem weigh_cons (b : Blk) (r : List Blk) (x y z : Int) : weighV x y z (b :: r) = weighB x y z b + weighV x y z r := by
  unfold weighV
  rw [List.map_cons, List.sum_cons]
theorem weigh_nonneg : ∀ (bs : List Blk), 0 ≤ weighV 1 0 1 bs
  | [] => by simp [weighV]
  | b :: r => by
    rw [weigh_cons]
    have := weigh_nonneg r
    have : 0 ≤ weighB 1 0 1 b := by
      unfold weighB
      split
      · omega
      · split <;> omega
    omega
theorem weigh_drop (bs : List Blk) : ∀ (d a : Nat), weighV 1 0 1 (bs.drop (a + d)) ≤ weighV 1 0 1 (bs.drop a)
  | 0, a => by rw [Nat.add_zero]; exact Int.le_refl _
  | d + 1, a => by
    refine Int.le_trans ?_ (weigh_drop bs d a)
    cases hb : bs[a + d]? with
    | none =>
      rw [List.getElem?_eq_none_iff] at hb
      rw [List.drop_eq_nil_of_le (by omega), List.drop_eq_nil_of_le (by omega)]
      exact Int.le_refl _
    | some b =>
      obtain ⟨hlt, he⟩ := List.getElem?_eq_some_iff.1 hb
      rw [List.drop_eq_getElem_cons hlt, he, weigh_cons, show a + (d + 1) = a + d + 1 by omega]
      have : 0 ≤ weighB 1 0 1 b := by
        unfold weighB
        split
        · omega
        · split <;> omega
      omega
theorem weigh_size_measure : ∀ (bs : List Blk), weighV 1 0 1 bs ≤ weighV 1 1 3 bs
  | [] => by simp [weighV]
  | b :: r => by
    rw [weigh_cons, weigh_cons]
    have := weigh_size_measure r
    have : weighB 1 0 1 b ≤ weighB 1 1 3 b := by
      unfold weighB
      split
      · omega
      · split <;> omega
    omega
/-- Steps of a run, and its value where it faults. -/
theorem grunX_bounds (T : GTaken bs) : ∀ (d a : Nat) (ws : List Int), bs.length - a ≤ d → a < bs.length → 1 ≤ (grunX bs pkt (bs.length - a) a ws).2.2 ∧ ((grunX bs pkt (bs.length - a) a ws).2.2 : Int) ≤ weighV 1 0 1 (bs.drop a) ∧ ((grunX bs pkt (bs.length - a) a ws).2.1 ≠ 0 → (grunX bs pkt (bs.length - a) a ws).1 = 0) := by
  intro d
  induction d with
  | zero => intro a ws hd ha; omega
  | succ d ih =>
    intro a ws hd ha
    obtain ⟨b, hb⟩ : ∃ b, bs[a]? = some b := ⟨_, List.getElem?_eq_getElem ha⟩
    obtain ⟨hlt, he⟩ := List.getElem?_eq_some_iff.1 hb
    have hdrop : bs.drop a = b :: bs.drop (a + 1) := by rw [List.drop_eq_getElem_cons hlt, he]
    have hcl := codeX_le pkt b.code ws
    have hw := weigh_nonneg (bs.drop (a + 1))
    have kinds := endedB_kinds (T.at_ a b hb).2.1
    rw [hdrop, weigh_cons]
    by_cases hf : (codeX pkt b.code ws).1 = 0
    · cases hl : leaveX b (codeX pkt b.code ws).2.1 with
      | mk r k =>
        cases r with
        | inl v =>
          rw [grunX_end hb hf hl]
          have hk : k = 1 ∧ b.e = 1 := by
            unfold leaveX at hl
            split at hl
            · cases (Prod.mk.inj hl).1
            · split at hl
              · exact ⟨(Prod.mk.inj hl).2.symm, ‹_›⟩
              · cases (Prod.mk.inj hl).1
          obtain ⟨rfl, e1⟩ := hk
          have hwb : weighB 1 0 1 b = b.code.length + 1 := by rw [weighB, if_pos e1]
          refine ⟨by show 1 ≤ _ + 1; omega, ?_, fun h => absurd rfl h⟩
          rw [hwb]
          show (((codeX pkt b.code ws).2.2 + 1 : Nat) : Int) ≤ _
          omega
        | inr a' =>
          obtain ⟨hg, h1, h2⟩ := T.leave hb hl
          rw [grunX_go T hb hf hl]
          obtain ⟨i1, i2, i3⟩ := ih a' (codeX pkt b.code ws).2.1 (by omega) h2
          have hwd := weigh_drop bs (a' - (a + 1)) (a + 1)
          rw [show a + 1 + (a' - (a + 1)) = a' by omega] at hwd
          have hk : (k : Int) + b.code.length ≤ weighB 1 0 1 b := by
            unfold leaveX at hl
            unfold weighB
            split at hl
            · rename_i e2
              have := (Prod.mk.inj hl).2
              rw [if_neg (by omega), if_pos e2]
              omega
            · rename_i e2
              split at hl
              · cases (Prod.mk.inj hl).1
              · rename_i e1
                have := (Prod.mk.inj hl).2
                rw [if_neg e1, if_neg e2]
                omega
          refine ⟨by show 1 ≤ _ + _ + _; omega, ?_, i3⟩
          show (((codeX pkt b.code ws).2.2 + k + (grunX bs pkt (bs.length - a') a' (codeX pkt b.code ws).2.1).2.2 : Nat) : Int) ≤ _
          omega
    · rw [grunX_fault hb hf]
      refine ⟨codeX_pos pkt _ _ hf, ?_, fun _ => rfl⟩
      have : (b.code.length : Int) ≤ weighB 1 0 1 b := by
        unfold weighB
        split
        · omega
        · split <;> omega
      show (((codeX pkt b.code ws).2.2 : Nat) : Int) ≤ _
      omega
theorem gverd_bounds {bs : List Blk} {pkt : List Int} (h : gcodeV bs pkt = 0) : 1 ≤ (gverdV bs pkt).2.2 ∧ (gverdV bs pkt).2.2 ≤ weighV 1 0 1 bs ∧ ((gverdV bs pkt).2.1 ≠ 0 → (gverdV bs pkt).1 = 0) := by
  have hc : (gcheckV bs).2 = 0 := by
    unfold gcodeV at h
    split at h
    · cases h
    · rename_i h1; exact Classical.not_not.1 h1
  obtain ⟨T, _⟩ := gtaken_of hc
  obtain ⟨h1, h2, h3⟩ := grunX_bounds (pkt := pkt) T bs.length 0 ws0 (by omega) T.pos
  rw [gverdV, if_pos h]
  rw [Nat.sub_zero] at h1 h2 h3
  rw [List.drop_zero] at h2
  refine ⟨by show 1 ≤ ((grunX bs pkt bs.length 0 ws0).2.2 : Int); omega, h2, h3⟩
/-! ## Blocks that can't be come to -/

def retB : Blk := ⟨[], 1, ⟨6, 0, 0, 12345⟩, 0, 0⟩
/-- Blocks of which those that can't be come to are written over. -/
structure Masked (bs bs' : List Blk) : Prop where
  len : bs'.length = bs.length
  yes : ∀ k b, bs[k]? = some b → Reaches bs k → bs'[k]? = some b
  no : ∀ k, k < bs.length → ¬ Reaches bs k → bs'[k]? = some retB
theorem sum_le_at : ∀ (l l' : List Nat), l'.length = l.length → (∀ (k x y : Nat), l[k]? = some x → l'[k]? = some y → y ≤ x) → l'.sum ≤ l.sum
  | [], l', hl, h => by
    have : l' = [] := List.eq_nil_of_length_eq_zero hl
    rw [this]
    exact Nat.le_refl _
  | x :: r, [], hl, h => by cases hl
  | x :: r, y :: r', hl, h => by
    rw [List.sum_cons, List.sum_cons]
    have h0 := h 0 x y rfl rfl
    have := sum_le_at r r' (by simpa using hl) fun k x y h1 h2 => h (k + 1) x y (by simpa using h1) (by simpa using h2)
    omega
theorem Masked.taken {bs bs' : List Blk} (M : Masked bs bs') (T : GTaken bs) : GTaken bs' := by
  refine ⟨by rw [M.len]; exact T.pos, by rw [M.len]; exact T.le, ?_, fun k b hb => ?_⟩
  · refine Nat.le_trans (sum_le_at (bs.map (·.code.length)) (bs'.map (·.code.length)) (by simp [M.len]) fun k x y h1 h2 => ?_) T.codes
    rw [List.getElem?_map] at h1 h2
    cases hb : bs[k]? with
    | none => rw [hb] at h1; cases h1
    | some b =>
      rw [hb] at h1
      have h1 : b.code.length = x := Option.some.inj h1
      have hk := (List.getElem?_eq_some_iff.1 hb).1
      by_cases hr : Reaches bs k
      · rw [M.yes k b hb hr] at h2
        have h2 : b.code.length = y := Option.some.inj h2
        omega
      · rw [M.no k hk hr] at h2
        have h2 : 0 = y := Option.some.inj h2
        omega
  · have hk := (List.getElem?_eq_some_iff.1 hb).1
    rw [M.len] at hk
    by_cases hr : Reaches bs k
    · obtain ⟨b', hb'⟩ : ∃ b', bs[k]? = some b' := ⟨_, List.getElem?_eq_getElem hk⟩
      rw [M.yes k b' hb' hr] at hb
      obtain rfl := Option.some.inj hb
      rw [M.len]
      exact T.at_ k b' hb'
    · rw [M.no k hk hr] at hb
      obtain rfl := Option.some.inj hb
      refine ⟨rfl, by decide +kernel, ?_⟩
      simp [goalsOk, goalsL, retB]
theorem Masked.run {bs bs' : List Blk} (M : Masked bs bs') (T : GTaken bs) : ∀ (d a : Nat) (ws : List Int), bs.length - a ≤ d → Reaches bs a → grunX bs' pkt (bs'.length - a) a ws = grunX bs pkt (bs.length - a) a ws := by
  intro d
  induction d with
  | zero => intro a ws hd hr; have := hr.lt T; omega
  | succ d ih =>
    intro a ws hd hr
    have ha := hr.lt T
    have T' := M.taken T
    obtain ⟨b, hb⟩ : ∃ b, bs[a]? = some b := ⟨_, List.getElem?_eq_getElem ha⟩
    have hb' := M.yes a b hb hr
    by_cases hf : (codeX pkt b.code ws).1 = 0
    · cases hl : leaveX b (codeX pkt b.code ws).2.1 with
      | mk r k =>
        cases r with
        | inl v => rw [grunX_end hb hf hl, grunX_end hb' hf hl]
        | inr a' =>
          obtain ⟨hg, h1, h2⟩ := T.leave hb hl
          rw [grunX_go T hb hf hl, grunX_go T' hb' hf hl, ih a' _ (by omega) (hr.step hg)]
    · rw [grunX_fault hb hf, grunX_fault hb' hf]
theorem Masked.verd {bs bs' : List Blk} (M : Masked bs bs') (T : GTaken bs) : gcodeV bs' pkt = gcodeV bs pkt ∧ gverdV bs' pkt = gverdV bs pkt := by
  have T' := M.taken T
  have e1 : gcodeV bs' pkt = gcodeV bs pkt := by
    unfold gcodeV
    rw [T.check, T'.check]
  refine ⟨e1, ?_⟩
  have e2 := M.run (pkt := pkt) T bs.length 0 ws0 (by omega) .start
  rw [Nat.sub_zero, Nat.sub_zero] at e2
  unfold gverdV
  rw [e1, e2]
end
end Go.Proofs.Ytbchjihecdkfeaa
