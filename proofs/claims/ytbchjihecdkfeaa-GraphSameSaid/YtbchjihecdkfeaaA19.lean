/- A program's graph runs as the program: in plain words. -/
import Derived.Test.YtbchjihecdkfeaaA10
import Derived.Test.YtbchjihecdkfeaaVP6
namespace Go.Proofs.Ytbchjihecdkfeaa
open Go.Rd Go.RowKit
set_option linter.unusedVariables false
set_option linter.unusedSimpArgs false
section
variable {xs : List Ins} {pkt : List Int}
theorem endN_none {a j : Nat} (h1 : a < j) (h2 : j < endN xs a) : leadB xs j = false := nextLead_none (xs.length - (a + 1)) (a + 1) j h1 h2
theorem endN_lead {a : Nat} (ha : a < xs.length) (h : endN xs a < xs.length) : leadB xs (endN xs a) = true :=
  nextLead_at (xs := xs) (xs.length - (a + 1)) (a + 1) (by unfold endN at h; omega)
theorem headsN_step (k : Nat) : headsN xs k ≤ headsN xs (k + 1) := by
  rw [headsN]
  exact Nat.le_add_right _ _
theorem headsN_mono {a b : Nat} (h : a ≤ b) : headsN xs a ≤ headsN xs b := by
  obtain ⟨d, rfl⟩ := Nat.exists_eq_add_of_le h
  clear h
  induction d with
  | zero => exact Nat.le_refl _
  | succ d ih => exact Nat.le_trans ih (headsN_step _)
theorem headsN_lead {a : Nat} (h : leadB xs a = true) : headsN xs (a + 1) = headsN xs a + 1 := by rw [headsN, if_pos h]
theorem headsN_skip {a : Nat} : ∀ (d : Nat), (∀ j, a ≤ j → j < a + d → leadB xs j = false) → headsN xs (a + d) = headsN xs a
  | 0, h => rfl
  | d + 1, h => by
    rw [show a + (d + 1) = a + d + 1 by omega, headsN, if_neg (by rw [h (a + d) (by omega) (by omega)]; decide), Nat.add_zero]
    exact headsN_skip d fun j h1 h2 => h j h1 (by omega)
theorem headsN_end {a : Nat} (ha : a < xs.length) (hl : leadB xs a = true) : headsN xs (endN xs a) = headsN xs a + 1 := by
  obtain ⟨e1, e2⟩ := endN_gt ha
  have := headsN_skip (xs := xs) (a := a + 1) (endN xs a - (a + 1)) fun j h1 h2 => endN_none (a := a) (by omega) (by omega)
  rw [show a + 1 + (endN xs a - (a + 1)) = endN xs a by omega, headsN_lead hl] at this
  exact this
theorem numZ_lead {a : Nat} (h : leadB xs a = true) : numZ xs a = (headsN xs a : Int) := by
  rw [numZ, headsN_lead h]
  omega
/-- Each block of a program's graph: where it begins, and its number. -/
theorem of_at : ∀ (d a : Nat), xs.length - a ≤ d → a < xs.length → leadB xs a = true → ∀ (j : Nat) (B : Blk), (ofFrom xs (xs.length - a) a)[j]? = some B → ∃ b l, a ≤ b ∧ b < xs.length ∧ leadB xs b = true ∧ xs[endN xs b - 1]? = some l ∧ B = blockX xs b (endN xs b) l ∧ headsN xs b = headsN xs a + j := by
  intro d
  induction d with
  | zero => intro a hd ha; omega
  | succ d ih =>
    intro a hd ha hl j B hj
    obtain ⟨e1, e2⟩ := endN_gt ha
    obtain ⟨l, hle⟩ : ∃ l, xs[endN xs a - 1]? = some l := ⟨_, List.getElem?_eq_getElem (by omega)⟩
    rw [ofFrom_at ha (Nat.le_refl _) hle, ofFrom_fuel (xs.length - a - 1) (xs.length - endN xs a) (endN xs a) (by omega) (by omega)] at hj
    cases j with
    | zero =>
      have hj : blockX xs a (endN xs a) l = B := by simpa using hj
      exact ⟨a, l, Nat.le_refl _, ha, hl, hle, hj.symm, rfl⟩
    | succ j =>
      have hj : (ofFrom xs (xs.length - endN xs a) (endN xs a))[j]? = some B := by simpa using hj
      by_cases he : endN xs a < xs.length
      · obtain ⟨b, l', h1, h2, h3, h4, h5, h6⟩ := ih (endN xs a) (by omega) he (endN_lead ha he) j B hj
        exact ⟨b, l', by omega, h2, h3, h4, h5, by rw [h6, headsN_end ha hl]; omega⟩
      · rw [ofFrom_end _ _ (by omega)] at hj
        cases hj
theorem of_get : ∀ (d a : Nat), xs.length - a ≤ d → a < xs.length → leadB xs a = true → ∀ (b : Nat) (l : Ins), a ≤ b → b < xs.length → leadB xs b = true → xs[endN xs b - 1]? = some l → (ofFrom xs (xs.length - a) a)[headsN xs b - headsN xs a]? = some (blockX xs b (endN xs b) l) := by
  intro d
  induction d with
  | zero => intro a hd ha; omega
  | succ d ih =>
    intro a hd ha hl b l hab hb hlb hle
    obtain ⟨e1, e2⟩ := endN_gt ha
    obtain ⟨l', hle'⟩ : ∃ l, xs[endN xs a - 1]? = some l := ⟨_, List.getElem?_eq_getElem (by omega)⟩
    rw [ofFrom_at ha (Nat.le_refl _) hle', ofFrom_fuel (xs.length - a - 1) (xs.length - endN xs a) (endN xs a) (by omega) (by omega)]
    by_cases e : b = a
    · subst e
      rw [hle] at hle'
      obtain rfl := Option.some.inj hle'
      rw [Nat.sub_self]
      rfl
    · have hbe : endN xs a ≤ b := by
        rcases Nat.lt_or_ge b (endN xs a) with h | h
        · rw [endN_none (a := a) (by omega) h] at hlb
          cases hlb
        · exact h
      have he : endN xs a < xs.length := by omega
      have := ih (endN xs a) (by omega) he (endN_lead ha he) b l hbe hb hlb hle
      have hm := headsN_mono (xs := xs) hbe
      rw [headsN_end ha hl] at this hm
      rw [show headsN xs b - headsN xs a = (headsN xs b - (headsN xs a + 1)) + 1 by omega, List.getElem?_cons_succ]
      exact this
theorem of_length : ∀ (d a : Nat), xs.length - a ≤ d → a < xs.length → leadB xs a = true → (ofFrom xs (xs.length - a) a).length + headsN xs a = headsN xs xs.length := by
  intro d
  induction d with
  | zero => intro a hd ha; omega
  | succ d ih =>
    intro a hd ha hl
    obtain ⟨e1, e2⟩ := endN_gt ha
    obtain ⟨l', hle'⟩ : ∃ l, xs[endN xs a - 1]? = some l := ⟨_, List.getElem?_eq_getElem (by omega)⟩
    rw [ofFrom_at ha (Nat.le_refl _) hle', ofFrom_fuel (xs.length - a - 1) (xs.length - endN xs a) (endN xs a) (by omega) (by omega), List.length_cons]
    have hh := headsN_end ha hl
    by_cases he : endN xs a < xs.length
    · have := ih (endN xs a) (by omega) he (endN_lead ha he)
      omega
    · have hen : endN xs a = xs.length := by omega
      rw [hen] at hh ⊢
      rw [ofFrom_end _ _ (Nat.le_refl _), hh]
      show 0 + 1 + _ = _
      omega
theorem lead_zero : leadB xs 0 = true := leadB_true.2 (.inl rfl)
theorem headsN_zero : headsN xs 0 = 0 := rfl
theorem ofX_length (h : 0 < xs.length) : (ofX xs).length = headsN xs xs.length := by
  have := of_length (xs := xs) xs.length 0 (by omega) h lead_zero
  rw [Nat.sub_zero, headsN_zero, Nat.add_zero] at this
  exact this
theorem ofX_get {b : Nat} {l : Ins} (hb : b < xs.length) (hlb : leadB xs b = true) (hl : xs[endN xs b - 1]? = some l) : (ofX xs)[headsN xs b]? = some (blockX xs b (endN xs b) l) := by
  have := of_get (xs := xs) xs.length 0 (by omega) (by omega) lead_zero b l (Nat.zero_le _) hb hlb hl
  rw [Nat.sub_zero, headsN_zero, Nat.sub_zero] at this
  exact this
theorem ofX_at (h : 0 < xs.length) {j : Nat} {B : Blk} (hj : (ofX xs)[j]? = some B) : ∃ b l, b < xs.length ∧ leadB xs b = true ∧ xs[endN xs b - 1]? = some l ∧ B = blockX xs b (endN xs b) l ∧ headsN xs b = j := by
  obtain ⟨b, l, _, h2, h3, h4, h5, h6⟩ := of_at (xs := xs) xs.length 0 (by omega) h lead_zero j B (by rw [Nat.sub_zero]; exact hj)
  exact ⟨b, l, h2, h3, h4, h5, by rw [h6, headsN_zero]; omega⟩
/-- Inside a block, ahead of its last place, nothing jumps or returns. -/
theorem inside {b j : Nat} {i : Ins} (hb : b < xs.length) (h1 : b ≤ j) (h2 : j + 1 < endN xs b) (hi : xs[j]? = some i) : classOf i.c ≠ 5 ∧ classOf i.c ≠ 6 := by
  have hj := (List.getElem?_eq_some_iff.1 hi).1
  have hn := endN_none (xs := xs) (a := b) (j := j + 1) (by omega) h2
  rw [leadB_false] at hn
  constructor
  · intro h; exact hn (.inr ⟨j, i, hj, hi, .inl ⟨.inl h, rfl⟩⟩)
  · intro h; exact hn (.inr ⟨j, i, hj, hi, .inl ⟨.inr h, rfl⟩⟩)
/-- A jump leads to a block's beginning. -/
theorem goal_lead {j g : Nat} {i : Ins} (hi : xs[j]? = some i) (h5 : classOf i.c = 5) (hg : g = if i.c = 5 then j + 1 + i.k.toNat else j + 1 + i.t.toNat) : leadB xs g = true := by
  have hj := (List.getElem?_eq_some_iff.1 hi).1
  by_cases c5 : i.c = 5
  · rw [if_pos c5] at hg
    exact leadB_true.2 (.inr ⟨j, i, hj, hi, .inr (.inl ⟨c5, hg⟩)⟩)
  · rw [if_neg c5] at hg
    exact leadB_true.2 (.inr ⟨j, i, hj, hi, .inr (.inr ⟨h5, c5, .inl hg⟩)⟩)
theorem goal_lead2 {j : Nat} {i : Ins} (hi : xs[j]? = some i) (h5 : classOf i.c = 5) (c5 : i.c ≠ 5) : leadB xs (j + 1 + i.f.toNat) = true := by
  have hj := (List.getElem?_eq_some_iff.1 hi).1
  exact leadB_true.2 (.inr ⟨j, i, hj, hi, .inr (.inr ⟨h5, c5, .inr rfl⟩)⟩)
theorem bare_plain (i : Ins) : bareB (plainI i) = true := by
  unfold bareB plainI
  rw [decide_eq_true_iff]
  refine ⟨rfl, rfl, ?_⟩
  by_cases h : (usesB i.c).1 = true
  · exact .inl h
  · exact .inr (by show (if (usesB i.c).1 = true then i.k else 0) = 0; rw [if_neg h])
theorem plain_c (i : Ins) : (plainI i).c = i.c := rfl
theorem code_straight (T : Taken xs) {b : Nat} {l : Ins} (hb : b < xs.length) (hl : xs[endN xs b - 1]? = some l) : (blockX xs b (endN xs b) l).code.all straightB = true := by
  obtain ⟨e1, e2⟩ := endN_gt hb
  have pre : ((xs.take (endN xs b - 1)).drop b).all straightB = true := by
    rw [List.all_eq_true]
    intro i hi
    obtain ⟨k, hk⟩ := List.getElem?_of_mem hi
    rw [List.getElem?_drop, List.getElem?_take] at hk
    split at hk
    · rename_i hlt
      obtain ⟨h5, h6⟩ := inside hb (by omega) (by omega) hk
      exact decide_eq_true ⟨h5, h6, (T.at_ _ i hk).1⟩
    · cases hk
  rcases blockX_code (xs := xs) (a := b) (e := endN xs b) (l := l) with hc | ⟨⟨h5, h6⟩, hc⟩
  · rw [hc]; exact pre
  · rw [hc, List.all_append, pre]
    have : straightB l = true := decide_eq_true ⟨h5, h6, (T.at_ _ l hl).1⟩
    simp [this]
theorem sum_of : ∀ (d a : Nat), xs.length - a ≤ d → ((ofFrom xs (xs.length - a) a).map (·.code.length)).sum ≤ xs.length - a := by
  intro d
  induction d with
  | zero => intro a hd; rw [ofFrom_end _ _ (by omega)]; simp
  | succ d ih =>
    intro a hd
    by_cases ha : xs.length ≤ a
    · rw [ofFrom_end _ _ ha]; simp
    have ha : a < xs.length := by omega
    obtain ⟨e1, e2⟩ := endN_gt ha
    obtain ⟨l', hle'⟩ : ∃ l, xs[endN xs a - 1]? = some l := ⟨_, List.getElem?_eq_getElem (by omega)⟩
    rw [ofFrom_at ha (Nat.le_refl _) hle', ofFrom_fuel (xs.length - a - 1) (xs.length - endN xs a) (endN xs a) (by omega) (by omega), List.map_cons, List.sum_cons]
    have := ih (endN xs a) (by omega)
    have hc : (blockX xs a (endN xs a) l').code.length ≤ endN xs a - a := by
      have h1 : ((xs.take (endN xs a - 1)).drop a).length = endN xs a - 1 - a := by rw [List.length_drop, List.length_take]; omega
      rcases blockX_code (xs := xs) (a := a) (e := endN xs a) (l := l') with hc | ⟨_, hc⟩
      · rw [hc, h1]; omega
      · rw [hc, List.length_append, h1]
        show endN xs a - 1 - a + 1 ≤ _
        omega
    omega
/-- The block's kinds. -/
theorem blockX_kind (T : Taken xs) (hok : Inss xs) {b : Nat} {l : Ins} (hb : b < xs.length) (hlb : leadB xs b = true) (hl : xs[endN xs b - 1]? = some l) :
    endedB (blockX xs b (endN xs b) l) = true ∧ goalsOk (blockX xs b (endN xs b) l) (headsN xs b) (headsN xs xs.length) = true := by
  obtain ⟨e1, e2⟩ := endN_gt hb
  have hlo := hok l (List.mem_of_getElem? hl)
  obtain ⟨_, ⟨t0, t1⟩, ⟨f0, f1⟩, k0, k1⟩ := hlo
  have hhe := headsN_end hb hlb
  have good : ∀ g : Nat, endN xs b ≤ g → g < xs.length → leadB xs g = true → ((headsN xs b : Int) < numZ xs g ∧ numZ xs g < (headsN xs xs.length : Int)) := by
    intro g h1 h2 h3
    rw [numZ_lead h3]
    have m1 := headsN_mono (xs := xs) h1
    have m2 := headsN_mono (xs := xs) (show g + 1 ≤ xs.length by omega)
    rw [headsN_lead h3] at m2
    omega
  unfold blockX
  split
  · rename_i h6
    refine ⟨?_, ?_⟩
    · simp [endedB, plain_c, h6, bare_plain]
    · simp [goalsOk, goalsL]
  · rename_i h6
    split
    · rename_i c5
      have h5 : classOf l.c = 5 := by rw [c5]; rfl
      have hg := T.goal hl h5
      rw [if_pos c5] at hg
      have hgl := goal_lead (g := endN xs b + l.k.toNat) hl h5 (by rw [if_pos c5]; omega)
      refine ⟨by simp [endedB], ?_⟩
      have := good (endN xs b + l.k.toNat) (by omega) (by omega) hgl
      simp [goalsOk, goalsL, this]
    · rename_i c5
      split
      · rename_i h5
        have hg := T.goal hl h5
        rw [if_neg c5] at hg
        have hgl := goal_lead (g := endN xs b + l.t.toNat) hl h5 (by rw [if_neg c5]; omega)
        have hgl2 := goal_lead2 hl h5 c5
        rw [show endN xs b - 1 + 1 + l.f.toNat = endN xs b + l.f.toNat by omega] at hgl2
        refine ⟨by simp [endedB, plain_c, h5, c5, bare_plain], ?_⟩
        have g1 := good (endN xs b + l.t.toNat) (by omega) (by omega) hgl
        have g2 := good (endN xs b + l.f.toNat) (by omega) (by omega) hgl2
        simp [goalsOk, goalsL, g1, g2]
      · have hnx := T.next hl h6
        have he : endN xs b < xs.length := by omega
        refine ⟨by simp [endedB], ?_⟩
        have g1 := good (endN xs b) (Nat.le_refl _) he (endN_lead hb he)
        simp [goalsOk, goalsL, g1]
theorem ofX_taken (T : Taken xs) (hok : Inss xs) : GTaken (ofX xs) := by
  have h0 := T.pos
  have hlen := ofX_length h0
  refine ⟨?_, ?_, ?_, fun k B hk => ?_⟩
  · rw [hlen]
    have := headsN_mono (xs := xs) (show 1 ≤ xs.length by omega)
    rw [headsN_lead lead_zero] at this
    omega
  · exact Nat.le_trans (ofFrom_length _ _) T.le
  · have := sum_of (xs := xs) xs.length 0 (by omega)
    rw [Nat.sub_zero] at this
    exact Nat.le_trans this T.le
  · obtain ⟨b, l, hb, hlb, hl, rfl, rfl⟩ := ofX_at h0 hk
    obtain ⟨k1, k2⟩ := blockX_kind T hok hb hlb hl
    rw [hlen]
    exact ⟨code_straight T hb hl, k1, k2⟩
/-! ## Runs -/

/-- How many places hold a Ja. -/
def jaN (xs : List Ins) (tr : List Nat) : Nat := tr.countP fun p => match xs[p]? with
  | none => false
  | some i => i.c == 5
theorem jaN_nil : jaN xs [] = 0 := rfl
theorem jaN_cons {p : Nat} {i : Ins} (hi : xs[p]? = some i) (tr : List Nat) : jaN xs (p :: tr) = jaN xs tr + if i.c = 5 then 1 else 0 := by
  unfold jaN
  rw [List.countP_cons, hi]
  by_cases h : i.c = 5 <;> simp [h]
/-- A stretch of instructions that go straight on. -/
theorem run_code : ∀ (d a m : Nat) (ws : List Int), m - a = d → a ≤ m → m ≤ xs.length → (∀ j i, a ≤ j → j < m → xs[j]? = some i → classOf i.c ≠ 5 ∧ classOf i.c ≠ 6) →
    ((codeX pkt ((xs.take m).drop a) ws).1 ≠ 0 → (runX xs pkt (xs.length - a) a ws).1 = (0, (codeX pkt ((xs.take m).drop a) ws).1) ∧ (codeX pkt ((xs.take m).drop a) ws).2.2 = (runX xs pkt (xs.length - a) a ws).2.length ∧ jaN xs (runX xs pkt (xs.length - a) a ws).2 = 0) ∧
    ((codeX pkt ((xs.take m).drop a) ws).1 = 0 → (runX xs pkt (xs.length - a) a ws).1 = (runX xs pkt (xs.length - m) m (codeX pkt ((xs.take m).drop a) ws).2.1).1 ∧ (runX xs pkt (xs.length - a) a ws).2.length = (codeX pkt ((xs.take m).drop a) ws).2.2 + (runX xs pkt (xs.length - m) m (codeX pkt ((xs.take m).drop a) ws).2.1).2.length ∧ jaN xs (runX xs pkt (xs.length - a) a ws).2 = jaN xs (runX xs pkt (xs.length - m) m (codeX pkt ((xs.take m).drop a) ws).2.1).2) := by
  intro d
  induction d with
  | zero =>
    intro a m ws hd ham hm hs
    obtain rfl : a = m := by omega
    have e : (xs.take a).drop a = [] := List.drop_eq_nil_of_le (by rw [List.length_take]; omega)
    rw [e]
    exact ⟨fun h => absurd rfl h, fun _ => ⟨rfl, by show _ = 0 + _; rw [Nat.zero_add]; rfl, rfl⟩⟩
  | succ d ih =>
    intro a m ws hd ham hm hs
    obtain ⟨i, hi⟩ : ∃ i, xs[a]? = some i := ⟨_, List.getElem?_eq_getElem (by omega)⟩
    obtain ⟨h5, h6⟩ := hs a i (Nat.le_refl a) (by omega) hi
    have e : (xs.take m).drop a = i :: (xs.take m).drop (a + 1) := by
      have : (xs.take m)[a]? = some i := by rw [List.getElem?_take, if_pos (by omega)]; exact hi
      obtain ⟨hlt, he⟩ := List.getElem?_eq_some_iff.1 this
      rw [List.drop_eq_getElem_cons hlt, he]
    have hr := runX_at (pkt := pkt) (n := xs.length) (ws := ws) rfl hi
    have n5 : i.c ≠ 5 := fun h => h5 (by rw [h]; rfl)
    rw [e, codeX]
    by_cases hf : (stepX pkt i ws).1 = 0
    · rw [if_neg (not_not_intro hf)]
      rw [nextX_step h5 h6 hf] at hr
      simp only at hr
      obtain ⟨i1, i2⟩ := ih (a + 1) m (stepX pkt i ws).2 (by omega) (by omega) hm fun j y h1 h2 => hs j y (by omega) h2
      rw [hr]
      simp only
      refine ⟨fun h => ?_, fun h => ?_⟩
      · obtain ⟨j1, j2, j3⟩ := i1 h
        refine ⟨j1, by rw [j2]; rfl, ?_⟩
        rw [jaN_cons hi, if_neg n5, j3]
      · obtain ⟨j1, j2, j3⟩ := i2 h
        refine ⟨j1, by rw [List.length_cons, j2]; omega, ?_⟩
        rw [jaN_cons hi, if_neg n5, j3, Nat.add_zero]
    · rw [if_pos hf]
      rw [nextX_fault h5 h6 hf] at hr
      simp only at hr
      rw [hr]
      simp only
      refine ⟨fun _ => ⟨trivial, rfl, ?_⟩, fun h => absurd h hf⟩
      rw [jaN_cons hi, if_neg n5, jaN_nil]
theorem right_plain {l : Ins} {ws : List Int} (h : l.c ∈ testL) : rightX (plainI l) ws = rightX l ws := by
  have h1 : ∀ c ∈ testL, andI .u16 c 8 ≠ 0 ∨ (usesB c).1 = true := by decide +kernel
  unfold rightX plainI
  simp only
  split
  · rfl
  · rename_i hx
    rcases h1 l.c h with h2 | h2
    · exact absurd h2 hx
    · rw [if_pos h2]
theorem jump_test {c : Int} (h5 : classOf c = 5) (n5 : c ≠ 5) : c ∈ testL := by
  have h1 : ∀ x ∈ knownL ++ (aluL ++ testL), classOf x = 5 → x = 5 ∨ x ∈ testL := by decide +kernel
  have hk : isKnown c = true := by
    unfold classOf at h5
    split at h5
    · assumption
    · cases h5
  exact (h1 c (of_decide_eq_true hk) h5).resolve_left n5
/-- The graph of a program runs as the program. -/
theorem same_run (T : Taken xs) (hok : Inss xs) : ∀ (d b : Nat) (ws : List Int), xs.length - b ≤ d → b < xs.length → leadB xs b = true →
    (grunX (ofX xs) pkt ((ofX xs).length - headsN xs b) (headsN xs b) ws).1 = (runX xs pkt (xs.length - b) b ws).1.1 ∧ (grunX (ofX xs) pkt ((ofX xs).length - headsN xs b) (headsN xs b) ws).2.1 = (runX xs pkt (xs.length - b) b ws).1.2 ∧
      (grunX (ofX xs) pkt ((ofX xs).length - headsN xs b) (headsN xs b) ws).2.2 + jaN xs (runX xs pkt (xs.length - b) b ws).2 = (runX xs pkt (xs.length - b) b ws).2.length := by
  have T' := ofX_taken T hok
  intro d
  induction d with
  | zero => intro b ws hd hb; omega
  | succ d ih =>
    intro b ws hd hb hlb
    obtain ⟨e1, e2⟩ := endN_gt hb
    obtain ⟨l, hl⟩ : ∃ l, xs[endN xs b - 1]? = some l := ⟨_, List.getElem?_eq_getElem (by omega)⟩
    have hlo := hok l (List.mem_of_getElem? hl)
    obtain ⟨_, ⟨t0, t1⟩, ⟨f0, f1⟩, k0, k1⟩ := hlo
    have hB := ofX_get hb hlb hl
    have hcode := blockX_code (xs := xs) (a := b) (e := endN xs b) (l := l)
    -- what a goal is
    have goals : ∀ (g : Nat) (ws' : List Int), endN xs b ≤ g → g < xs.length → leadB xs g = true → (numZ xs g).toNat = headsN xs g ∧ ((grunX (ofX xs) pkt ((ofX xs).length - headsN xs g) (headsN xs g) ws').1 = (runX xs pkt (xs.length - g) g ws').1.1 ∧ (grunX (ofX xs) pkt ((ofX xs).length - headsN xs g) (headsN xs g) ws').2.1 = (runX xs pkt (xs.length - g) g ws').1.2 ∧ (grunX (ofX xs) pkt ((ofX xs).length - headsN xs g) (headsN xs g) ws').2.2 + jaN xs (runX xs pkt (xs.length - g) g ws').2 = (runX xs pkt (xs.length - g) g ws').2.length) := by
      intro g ws' h1 h2 h3
      refine ⟨by rw [numZ_lead h3]; exact Int.toNat_natCast _, ih g ws' (by omega) h2 h3⟩
    by_cases h56 : classOf l.c = 5 ∨ classOf l.c = 6
    · -- a jump or a return at the end
      have hc : (blockX xs b (endN xs b) l).code = (xs.take (endN xs b - 1)).drop b := by
        rcases hcode with hc | ⟨⟨h5, h6⟩, _⟩
        · exact hc
        · exact absurd h56 (by rintro (h | h); exact h5 h; exact h6 h)
      obtain ⟨r1, r2⟩ := run_code (xs := xs) (pkt := pkt) (endN xs b - 1 - b) b (endN xs b - 1) ws rfl (by omega) (by omega) fun j i h1 h2 hi => inside hb h1 (by omega) hi
      rw [← hc] at r1 r2
      by_cases hf : (codeX pkt (blockX xs b (endN xs b) l).code ws).1 = 0
      · obtain ⟨q1, q2, q3⟩ := r2 hf
        have hr := runX_at (pkt := pkt) (n := xs.length) (ws := (codeX pkt (blockX xs b (endN xs b) l).code ws).2.1) rfl hl
        by_cases h6 : classOf l.c = 6
        · have hBk : (blockX xs b (endN xs b) l).e = 1 ∧ (blockX xs b (endN xs b) l).last = plainI l := by
            unfold blockX
            rw [if_pos h6]
            exact ⟨rfl, rfl⟩
          have hlv : leaveX (blockX xs b (endN xs b) l) (codeX pkt (blockX xs b (endN xs b) l).code ws).2.1 = (.inl (if l.c = 22 then wd (codeX pkt (blockX xs b (endN xs b) l).code ws).2.1 0 else l.k), 1) := by
            unfold leaveX
            rw [if_neg (by rw [hBk.1]; decide), if_pos hBk.1, hBk.2, plain_c]
            by_cases c22 : l.c = 22
            · rw [if_pos c22, if_pos c22]
            · have c6 := ((ret_iff l.c).1 h6).resolve_right c22
              have hu : (usesB l.c).1 = true := by rw [c6]; decide +kernel
              have hk : (plainI l).k = l.k := by unfold plainI; simp only; rw [if_pos hu]
              rw [if_neg c22, if_neg c22, hk]
          rw [nextX_ret h6] at hr
          simp only at hr
          rw [grunX_end hB hf hlv, q1, q2, q3, hr]
          simp only
          have n5 : l.c ≠ 5 := fun h => by rw [h] at h6; revert h6; decide
          refine ⟨trivial, trivial, ?_⟩
          rw [jaN_cons hl, if_neg n5, jaN_nil]
          rfl
        · have h5 := h56.resolve_right h6
          have hg := T.goal hl h5
          rw [nextX_jump h5] at hr
          simp only at hr
          by_cases c5 : l.c = 5
          · rw [if_pos c5] at hg
            have hBk : (blockX xs b (endN xs b) l).e = 2 ∧ (blockX xs b (endN xs b) l).yes = numZ xs (endN xs b + l.k.toNat) := by
              unfold blockX
              rw [if_neg h6, if_pos c5]
              exact ⟨rfl, rfl⟩
            have eg : goalX l (endN xs b - 1) (codeX pkt (blockX xs b (endN xs b) l).code ws).2.1 = endN xs b + l.k.toNat := by
              unfold goalX
              rw [if_pos c5]
              omega
            rw [eg] at hr
            have hgl := goal_lead (g := endN xs b + l.k.toNat) hl h5 (by rw [if_pos c5]; omega)
            obtain ⟨g1, g2, g3, g4⟩ := goals (endN xs b + l.k.toNat) (codeX pkt (blockX xs b (endN xs b) l).code ws).2.1 (by omega) (by omega) hgl
            have hlv : leaveX (blockX xs b (endN xs b) l) (codeX pkt (blockX xs b (endN xs b) l).code ws).2.1 = (.inr (headsN xs (endN xs b + l.k.toNat)), 0) := by
              unfold leaveX
              rw [if_pos hBk.1, hBk.2, g1]
            rw [grunX_go T' hB hf hlv, q1, q2, q3, hr]
            simp only
            refine ⟨g2, g3, ?_⟩
            rw [jaN_cons hl, if_pos c5, List.length_cons]
            omega
          · rw [if_neg c5] at hg
            have hBk : (blockX xs b (endN xs b) l).e = 3 ∧ (blockX xs b (endN xs b) l).last = plainI l ∧ (blockX xs b (endN xs b) l).yes = numZ xs (endN xs b + l.t.toNat) ∧ (blockX xs b (endN xs b) l).no = numZ xs (endN xs b + l.f.toNat) := by
              unfold blockX
              rw [if_neg h6, if_neg c5, if_pos h5]
              exact ⟨rfl, rfl, rfl, rfl⟩
            have hgl := goal_lead (g := endN xs b + l.t.toNat) hl h5 (by rw [if_neg c5]; omega)
            have hgl2 := goal_lead2 hl h5 c5
            rw [show endN xs b - 1 + 1 + l.f.toNat = endN xs b + l.f.toNat by omega] at hgl2
            have hlv0 : leaveX (blockX xs b (endN xs b) l) (codeX pkt (blockX xs b (endN xs b) l).code ws).2.1 = (.inr (if askX l.c (wd (codeX pkt (blockX xs b (endN xs b) l).code ws).2.1 0) (rightX l (codeX pkt (blockX xs b (endN xs b) l).code ws).2.1) = true then (numZ xs (endN xs b + l.t.toNat)).toNat else (numZ xs (endN xs b + l.f.toNat)).toNat), 1) := by
              unfold leaveX
              rw [if_neg (by rw [hBk.1]; decide), if_neg (by rw [hBk.1]; decide), hBk.2.1, plain_c, right_plain (jump_test h5 c5), hBk.2.2.1, hBk.2.2.2]
            have eg : goalX l (endN xs b - 1) (codeX pkt (blockX xs b (endN xs b) l).code ws).2.1 = if askX l.c (wd (codeX pkt (blockX xs b (endN xs b) l).code ws).2.1 0) (rightX l (codeX pkt (blockX xs b (endN xs b) l).code ws).2.1) = true then endN xs b + l.t.toNat else endN xs b + l.f.toNat := by
              unfold goalX
              rw [if_neg c5, show endN xs b - 1 + 1 = endN xs b by omega]
            by_cases ha : askX l.c (wd (codeX pkt (blockX xs b (endN xs b) l).code ws).2.1 0) (rightX l (codeX pkt (blockX xs b (endN xs b) l).code ws).2.1) = true
            · rw [if_pos ha] at hlv0 eg
              rw [eg] at hr
              obtain ⟨g1, g2, g3, g4⟩ := goals (endN xs b + l.t.toNat) (codeX pkt (blockX xs b (endN xs b) l).code ws).2.1 (by omega) (by omega) hgl
              rw [g1] at hlv0
              rw [grunX_go T' hB hf hlv0, q1, q2, q3, hr]
              simp only
              refine ⟨g2, g3, ?_⟩
              rw [jaN_cons hl, if_neg c5, List.length_cons]
              omega
            · rw [if_neg ha] at hlv0 eg
              rw [eg] at hr
              obtain ⟨g1, g2, g3, g4⟩ := goals (endN xs b + l.f.toNat) (codeX pkt (blockX xs b (endN xs b) l).code ws).2.1 (by omega) (by omega) hgl2
              rw [g1] at hlv0
              rw [grunX_go T' hB hf hlv0, q1, q2, q3, hr]
              simp only
              refine ⟨g2, g3, ?_⟩
              rw [jaN_cons hl, if_neg c5, List.length_cons]
              omega
      · obtain ⟨q1, q2, q3⟩ := r1 hf
        rw [grunX_fault hB hf, q1, q3, q2]
        exact ⟨rfl, rfl, rfl⟩
    · -- it goes straight on to the next
      have h5 : classOf l.c ≠ 5 := fun h => h56 (.inl h)
      have h6 : classOf l.c ≠ 6 := fun h => h56 (.inr h)
      have n5 : l.c ≠ 5 := fun h => h5 (by rw [h]; rfl)
      have hnx := T.next hl h6
      have he : endN xs b < xs.length := by omega
      have hBk : blockX xs b (endN xs b) l = ⟨(xs.take (endN xs b - 1)).drop b ++ [l], 2, ins0, numZ xs (endN xs b), 0⟩ := by
        unfold blockX
        rw [if_neg h6, if_neg n5, if_neg h5]
      have hc : (blockX xs b (endN xs b) l).code = (xs.take (endN xs b)).drop b := by
        rw [hBk]
        have hlt := (List.getElem?_eq_some_iff.1 hl).1
        have : (xs.take (endN xs b - 1 + 1)).drop b = (xs.take (endN xs b - 1)).drop b ++ [l] := by
          rw [List.take_add_one, hl, List.drop_append_of_le_length (by rw [List.length_take]; omega)]
          rfl
        rw [show endN xs b - 1 + 1 = endN xs b by omega] at this
        exact this.symm
      obtain ⟨r1, r2⟩ := run_code (xs := xs) (pkt := pkt) (endN xs b - b) b (endN xs b) ws rfl (by omega) (by omega) fun j i h1 h2 hi => by
        by_cases hj : j + 1 < endN xs b
        · exact inside hb h1 hj hi
        · obtain rfl : j = endN xs b - 1 := by omega
          rw [hl] at hi
          obtain rfl := Option.some.inj hi
          exact ⟨h5, h6⟩
      rw [← hc] at r1 r2
      by_cases hf : (codeX pkt (blockX xs b (endN xs b) l).code ws).1 = 0
      · obtain ⟨q1, q2, q3⟩ := r2 hf
        obtain ⟨g1, g2, g3, g4⟩ := goals (endN xs b) (codeX pkt (blockX xs b (endN xs b) l).code ws).2.1 (Nat.le_refl _) he (endN_lead hb he)
        have hlv : leaveX (blockX xs b (endN xs b) l) (codeX pkt (blockX xs b (endN xs b) l).code ws).2.1 = (.inr (headsN xs (endN xs b)), 0) := by
          have h1 : (blockX xs b (endN xs b) l).e = 2 := by rw [hBk]
          have h2 : (blockX xs b (endN xs b) l).yes = numZ xs (endN xs b) := by rw [hBk]
          unfold leaveX
          rw [if_pos h1, h2, g1]
        rw [grunX_go T' hB hf hlv, q1, q2, q3]
        simp only
        refine ⟨g2, g3, ?_⟩
        omega
      · obtain ⟨q1, q2, q3⟩ := r1 hf
        rw [grunX_fault hB hf, q1, q3, q2]
        exact ⟨rfl, rfl, rfl⟩
/-- Of a program that is taken, and a packet. -/
theorem same_verd (hok : Inss xs) (h : codeV xs pkt = 0) : gcodeV (ofX xs) pkt = 0 ∧ (gverdV (ofX xs) pkt).1 = (verdV xs pkt).1 ∧ (gverdV (ofX xs) pkt).2.1 = (verdV xs pkt).2.1 ∧ (gverdV (ofX xs) pkt).2.2 + (jaN xs (runV xs pkt).2 : Int) = (verdV xs pkt).2.2 := by
  obtain ⟨hc0, hlen⟩ := codeV_zero h
  obtain ⟨T, _⟩ := taken_of hc0
  have T' := ofX_taken T hok
  have e1 : gcodeV (ofX xs) pkt = 0 := by
    unfold gcodeV
    rw [T'.check, if_neg (by decide), if_neg (by omega)]
  obtain ⟨s1, s2, s3⟩ := same_run (pkt := pkt) T hok xs.length 0 ws0 (by omega) T.pos lead_zero
  rw [headsN_zero, Nat.sub_zero, Nat.sub_zero] at s1 s2 s3
  refine ⟨e1, ?_⟩
  rw [gverdV, if_pos e1, verdV, if_pos h, runV]
  refine ⟨s1, s2, ?_⟩
  show ((grunX (ofX xs) pkt (ofX xs).length 0 ws0).2.2 : Int) + (jaN xs (runX xs pkt xs.length 0 ws0).2 : Int) = ((runX xs pkt xs.length 0 ws0).2.length : Int)
  omega
end
end Go.Proofs.Ytbchjihecdkfeaa
