/- What is true of every run. -/
import Derived.Test.YtllooifbiapeoaaD10
import Derived.Test.YtllooifbiapeoaaIUses
namespace Go.Proofs.Ytllooifbiapeoaa
open Go.Rd Go.RowKit
set_option linter.unusedVariables false
set_option linter.unusedSimpArgs false
set_option maxRecDepth 100000

theorem VAt.c0 {w : World} {b : Nat} {x : Int × Int × Int} (h : VAt w b x) : w.cell? ⟨b, 0, none⟩ = some (.int .u32 x.1) := (cell_of h).trans rfl
theorem VAt.c1 {w : World} {b : Nat} {x : Int × Int × Int} (h : VAt w b x) : w.cell? ((Addr.mk b 0 none).add 1) = some (.int .i64 x.2.1) := by rw [add_mk]; exact (cell_of h).trans rfl
theorem VAt.c2 {w : World} {b : Nat} {x : Int × Int × Int} (h : VAt w b x) : w.cell? ((Addr.mk b 0 none).add 2) = some (.int .i64 x.2.2) := by rw [add_mk]; exact (cell_of h).trans rfl
/-- Where an instruction may go. -/
def goes (i : Ins) (a g : Nat) : Prop := if i.c = 5 then g = a + 1 + i.k.toNat else if classOf i.c = 5 then g = a + 1 + i.t.toNat ∨ g = a + 1 + i.f.toNat else classOf i.c ≠ 6 ∧ g = a + 1
theorem reachStep_mono {k j : Nat} {i : Ins} {out : List Bool} (h : out[j]? = some true) : (reachStep k i out)[j]? = some true := by
  have st : ∀ (o : List Bool) (g : Nat), o[j]? = some true → (o.set g true)[j]? = some true := by
    intro o g ho
    have hj := (List.getElem?_eq_some_iff.1 ho).1
    by_cases e : g = j
    · subst e
      rw [List.getElem?_set_self hj]
    · rw [List.getElem?_set_ne e]
      exact ho
  unfold reachStep
  split
  · split
    · exact st _ _ h
    · split
      · exact st _ _ (st _ _ h)
      · split
        · exact st _ _ h
        · exact h
  · exact h
theorem reachFrom_mono : ∀ {xs : List Ins} {k j : Nat} {out : List Bool}, out[j]? = some true → (reachFrom k xs out)[j]? = some true
  | [], _, _, _, h => h
  | i :: r, k, j, out, h => reachFrom_mono (xs := r) (reachStep_mono h)
theorem reachStep_low {k j : Nat} {i : Ins} {out : List Bool} (h : j ≤ k) : (reachStep k i out)[j]? = out[j]? := by
  have st : ∀ (o : List Bool) (g : Nat), k < g → (o.set g true)[j]? = o[j]? := fun o g hg => List.getElem?_set_ne (by omega)
  unfold reachStep
  split
  · split
    · exact st _ _ (by omega)
    · split
      · rw [st _ _ (by omega), st _ _ (by omega)]
      · split
        · exact st _ _ (by omega)
        · rfl
  · rfl
theorem reachFrom_low : ∀ {xs : List Ins} {k j : Nat} {out : List Bool}, j ≤ k → (reachFrom k xs out)[j]? = out[j]?
  | [], _, _, _, _ => rfl
  | i :: r, k, j, out, h => by rw [reachFrom, reachFrom_low (xs := r) (by omega), reachStep_low h]
theorem reachStep_goes {k g : Nat} {i : Ins} {out : List Bool} (h : out[k]? = some true) (hg : goes i k g) (hl : g < out.length) : (reachStep k i out)[g]? = some true := by
  unfold goes at hg
  unfold reachStep
  rw [if_pos h]
  split at hg
  · rename_i h5
    rw [if_pos h5, hg, List.getElem?_set_self (by omega)]
  · rename_i h5
    rw [if_neg h5]
    split at hg
    · rename_i hc
      rw [if_pos hc]
      rcases hg with e | e
      · by_cases hh : k + 1 + i.f.toNat = g
        · rw [hh, List.getElem?_set_self (by rw [List.length_set]; exact hl)]
        · rw [List.getElem?_set_ne hh, e, List.getElem?_set_self (by omega)]
      · rw [e, List.getElem?_set_self (by rw [List.length_set]; omega)]
    · rename_i hc
      rw [if_neg hc, if_pos hg.1, hg.2, List.getElem?_set_self (by omega)]
theorem reachFrom_goes : ∀ {xs : List Ins} {k j g : Nat} {i : Ins} {out : List Bool}, xs[j]? = some i → (reachFrom k xs out)[k + j]? = some true → goes i (k + j) g → g < out.length → (reachFrom k xs out)[g]? = some true
  | [], _, _, _, _, _, h, _, _, _ => by cases h
  | x :: r, k, 0, g, i, out, h, hr, hg, hl => by
    obtain rfl : x = i := by simpa using h
    rw [reachFrom] at hr ⊢
    rw [reachFrom_low (xs := r) (by omega), reachStep_low (by omega)] at hr
    exact reachFrom_mono (reachStep_goes hr hg hl)
  | x :: r, k, j + 1, g, i, out, h, hr, hg, hl => by
    rw [reachFrom] at hr ⊢
    have e : k + (j + 1) = k + 1 + j := by omega
    rw [e] at hr hg
    exact reachFrom_goes (xs := r) (by simpa using h) hr hg (by rw [reachStep_length]; exact hl)
theorem reachV_goes {xs : List Ins} {a g : Nat} {i : Ins} (h : xs[a]? = some i) (hr : (reachV xs)[a]? = some true) (hg : goes i a g) (hl : g < xs.length) : (reachV xs)[g]? = some true := by
  have := reachFrom_goes (k := 0) (j := a) (g := g) h (by rw [Nat.zero_add]; exact hr) (by rw [Nat.zero_add]; exact hg) (out := (List.replicate xs.length false).set 0 true) (by simpa using hl)
  exact this
theorem reachV_zero {xs : List Ins} (h : 0 < xs.length) : (reachV xs)[0]? = some true := by
  unfold reachV
  rw [reachFrom_low (Nat.le_refl _), List.getElem?_set_self (by simpa using h)]
theorem nextX_goes {pkt : List Int} {i : Ins} {a : Nat} {ws : List Int} {r : Nat × List Int} (h : nextX pkt i a ws = .inr r) : goes i a r.1 := by
  unfold goes
  by_cases h6 : classOf i.c = 6
  · rw [nextX_ret h6] at h; cases h
  by_cases h5 : classOf i.c = 5
  · rw [nextX_jump h5] at h
    obtain rfl := Sum.inr.inj h
    show if i.c = 5 then Go.Proofs.Ytllooifbiapeoaa.goalX i a ws = _ else _
    split
    · rename_i hc
      show Go.Proofs.Ytllooifbiapeoaa.goalX i a ws = _
      unfold Go.Proofs.Ytllooifbiapeoaa.goalX
      rw [if_pos hc]
    · rename_i hc
      show Go.Proofs.Ytllooifbiapeoaa.goalX i a ws = _ ∨ Go.Proofs.Ytllooifbiapeoaa.goalX i a ws = _
      unfold Go.Proofs.Ytllooifbiapeoaa.goalX
      rw [if_neg hc]
      split
      · exact .inl rfl
      · exact .inr rfl
  have hc : i.c ≠ 5 := fun hc => h5 ((jmp_iff _).2 (.inl hc))
  rw [if_neg hc, if_neg h5]
  refine ⟨h6, ?_⟩
  by_cases hf : (stepX pkt i ws).1 = 0
  · rw [nextX_step h5 h6 hf] at h
    obtain rfl := Sum.inr.inj h
    rfl
  · rw [nextX_fault h5 h6 hf] at h; cases h
theorem goes_lt {xs : List Ins} (T : Taken xs) (hok : Inss xs) {a g : Nat} {i : Ins} (hi : xs[a]? = some i) (h : goes i a g) : a < g ∧ g < xs.length := by
  obtain ⟨_, ⟨t0, t1⟩, ⟨f0, f1⟩, k0, k1⟩ := hok i (List.mem_of_getElem? hi)
  unfold goes at h
  by_cases h5 : classOf i.c = 5
  · have := T.goal hi h5
    split at h
    · rename_i hc
      rw [if_pos hc] at this
      omega
    · rename_i hc
      rw [if_neg hc] at this
      omega
  · have hc : i.c ≠ 5 := fun hc => h5 ((jmp_iff _).2 (.inl hc))
    rw [if_neg hc, if_neg h5] at h
    have := T.next hi h.1
    omega
/-- The codes that a fault may end. -/
theorem step_fault {pkt : List Int} {i : Ins} {ws : List Int} (hi : i.ok) (hf : faultOf i = 0) (h5 : classOf i.c ≠ 5) (h6 : classOf i.c ≠ 6) (h : (stepX pkt i ws).1 ≠ 0) : i.c ∈ mayFaultL := by
  obtain ⟨hk, hw⟩ := fault_zero hf
  have la : ∀ o : Option Int, i.c ∈ mayFaultL ∨ ¬ i.c ∈ mayFaultL := fun _ => Classical.em _
  apply Classical.byContradiction
  intro hm
  apply h
  by_cases hl : i.c ∈ [0, 32, 40, 48, 64, 72, 80, 96, 128, 1, 97, 129, 177, 2, 3, 132, 7, 135]
  · simp only [mayFaultL, List.mem_cons, List.not_mem_nil, or_false, not_or] at hm hl
    obtain ⟨m1, m2, m3, m4, m5, m6, m7, m8, m9⟩ := hm
    rcases hl with e | e | e | e | e | e | e | e | e | e | e | e | e | e | e | e | e | e
    all_goals first | contradiction | (unfold stepX; simp only [e]; rfl)
  · have hop := op_last hk h5 h6 hl
    simp only [List.mem_cons, List.not_mem_nil, or_false, not_or] at hl
    obtain ⟨n0, n32, n40, n48, n64, n72, n80, n96, n128, n1, n97, n129, n177, n2, n3, n132, n7, n135⟩ := hl
    have es : stepX pkt i ws = (match aluX i.c (wd ws 0) (rightX i ws) with | some v => (0, ws.set 0 v) | none => (2, ws)) := by
      rw [stepX, if_neg n0, if_neg n32, if_neg n40, if_neg n48, if_neg n64, if_neg n72, if_neg n80, if_neg n96, if_neg n128, if_neg n1, if_neg n97, if_neg n129, if_neg n177, if_neg n2, if_neg n3, if_neg n132, if_neg n7, if_neg n135]
      rfl
    rw [es]
    cases hx : aluX i.c (wd ws 0) (rightX i ws) with
    | some v => rfl
    | none =>
      exfalso
      -- none: a divisor that is 0, out of K: refused
      have h1 : ∀ c ∈ rOperationL, c ∉ mayFaultL → (opOf c = 4 ∨ opOf c = 20 ∨ opOf c = 36 ∨ opOf c = 68 ∨ opOf c = 84 ∨ opOf c = 164 ∨ opOf c = 100 ∨ opOf c = 116) ∨ ((c = 52 ∨ c = 148) ∧ andI .u16 c 8 = 0) := by decide +kernel
      rcases h1 i.c hop hm with h2 | ⟨h2, h8⟩
      · unfold aluX at hx
        rcases h2 with e | e | e | e | e | e | e | e <;> rw [e] at hx <;> cases hx
      · have er : rightX i ws = i.k := by rw [rightX, if_neg (not_not_intro h8)]
        have hk0 : i.k ≠ 0 := by
          intro h0
          unfold faultOf at hf
          rw [if_pos hk] at hf
          split at hf
          · cases hf
          · rw [if_pos ⟨h2, h0⟩] at hf
            cases hf
        unfold aluX at hx
        rw [er, if_neg hk0] at hx
        rcases h2 with e | e <;> rw [e] at hx <;> cases hx
/-- A run from a place on. -/
structure RunFrom (xs : List Ins) (a : Nat) (r : (Int × Int) × List Nat) : Prop where
  head : r.2[0]? = some a
  rise : ∀ (j p q : Nat), r.2[j]? = some p → r.2[j + 1]? = some q → p < q
  all : ∀ p ∈ r.2, p < xs.length ∧ (reachV xs)[p]? = some true
  last : ∃ p i, r.2[r.2.length - 1]? = some p ∧ xs[p]? = some i ∧ ((r.1.2 ≠ 0 ∧ r.1.1 = 0 ∧ i.c ∈ mayFaultL) ∨ (r.1.2 = 0 ∧ classOf i.c = 6 ∧ (i.c = 22 ∨ r.1.1 = i.k)))
theorem runX_facts {xs : List Ins} {pkt : List Int} (T : Taken xs) (hok : Inss xs) : ∀ (d a : Nat) (ws : List Int), xs.length - a ≤ d → a < xs.length → (reachV xs)[a]? = some true → RunFrom xs a (runX xs pkt (xs.length - a) a ws) := by
  intro d
  induction d with
  | zero => intro a ws h1 h2; omega
  | succ d ih =>
    intro a ws h1 h2 hr
    obtain ⟨i, hi⟩ : ∃ i, xs[a]? = some i := ⟨_, List.getElem?_eq_getElem h2⟩
    have hio := hok i (List.mem_of_getElem? hi)
    have hfa := (T.at_ a i hi).1
    rw [runX_at rfl hi]
    cases hn : nextX pkt i a ws with
    | inl r =>
      refine ⟨rfl, fun j p q hp hq => by simp at hq, fun p hp => ?_, a, i, rfl, hi, ?_⟩
      · obtain rfl : p = a := by simpa using hp
        exact ⟨h2, hr⟩
      · show (r.2 ≠ 0 ∧ r.1 = 0 ∧ _) ∨ (r.2 = 0 ∧ _ ∧ (_ ∨ r.1 = _))
        by_cases h6 : classOf i.c = 6
        · rw [nextX_ret h6] at hn
          obtain rfl := Sum.inl.inj hn
          refine .inr ⟨rfl, h6, ?_⟩
          by_cases h22 : i.c = 22
          · exact .inl h22
          · exact .inr (if_neg h22)
        · by_cases h5 : classOf i.c = 5
          · rw [nextX_jump h5] at hn; cases hn
          · by_cases hf : (stepX pkt i ws).1 = 0
            · rw [nextX_step h5 h6 hf] at hn; cases hn
            · rw [nextX_fault h5 h6 hf] at hn
              obtain rfl := Sum.inl.inj hn
              exact .inl ⟨hf, rfl, step_fault hio hfa h5 h6 hf⟩
    | inr r =>
      have g := nextX_goes hn
      obtain ⟨g1, g2⟩ := goes_lt T hok hi g
      obtain ⟨i1, i2, i3, p, x, i4, i5, i6⟩ := ih r.1 r.2 (by omega) g2 (reachV_goes hi hr g g2)
      have hne : (runX xs pkt (xs.length - r.1) r.1 r.2).2.length ≠ 0 := fun h0 => by
        rw [List.eq_nil_of_length_eq_zero h0] at i1
        cases i1
      refine ⟨rfl, fun j p q hp hq => ?_, fun p hp => ?_, p, x, ?_, i5, i6⟩
      · cases j with
        | zero =>
          obtain rfl : a = p := by simpa using hp
          have hq : (runX xs pkt (xs.length - r.1) r.1 r.2).2[0]? = some q := by simpa using hq
          rw [i1] at hq
          obtain rfl := Option.some.inj hq
          exact g1
        | succ j => exact i2 j p q (by simpa using hp) (by simpa using hq)
      · rcases List.mem_cons.1 hp with rfl | hp
        · exact ⟨h2, hr⟩
        · exact i3 p hp
      · show (a :: _)[(a :: _).length - 1]? = some p
        rw [List.length_cons, Nat.add_sub_cancel]
        obtain ⟨m, hm⟩ : ∃ m, (runX xs pkt (xs.length - r.1) r.1 r.2).2.length = m + 1 := ⟨_, (Nat.succ_pred_eq_of_ne_zero hne).symm⟩
        rw [hm] at i4 ⊢
        rw [List.getElem?_cons_succ]
        rw [Nat.add_sub_cancel] at i4
        exact i4
theorem runV_facts {xs : List Ins} {pkt : List Int} (T : Taken xs) (hok : Inss xs) : RunFrom xs 0 (runV xs pkt) := by
  have := runX_facts (pkt := pkt) T hok xs.length 0 ws0 (by omega) T.pos (reachV_zero T.pos)
  exact this
end Go.Proofs.Ytllooifbiapeoaa
