/- The document's Check of a graph. -/
import Derived.Test.YtbchjihecdkfeaaA2
import Derived.Test.YtbchjihecdkfeaaRUses
namespace Go.Proofs.Ytbchjihecdkfeaa
open Go.Rd Go.RowKit
set_option linter.unusedVariables false
set_option linter.unusedSimpArgs false
set_option maxRecDepth 100000

theorem class_eq (c : Int) : classOf c = rClassOf c := by unfold classOf rClassOf; rw [known_eq]
theorem uses_eq (c : Int) : usesB c = rUsesB c := by
  by_cases h : isKnown c = true
  · have h1 : ∀ x ∈ knownL ++ (aluL ++ testL), usesB x = rUsesB x := by decide +kernel
    exact h1 c (of_decide_eq_true h)
  · have h2 := h
    rw [known_eq] at h2
    unfold usesB rUsesB
    rw [if_neg h, if_neg h2]
theorem class_low (c : Int) : classOf c < 0 ↔ classOf c = -1 := by
  by_cases h : isKnown c = true
  · have h1 : ∀ x ∈ knownL ++ (aluL ++ testL), (classOf x < 0 ↔ classOf x = -1) := by decide +kernel
    exact h1 c (of_decide_eq_true h)
  · have h2 : classOf c = -1 := by unfold classOf; rw [if_neg h]
    rw [h2]
    decide
theorem straightB_of {i : Ins} (h1 : ¬ classOf i.c < 0) (h5 : classOf i.c ≠ 5) (h6 : classOf i.c ≠ 6) : straightB i = !(faultOf i != 0) := by
  unfold straightB
  by_cases hf : faultOf i = 0 <;> simp [h5, h6, hf]
theorem straightB_no {i : Ins} (h : classOf i.c < 0 ∨ classOf i.c = 5 ∨ classOf i.c = 6) : straightB i = false := by
  unfold straightB
  rw [decide_eq_false_iff_not]
  rintro ⟨n5, n6, hf⟩
  rcases h with h | h | h
  · rw [class_unknown ((class_low _).1 h)] at hf; cases hf
  · exact n5 h
  · exact n6 h
section
variable {w : World} {A : Option Addr} {n c : Nat} {xs : List Ins} {ps : List BP} {p : BP}
theorem rgcode_spec (hx : IInsns w A n xs) (hn : n ≤ 281474976710656) : Run Try.prog 42 #[.slice A n c] w fun v w' => v = .bool (xs.all straightB) ∧ Go.Rd.Ext w w' := by
  have hl := hx.len
  refine ref15_code.ok ?_
  suffices H : ∀ (d k : Nat), n - k = d → k ≤ n → (xs.take k).all straightB = true → ∀ (w' : World), Go.Rd.Ext w w' → ref15_code.L0 (fun v w' => v = .bool (xs.all straightB) ∧ Go.Rd.Ext w w') A n c k w' from H n 0 (by omega) (by omega) rfl w (Go.Rd.Ext.refl _)
  intro d
  induction d with
  | zero =>
    intro k hd hk ha w' x
    refine ref15_code.L0_step (ifP_no (by omega) ⟨?_, x⟩)
    rw [List.take_of_length_le (by omega)] at ha
    rw [ha]
  | succ d ih =>
    intro k hd hk ha w' x
    obtain ⟨q, i, hq, hi, h4⟩ := IInsns.at4 (RdM.ext hx x) (i := k) (by omega)
    have hs := all_take_succ hi ha
    have ht : Int.toNat ((k : Nat) : Int) = k := Int.toNat_natCast k
    have bad : ∀ w2, Go.Rd.Ext w w2 → straightB i = false → ref15_code.J0 (fun v w' => v = .bool (xs.all straightB) ∧ Go.Rd.Ext w w') A n c k true w2 := by
      intro w2 x2 hf
      refine ifP_t rfl ⟨?_, x2⟩
      congr 1
      symm
      rw [List.all_eq_false]
      exact ⟨i, List.mem_of_getElem? hi, by rw [hf]; decide⟩
    refine ref15_code.L0_step (ifP_yes (by omega) ⟨by omega, by omega, q, hq, ?_⟩)
    rw [ht]
    refine ⟨_, h4.c, rClass_spec.mono ?_⟩
    rintro v w2 ⟨rfl, rfl⟩
    rw [← class_eq]
    refine ⟨_, rfl, ifP_decide.2 ⟨fun h1 => bad _ x (straightB_no (.inl h1)), fun h1 => ifP_beq.2 ⟨fun h5 => bad _ x (straightB_no (.inr (.inl h5))), fun h5 => ifP_beq.2 ⟨fun h6 => bad _ x (straightB_no (.inr (.inr h6))), fun h6 => ?_⟩⟩⟩⟩
    refine ⟨by omega, by omega, q, hq, _, h4.c, _, h4.t, _, h4.f, _, h4.k, fault_spec.mono ?_⟩
    rintro v w3 ⟨rfl, x3⟩
    have es := straightB_of h1 h5 h6
    refine ⟨_, rfl, ?_⟩
    by_cases hf : faultOf i = 0
    · rw [hf]
      refine ifP_f rfl ?_
      rw [wrap_i64 (by omega) (by omega)]
      exact ih (k + 1) (by omega) (by omega) (by rw [hs, es, hf]; rfl) w3 (x.trans x3)
    · have e : (faultOf i != 0) = true := by simpa using hf
      rw [e] at es ⊢
      exact bad w3 (x.trans x3) es
theorem bareB_no {i : Ins} (h : i.t ≠ 0 ∨ i.f ≠ 0 ∨ (usesB i.c).1 = false ∧ i.k ≠ 0) : bareB i = false := by
  unfold bareB
  rw [decide_eq_false_iff_not]
  rintro ⟨h1, h2, h3⟩
  rcases h with h | h | ⟨h4, h5⟩
  · exact h h1
  · exact h h2
  · rcases h3 with h3 | h3
    · rw [h4] at h3; cases h3
    · exact h5 h3
theorem endedB_bare {b : Blk} (h : endedB b = true) : bareB b.last = true := by
  unfold endedB at h
  split at h
  · exact (of_decide_eq_true h).2.1
  · split at h
    · rw [(of_decide_eq_true h).1]; decide
    · split at h
      · exact (of_decide_eq_true h).2.2
      · cases h
theorem rgend_spec : Run Try.prog 43 #[p.arg] w fun v w' => v = .bool (endedB p.b) ∧ Go.Rd.Ext w w' := by
  refine ref15_end.ok (letA fun w1 h1 x1 s1 => ?_)
  have hb : BAt w1 w.heap.size p := h1
  have h8 : At8 w1 (newA w) p := hb.at8
  refine ⟨_, h8.c, rUses_spec.mono ?_⟩
  rintro v w2 ⟨rfl, rfl⟩
  rw [← uses_eq]
  have cl : w2.cell? (((newA w).add 2).add 1) = some (.int .u8 p.b.last.t) ∧ w2.cell? (((newA w).add 2).add 2) = some (.int .u8 p.b.last.f) ∧ w2.cell? (((newA w).add 2).add 3) = some (.int .u32 p.b.last.k) := At8.last' (S := fun u => u = w2) (fun u hu => by rw [hu]; exact h8) w2 rfl
  have bad : bareB p.b.last = false → ref15_end.J0 (fun v w' => v = .bool (endedB p.b) ∧ Go.Rd.Ext w w') (newA w) true w2 := by
    intro h
    refine ifP_t rfl ⟨?_, x1⟩
    congr 1
    symm
    by_cases he : endedB p.b = true
    · rw [endedB_bare he] at h; cases h
    · simpa using he
  have good : bareB p.b.last = true → ref15_end.J0 (fun v w' => v = .bool (endedB p.b) ∧ Go.Rd.Ext w w') (newA w) false w2 := by
    intro h
    refine ifP_f rfl ⟨_, h8.e, ifP_beq.2 ⟨fun e1 => ⟨_, h8.c, rReturn_spec.mono ?_⟩, fun e1 => ifP_beq.2 ⟨fun e2 => ?_, fun e2 => ifP_beq.2 ⟨fun e3 => ⟨_, h8.c, rJump_spec.mono ?_⟩, fun e3 => ⟨?_, x1⟩⟩⟩⟩⟩
    · rintro v w3 ⟨rfl, rfl⟩
      refine ⟨_, rfl, ifP_of (fun e6 => ⟨_, h8.y, ifP_beq.2 ⟨fun ey => ⟨_, h8.o, ?_, x1⟩, fun ey => ⟨?_, x1⟩⟩⟩) fun e6 => ⟨?_, x1⟩⟩
      · have e6 := of_decide_eq_true e6
        congr 1
        rw [Bool.eq_iff_iff, beq_iff_eq]
        simp [endedB, e1, e6, h, ey]
      · have e6 := of_decide_eq_true e6
        simp [endedB, e1, e6, h, ey]
      · have e6 := of_decide_eq_false e6
        simp [endedB, e1, e6]
    · refine h8.last ?_ rfl
      refine ⟨_, _, insn_eql, _, rfl, ifP_of (fun el => ⟨_, h8.o, ?_, x1⟩) fun el => ⟨?_, x1⟩⟩
      · have el := of_decide_eq_true el
        have el : p.b.last = ins0 := el
        congr 1
        rw [Bool.eq_iff_iff, beq_iff_eq]
        simp [endedB, e2, el]
      · have el := of_decide_eq_false el
        have el : p.b.last ≠ ins0 := by
          intro h
          rw [h] at el
          exact el rfl
        simp [endedB, e2, el]
    · rintro v w3 ⟨rfl, rfl⟩
      refine ⟨_, rfl, ?_, x1⟩
      congr 1
      rw [Bool.eq_iff_iff, decide_eq_true_iff]
      have h5 : ¬ (5 : Int) ∈ rJumpL := by decide
      have hj := jmp_iff p.b.last.c
      constructor
      · intro hc
        have : p.b.last.c ≠ 5 := fun e => h5 (by rw [← e]; exact hc)
        simp [endedB, e3, h, hj.2 (.inr hc), this]
      · intro he
        simp [endedB, e3, h] at he
        exact (hj.1 he.1).resolve_left he.2
    · simp [endedB, e1, e2, e3]
  refine ⟨_, _, _, rfl, _, cl.1, ifP_bne.2 ⟨fun e1 => bad (bareB_no (.inl e1)), fun e1 => ⟨_, cl.2.1, ifP_bne.2 ⟨fun e2 => bad (bareB_no (.inr (.inl e2))), fun e2 => ifP_not.2 (ifP_of (fun e3 => good ?_) fun e3 => ⟨_, cl.2.2, ?_⟩)⟩⟩⟩⟩
  · simp [bareB, e1, e2, e3]
  · by_cases ek : p.b.last.k = 0
    · rw [ek]
      exact good (by simp [bareB, e1, e2, ek])
    · have : (p.b.last.k != 0) = true := by simpa using ek
      rw [this]
      exact bad (bareB_no (.inr (.inr ⟨e3, ek⟩)))
theorem endedB_kind {b : Blk} (h : endedB b = true) : b.e = 1 ∨ b.e = 2 ∨ b.e = 3 := by
  unfold endedB at h
  split at h
  · exact .inl ‹_›
  · split at h
    · exact .inr (.inl ‹_›)
    · split at h
      · exact .inr (.inr ‹_›)
      · cases h
theorem goalsOk_eq {b : Blk} {at_ m : Int} (h : endedB b = true) : (goalsOk b at_ m = true ↔ (b.e = 1 ∨ at_ < b.yes ∧ b.yes < m) ∧ (b.e ≠ 3 ∨ at_ < b.no ∧ b.no < m)) := by
  rcases endedB_kind h with e | e | e
  · simp [goalsOk, goalsL, e]
  · simp [goalsOk, goalsL, e]
  · simp [goalsOk, goalsL, e]
theorem rggoals_spec {at_ m : Int} (he : endedB p.b = true) : Run Try.prog 44 #[p.arg, .int .i64 at_, .int .i64 m] w fun v w' => v = .bool (goalsOk p.b at_ m) ∧ Go.Rd.Ext w w' := by
  refine ref15_goals.ok (letA fun w1 h1 x1 s1 => ?_)
  have hb : BAt w1 w.heap.size p := h1
  have h8 : At8 w1 (newA w) p := hb.at8
  have eq := goalsOk_eq (at_ := at_) (m := m) he
  have bad : ¬ (p.b.e = 1 ∨ at_ < p.b.yes ∧ p.b.yes < m) → ref15_goals.J0 (fun v w' => v = .bool (goalsOk p.b at_ m) ∧ Go.Rd.Ext w w') at_ m (newA w) true w1 := by
    intro h
    refine ifP_t rfl ⟨?_, x1⟩
    congr 1
    symm
    by_cases hg : goalsOk p.b at_ m = true
    · exact absurd (eq.1 hg).1 h
    · simpa using hg
  have good : (p.b.e = 1 ∨ at_ < p.b.yes ∧ p.b.yes < m) → ref15_goals.J0 (fun v w' => v = .bool (goalsOk p.b at_ m) ∧ Go.Rd.Ext w w') at_ m (newA w) false w1 := by
    intro h
    refine ifP_f rfl ⟨_, h8.e, ifP_bne.2 ⟨fun e3 => ⟨?_, x1⟩, fun e3 => ⟨_, h8.o, ifP_decide.2 ⟨fun e4 => ⟨_, h8.o, ?_, x1⟩, fun e4 => ⟨?_, x1⟩⟩⟩⟩⟩
    · rw [eq.2 ⟨h, .inl e3⟩]
    · congr 1
      rw [Bool.eq_iff_iff, decide_eq_true_iff, eq]
      exact ⟨fun h2 => ⟨h, .inr ⟨e4, h2⟩⟩, fun h2 => (h2.2.resolve_left fun h3 => h3 e3).2⟩
    · congr 1
      symm
      by_cases hg : goalsOk p.b at_ m = true
      · exact absurd ((eq.1 hg).2.resolve_left fun h3 => h3 e3).1 e4
      · simpa using hg
  refine ⟨_, h8.e, ifP_bne.2 ⟨fun e1 => ⟨_, h8.y, ifP_decide.2 ⟨fun e2 => bad (by omega), fun e2 => ⟨_, h8.y, ?_⟩⟩⟩, fun e1 => good (.inl e1)⟩⟩
  by_cases h : p.b.yes ≥ m
  · rw [decide_eq_true h]
    exact bad (by omega)
  · rw [decide_eq_false h]
    exact good (.inr (by omega))
theorem rgcheck_spec (hx : IBl w A n ps) (hs : ∀ p ∈ ps, p.n ≤ 140737488351232) : Run Try.prog 10 #[.slice A n c] w fun v w' => v = .tuple #[.int .i64 (gcheckV (blks ps)).1, .int .i64 (gcheckV (blks ps)).2] ∧ Go.Rd.Ext w w' := by
  have hl := hx.len
  have hbl : (blks ps).length = n := by rw [blks, List.length_map, hl]
  refine ref15_Check.ok (ifP_beq.2 ⟨fun h => ⟨?_, Go.Rd.Ext.refl _⟩, fun h0 => ifP_decide.2 ⟨fun h => ⟨?_, Go.Rd.Ext.refl _⟩, fun h1 => ?_⟩⟩)
  · rw [gcheckV, if_pos (by omega)]
  · rw [gcheckV, if_neg (by omega), if_pos (by omega)]
  have ev : gcheckV (blks ps) = gFrom (n : Int) 0 0 (blks ps) := by rw [gcheckV, if_neg (by omega), if_neg (by omega), hbl]
  suffices H : ∀ (d k : Nat), n - k = d → k ≤ n → (∀ (j : Nat) (b : Blk), j < k → (blks ps)[j]? = some b → oneV b (0 + j) (0 + (((blks ps).take (j + 1)).map (·.code.length)).sum) n = 0) → (((blks ps).take k).map (·.code.length)).sum ≤ 4096 → ∀ (w' : World), Go.Rd.Ext w w' → ∀ (lf : Int), lf = 4096 - ((((blks ps).take k).map (·.code.length)).sum : Nat) →
      ref15_Check.L0 (fun v w' => v = .tuple #[.int .i64 (gcheckV (blks ps)).1, .int .i64 (gcheckV (blks ps)).2] ∧ Go.Rd.Ext w w') A n c lf (k : Int) w' from H n 0 (by omega) (by omega) (fun j b hj => absurd hj (Nat.not_lt_zero j)) (by simp) w (Go.Rd.Ext.refl _) 4096 (by simp)
  intro d
  induction d with
  | zero =>
    intro k hd hk hz hc w' x lf hlf
    refine ref15_Check.L0_step (ifP_no (by omega) ⟨?_, x⟩)
    rw [ev, gFrom_at (blks ps) k 0 0 hz, List.drop_eq_nil_of_le (by omega), gFrom]
  | succ d ih =>
    intro k hd hk hz hc w' x lf hlf
    obtain ⟨q, p, hq, hp, h8⟩ := (hx.ext x).at8 (i := k) (by omega)
    have hb := blks_get hp
    have hpm := List.mem_of_getElem? hp
    have hpc := RdM.ext (hx.code p hpm) x
    have hpl : p.b.code.length = p.n := hpc.len
    have hpn := hs p hpm
    have hsum := sum_take_succ hb
    have hdrop : (blks ps).drop k = p.b :: (blks ps).drop (k + 1) := by
      obtain ⟨hlt, he⟩ := List.getElem?_eq_some_iff.1 hb
      rw [List.drop_eq_getElem_cons hlt, he]
    have es : ((((blks ps).take k).map (·.code.length)).sum : Nat) + (p.b.code.length : Int) = ((((blks ps).take (k + 1)).map (·.code.length)).sum : Nat) := by rw [hsum]; omega
    have ht : Int.toNat ((k : Nat) : Int) = k := Int.toNat_natCast k
    have stop : ∀ (w2 : World) (e : Int), e ≠ 0 → oneV p.b k ((((blks ps).take (k + 1)).map (·.code.length)).sum : Nat) n = e → Go.Rd.Ext w w2 → (Value.tuple #[.int .i64 k, .int .i64 e] = .tuple #[.int .i64 (gcheckV (blks ps)).1, .int .i64 (gcheckV (blks ps)).2] ∧ Go.Rd.Ext w w2) := by
      intro w2 e he ho x2
      refine ⟨?_, x2⟩
      rw [ev, gFrom_at (blks ps) k 0 0 hz, hdrop, gFrom, Int.zero_add, Int.zero_add, es, if_pos (by rw [ho]; exact he), ho]
    refine ref15_Check.L0_step (ifP_yes (by omega) ⟨by omega, by omega, q, hq, ?_⟩)
    rw [ht]
    refine ⟨_, _, _, h8.s, ifP_decide.2 ⟨fun h => stop w' 151 (by decide) ?_ x, fun h => ?_⟩⟩
    · rw [oneV, if_pos (by omega)]
    refine ⟨by omega, by omega, q, hq, _, _, _, h8.s, by omega, by omega, q, hq, _, _, _, h8.s, (rgcode_spec hpc (by omega)).mono ?_⟩
    rintro v w2 ⟨rfl, x2⟩
    have h82 := h8.ext x2
    refine ⟨_, rfl, ifP_not.2 (ifP_of (fun ec => ⟨by omega, by omega, q, hq, h82.rd (rgend_spec.mono ?_)⟩) fun ec => stop w2 152 (by decide) ?_ (x.trans x2))⟩
    rotate_left
    · rw [oneV, if_neg (by omega), if_pos ec]
    rintro v w3 ⟨rfl, x3⟩
    have h83 := h82.ext x3
    refine ⟨_, rfl, ifP_not.2 (ifP_of (fun ee => ⟨by omega, by omega, q, hq, h83.rd ((rggoals_spec ee).mono ?_)⟩) fun ee => stop w3 153 (by decide) ?_ (x.trans (x2.trans x3)))⟩
    rotate_left
    · rw [oneV, if_neg (by omega), if_neg (by rw [ec]; decide), if_pos ee]
    rintro v w4 ⟨rfl, x4⟩
    refine ⟨_, rfl, ifP_not.2 (ifP_of (fun eg => ?_) fun eg => stop w4 154 (by decide) ?_ (x.trans (x2.trans (x3.trans x4))))⟩
    rotate_left
    · rw [oneV, if_neg (by omega), if_neg (by rw [ec]; decide), if_neg (by rw [ee]; decide), if_pos eg]
    rw [wrap_i64 (by omega) (by omega), wrap_i64 (by omega) (by omega)]
    refine ih (k + 1) (by omega) (by omega) (fun j b hj hb' => ?_) (by omega) w4 (x.trans (x2.trans (x3.trans x4))) _ (by omega)
    by_cases e : j = k
    · subst e
      rw [hb] at hb'
      obtain rfl := Option.some.inj hb'
      rw [Int.zero_add, Int.zero_add]
      rw [oneV, if_neg (by omega), if_neg (by rw [ec]; decide), if_neg (by rw [ee]; decide), if_neg (by rw [eg]; decide)]
    · exact hz j b (by omega) hb'
def takesB (bs : List Blk) : Bool := (gcheckV bs).2 == 0
theorem rtakes_spec (hx : IBl w A n ps) (hs : ∀ p ∈ ps, p.n ≤ 140737488351232) : Run Try.prog 30 #[.slice A n c] w fun v w' => v = .bool (takesB (blks ps)) ∧ Go.Rd.Ext w w' := by
  refine ref15_Takes.ok ((rgcheck_spec hx hs).mono ?_)
  rintro v w2 ⟨rfl, x2⟩
  exact ⟨_, _, rfl, rfl, x2⟩
end
end Go.Proofs.Ytbchjihecdkfeaa
