/- Package graph: what is taken. -/
import Derived.Test.YtbchjihecdkfeaaGrRun
import Derived.Test.YtbchjihecdkfeaaHInts
import Derived.Test.YtbchjihecdkfeaaM6
namespace Go.Proofs.Ytbchjihecdkfeaa
open Go.Rd Go.RowKit
set_option linter.unusedVariables false
set_option linter.unusedSimpArgs false
set_option maxRecDepth 100000

abbrev BP.arg (p : BP) : Value := .agg #[.slice p.A p.n p.c, .int .i64 p.b.e, .int .u16 p.b.last.c, .int .u8 p.b.last.t, .int .u8 p.b.last.f, .int .u32 p.b.last.k, .int .i64 p.b.yes, .int .i64 p.b.no]
section
variable {w w' : World} {S : World → Prop} {a : Addr} {p : BP} {i : Ins} {b : Nat} {c : Int}
theorem At8.rd (h : At8 w a p) {P : Option Addr → Nat → Nat → Int → Int → Int → Int → Int → Int → Int → Prop} (hp : P p.A p.n p.c p.b.e p.b.last.c p.b.last.t p.b.last.f p.b.last.k p.b.yes p.b.no) :
    ∃ (A : Option Addr) (n c : Nat), w.cell? a = some (.slice A n c) ∧ ∃ t1 : Int, w.cell? (a.add 1) = some (.int .i64 t1) ∧ ∃ t2 : Int, w.cell? (a.add 2) = some (.int .u16 t2) ∧ ∃ t3 : Int, w.cell? (a.add 3) = some (.int .u8 t3) ∧ ∃ t4 : Int, w.cell? (a.add 4) = some (.int .u8 t4) ∧ ∃ t5 : Int, w.cell? (a.add 5) = some (.int .u32 t5) ∧ ∃ t6 : Int, w.cell? (a.add 6) = some (.int .i64 t6) ∧ ∃ t7 : Int, w.cell? (a.add 7) = some (.int .i64 t7) ∧ P A n c t1 t2 t3 t4 t5 t6 t7 :=
  ⟨_, _, _, h.s, _, h.e, _, h.c, _, h.t, _, h.f, _, h.k, _, h.y, _, h.o, hp⟩
theorem At8.rdS (h : ∀ u, S u → At8 u a p) {P : Option Addr → Nat → Nat → Int → Int → Int → Int → Int → Int → Int → Prop} (hp : P p.A p.n p.c p.b.e p.b.last.c p.b.last.t p.b.last.f p.b.last.k p.b.yes p.b.no) :
    ∃ (A : Option Addr) (n c : Nat), (∀ u : World, S u → u.cell? a = some (.slice A n c)) ∧ ∃ t1 : Int, (∀ u : World, S u → u.cell? (a.add 1) = some (.int .i64 t1)) ∧ ∃ t2 : Int, (∀ u : World, S u → u.cell? (a.add 2) = some (.int .u16 t2)) ∧ ∃ t3 : Int, (∀ u : World, S u → u.cell? (a.add 3) = some (.int .u8 t3)) ∧ ∃ t4 : Int, (∀ u : World, S u → u.cell? (a.add 4) = some (.int .u8 t4)) ∧ ∃ t5 : Int, (∀ u : World, S u → u.cell? (a.add 5) = some (.int .u32 t5)) ∧ ∃ t6 : Int, (∀ u : World, S u → u.cell? (a.add 6) = some (.int .i64 t6)) ∧ ∃ t7 : Int, (∀ u : World, S u → u.cell? (a.add 7) = some (.int .i64 t7)) ∧ P A n c t1 t2 t3 t4 t5 t6 t7 :=
  ⟨_, _, _, fun u hu => (h u hu).s, _, fun u hu => (h u hu).e, _, fun u hu => (h u hu).c, _, fun u hu => (h u hu).t, _, fun u hu => (h u hu).f, _, fun u hu => (h u hu).k, _, fun u hu => (h u hu).y, _, fun u hu => (h u hu).o, hp⟩
/-- A block's Last lies in it. -/
theorem At8.last (h : At8 w a p) {P : Int → Int → Int → Int → Prop} (hp : P p.b.last.c p.b.last.t p.b.last.f p.b.last.k) (hs : a.spot = none) :
    ∃ t0 : Int, w.cell? (a.add 2) = some (.int .u16 t0) ∧ ∃ t1 : Int, w.cell? ((a.add 2).add 1) = some (.int .u8 t1) ∧ ∃ t2 : Int, w.cell? ((a.add 2).add 2) = some (.int .u8 t2) ∧ ∃ t3 : Int, w.cell? ((a.add 2).add 3) = some (.int .u32 t3) ∧ P t0 t1 t2 t3 :=
  ⟨_, h.c, _, by rw [add_add _ hs]; exact h.t, _, by rw [add_add _ hs]; exact h.f, _, by rw [add_add _ hs]; exact h.k, hp⟩
theorem At8.lastS (h : ∀ u, S u → At8 u a p) {P : Int → Int → Int → Int → Prop} (hp : P p.b.last.c p.b.last.t p.b.last.f p.b.last.k) (hs : a.spot = none) :
    ∃ t0 : Int, (∀ u : World, S u → u.cell? (a.add 2) = some (.int .u16 t0)) ∧ ∃ t1 : Int, (∀ u : World, S u → u.cell? ((a.add 2).add 1) = some (.int .u8 t1)) ∧ ∃ t2 : Int, (∀ u : World, S u → u.cell? ((a.add 2).add 2) = some (.int .u8 t2)) ∧ ∃ t3 : Int, (∀ u : World, S u → u.cell? ((a.add 2).add 3) = some (.int .u32 t3)) ∧ P t0 t1 t2 t3 :=
  ⟨_, fun u hu => (h u hu).c, _, fun u hu => by rw [add_add _ hs]; exact (h u hu).t, _, fun u hu => by rw [add_add _ hs]; exact (h u hu).f, _, fun u hu => by rw [add_add _ hs]; exact (h u hu).k, hp⟩
theorem BAt.ext (h : BAt w b p) (x : Go.Rd.Ext w w') : BAt w' b p := x.heap h
/-- A new block for a value. -/
theorem bstore {φ : World → Prop} (h : ∀ w', BAt w' w.heap.size p → Go.Rd.Ext w w' → φ w') :
    letW (w.alloc (.cells #[.slice none 0 0, .int .i64 0, .int .u16 0, .int .u8 0, .int .u8 0, .int .u32 0, .int .i64 0, .int .i64 0] 49)) fun w1 => storeRow (newA w) 0 [.slice p.A p.n p.c, .int .i64 p.b.e, .int .u16 p.b.last.c, .int .u8 p.b.last.t, .int .u8 p.b.last.f, .int .u32 p.b.last.k, .int .i64 p.b.yes, .int .i64 p.b.no] w1 φ := by
  refine letA fun w1 h1 x1 s1 => storeRow_block h1 (show 0 + 0 + 8 ≤ 8 by decide) rfl fun w2 h2 k2 s2 => ?_
  rw [setFrom_all [.slice none 0 0, .int .i64 0, .int .u16 0, .int .u8 0, .int .u8 0, .int .u32 0, .int .i64 0, .int .i64 0] [.slice p.A p.n p.c, .int .i64 p.b.e, .int .u16 p.b.last.c, .int .u8 p.b.last.t, .int .u8 p.b.last.f, .int .u32 p.b.last.k, .int .i64 p.b.yes, .int .i64 p.b.no] rfl] at h2
  exact h w2 h2 (x1.fresh k2 fun j hj => by rw [hj]; exact Nat.le_refl _)
theorem istore {φ : World → Prop} (h : ∀ w', IAt w' w.heap.size i → Go.Rd.Ext w w' → φ w') :
    letW (w.alloc (.cells #[.int .u16 0, .int .u8 0, .int .u8 0, .int .u32 0] 47)) fun w1 => storeRow (newA w) 0 [.int .u16 i.c, .int .u8 i.t, .int .u8 i.f, .int .u32 i.k] w1 φ := by
  refine letA fun w1 h1 x1 s1 => storeRow_block h1 (show 0 + 0 + 4 ≤ 4 by decide) rfl fun w2 h2 k2 s2 => ?_
  rw [setFrom_all [.int .u16 0, .int .u8 0, .int .u8 0, .int .u32 0] [.int .u16 i.c, .int .u8 i.t, .int .u8 i.f, .int .u32 i.k] rfl] at h2
  exact h w2 h2 (x1.fresh k2 fun j hj => by rw [hj]; exact Nat.le_refl _)
/-! ## straight, bare, ended, goals -/

theorem class_neg {c : Int} (h : classOf c ≠ -1) : isKnown c = true := by
  unfold classOf at h
  split at h
  · assumption
  · exact absurd rfl h
theorem class_unknown {i : Ins} (h : classOf i.c = -1) : faultOf i = 42 := by
  unfold faultOf
  split
  · rename_i hk0
    have hk := of_decide_eq_true hk0
    unfold classOf at h
    rw [if_pos hk0] at h
    exfalso
    simp only [knownL, aluL, testL, List.mem_append, List.mem_cons, List.not_mem_nil, or_false] at hk
    rcases hk with (hk | hk | hk | hk | hk | hk | hk | hk | hk | hk | hk | hk | hk | hk | hk | hk | hk | hk | hk | hk) | (hk | hk | hk | hk | hk | hk | hk | hk | hk | hk | hk | hk | hk | hk | hk | hk | hk | hk | hk | hk | hk) | (hk | hk | hk | hk | hk | hk | hk | hk) <;> (rw [hk] at h; revert h; decide)
  · rfl
theorem straightB_eq (hk : classOf i.c ≠ -1) (h5 : classOf i.c ≠ 5) (h6 : classOf i.c ≠ 6) : straightB i = if i.c ∈ wordsL then decide (i.k < 16) else if i.c = 52 ∨ i.c = 148 then i.k != 0 else if i.c = 100 ∨ i.c = 116 then decide (i.k ≤ 31) else true := by
  have e : straightB i = decide (faultOf i = 0) := by
    unfold straightB
    simp [h5, h6]
  rw [e]
  unfold faultOf
  rw [if_pos (class_neg hk)]
  by_cases hw : i.c ∈ wordsL
  · have hw2 := hw
    simp only [wordsL, List.mem_cons, List.not_mem_nil, or_false] at hw2
    rw [if_pos hw]
    by_cases h : 16 ≤ i.k
    · rw [if_pos ⟨hw, h⟩]
      simp; omega
    · rw [if_neg (fun h2 => h h2.2), if_neg (fun h2 => by have := h2.1; omega), if_neg (fun h2 => by have := h2.1; omega)]
      simp; omega
  · rw [if_neg (fun h2 => hw h2.1), if_neg hw]
    by_cases h1 : i.c = 52 ∨ i.c = 148
    · rw [if_pos h1]
      by_cases h : i.k = 0
      · rw [if_pos ⟨h1, h⟩]; simp [h]
      · rw [if_neg (fun h2 => h h2.2), if_neg (fun h2 => by have := h2.1; omega)]; simp [h]
    · rw [if_neg (fun h2 => h1 h2.1), if_neg h1]
      by_cases h2 : i.c = 100 ∨ i.c = 116
      · rw [if_pos h2]
        by_cases h : 31 < i.k
        · rw [if_pos ⟨h2, h⟩]; simp; omega
        · rw [if_neg (fun h3 => h h3.2)]; simp; omega
      · rw [if_neg (fun h3 => h2 h3.1), if_neg h2]
        rfl
theorem gstraight_spec : Run Try.prog 72 #[.agg #[.int .u16 i.c, .int .u8 i.t, .int .u8 i.f, .int .u32 i.k]] w fun v w' => v = .bool (straightB i) ∧ Go.Rd.Ext w w' := by
  refine graph_straight.ok (letA fun w1 h1 x1 s1 => ⟨_, IAt.c0 h1, class_spec.mono ?_⟩)
  rintro v w2 ⟨rfl, rfl⟩
  have hi : IAt w2 w.heap.size i := h1
  refine ⟨_, rfl, ?_⟩
  have j3 : classOf i.c ≠ -1 → classOf i.c ≠ 5 → classOf i.c ≠ 6 → ¬ i.c ∈ wordsL → ¬ (i.c = 52 ∨ i.c = 148) → ∀ t, t = decide (i.c = 100 ∨ i.c = 116) → graph_straight.J3 (fun v w' => v = .bool (straightB i) ∧ Go.Rd.Ext w w') (newA w) t w2 := by
    rintro k1 k5 k6 n1 n2 t rfl
    refine ifP_of (fun h => ⟨_, hi.c3, ?_, x1⟩) fun h => ⟨?_, x1⟩
    · rw [straightB_eq k1 k5 k6, if_neg n1, if_neg n2, if_pos (of_decide_eq_true h)]
    · rw [straightB_eq k1 k5 k6, if_neg n1, if_neg n2, if_neg (of_decide_eq_false h)]
  have j2 : classOf i.c ≠ -1 → classOf i.c ≠ 5 → classOf i.c ≠ 6 → ¬ i.c ∈ wordsL → ∀ t, t = decide (i.c = 52 ∨ i.c = 148) → graph_straight.J2 (fun v w' => v = .bool (straightB i) ∧ Go.Rd.Ext w w') (newA w) i.c t w2 := by
    rintro k1 k5 k6 n1 t rfl
    refine ifP_of (fun h => ⟨_, hi.c3, ?_, x1⟩) fun h => ?_
    · rw [straightB_eq k1 k5 k6, if_neg n1, if_pos (of_decide_eq_true h)]
    · have h := of_decide_eq_false h
      refine ifP_beq.2 ⟨fun e => j3 k1 k5 k6 n1 h _ (by simp [e]), fun e => j3 k1 k5 k6 n1 h _ ?_⟩
      rw [Bool.eq_iff_iff]; simp [e]
  have j1 : classOf i.c ≠ -1 → classOf i.c ≠ 5 → classOf i.c ≠ 6 → ∀ t, t = decide (i.c ∈ wordsL) → graph_straight.J1 (fun v w' => v = .bool (straightB i) ∧ Go.Rd.Ext w w') (newA w) i.c t w2 := by
    rintro k1 k5 k6 t rfl
    refine ifP_of (fun h => ⟨_, hi.c3, ?_, x1⟩) fun h => ?_
    · rw [straightB_eq k1 k5 k6, if_pos (of_decide_eq_true h)]
    · have h := of_decide_eq_false h
      refine ifP_beq.2 ⟨fun e => j2 k1 k5 k6 h _ (by simp [e]), fun e => j2 k1 k5 k6 h _ ?_⟩
      rw [Bool.eq_iff_iff]; simp [e]
  have j0 : ∀ t, t = decide (classOf i.c = -1 ∨ classOf i.c = 5 ∨ classOf i.c = 6) → graph_straight.J0 (fun v w' => v = .bool (straightB i) ∧ Go.Rd.Ext w w') (newA w) t w2 := by
    rintro t rfl
    refine ifP_of (fun h => ⟨?_, x1⟩) fun h => ⟨_, hi.c0, ?_⟩
    · have h := of_decide_eq_true h
      congr 1
      symm
      unfold straightB
      rw [decide_eq_false_iff_not]
      rintro ⟨n5, n6, hf⟩
      rcases h with h | h | h
      · rw [class_unknown h] at hf; cases hf
      · exact n5 h
      · exact n6 h
    · have h := of_decide_eq_false h
      simp only [not_or] at h
      obtain ⟨k1, k5, k6⟩ := h
      have mem : i.c ∈ wordsL ↔ i.c = 2 ∨ i.c = 3 ∨ i.c = 96 ∨ i.c = 97 := by simp [wordsL]
      refine ifP_beq.2 ⟨fun e => j1 k1 k5 k6 _ ?_, fun e1 => ifP_beq.2 ⟨fun e => j1 k1 k5 k6 _ ?_, fun e2 => ifP_beq.2 ⟨fun e => j1 k1 k5 k6 _ ?_, fun e3 => j1 k1 k5 k6 _ ?_⟩⟩⟩
      all_goals rw [Bool.eq_iff_iff, decide_eq_true_iff, mem, beq_iff_eq]
      · omega
      · omega
      · omega
      · omega
  refine ifP_beq.2 ⟨fun e => j0 _ ?_, fun e1 => ifP_beq.2 ⟨fun e => j0 _ ?_, fun e2 => j0 _ ?_⟩⟩
  all_goals rw [Bool.eq_iff_iff, decide_eq_true_iff, beq_iff_eq]
  · omega
  · omega
  · omega
theorem gbare_spec : Run Try.prog 112 #[.agg #[.int .u16 i.c, .int .u8 i.t, .int .u8 i.f, .int .u32 i.k]] w fun v w' => v = .bool (bareB i) ∧ Go.Rd.Ext w w' := by
  refine graph_bare.ok (letA fun w1 h1 x1 s1 => ⟨_, IAt.c0 h1, uses_spec.mono ?_⟩)
  rintro v w2 ⟨rfl, rfl⟩
  have hi : IAt w2 w.heap.size i := h1
  refine ⟨_, _, _, rfl, _, hi.c1, ifP_beq.2 ⟨fun e1 => ⟨_, hi.c2, ifP_beq.2 ⟨fun e2 => ifP_of (fun e3 => ⟨?_, x1⟩) fun e3 => ⟨_, hi.c3, ?_, x1⟩, fun e2 => ⟨?_, x1⟩⟩⟩, fun e1 => ⟨?_, x1⟩⟩⟩
  · simp [bareB, e1, e2, e3]
  · congr 1
    rw [Bool.eq_iff_iff, beq_iff_eq]
    simp [bareB, e1, e2, e3]
  · simp [bareB, e1, e2]
  · simp [bareB, e1]
theorem gended_spec : Run Try.prog 73 #[p.arg] w fun v w' => v = .bool (endedB p.b) ∧ Go.Rd.Ext w w' := by
  refine graph_ended.ok (letA fun w1 h1 x1 s1 => ?_)
  have hb : BAt w1 w.heap.size p := h1
  have h8 : At8 w1 (newA w) p := hb.at8
  refine ⟨_, h8.e, ifP_beq.2 ⟨fun e1 => ⟨_, h8.c, class_spec.mono ?_⟩, fun e1 => ifP_beq.2 ⟨fun e2 => ?_, fun e2 => ifP_beq.2 ⟨fun e3 => ⟨_, h8.c, class_spec.mono ?_⟩, fun e3 => ⟨?_, x1⟩⟩⟩⟩⟩
  · rintro v w2 ⟨rfl, rfl⟩
    refine ⟨_, rfl, ifP_beq.2 ⟨fun e6 => h8.last (gbare_spec.mono ?_) rfl, fun e6 => ⟨?_, x1⟩⟩⟩
    · rintro v w3 ⟨rfl, x3⟩
      have h83 := h8.ext x3
      refine ⟨_, rfl, ifP_of (fun eb => ⟨_, h83.y, ifP_beq.2 ⟨fun ey => ⟨_, h83.o, ?_, x1.trans x3⟩, fun ey => ⟨?_, x1.trans x3⟩⟩⟩) fun eb => ⟨?_, x1.trans x3⟩⟩
      · congr 1
        rw [Bool.eq_iff_iff, beq_iff_eq]
        simp [endedB, e1, e6, eb, ey]
      · simp [endedB, e1, e6, eb, ey]
      · simp [endedB, e1, e6, eb]
    · simp [endedB, e1, e6]
  · refine h8.last ?_ rfl
    refine ⟨_, _, insn_eql, _, rfl, ifP_of (fun el => ⟨_, h8.o, ?_, x1⟩) fun el => ⟨?_, x1⟩⟩
    · have el := of_decide_eq_true el
      have el : p.b.last = ins0 := el
      congr 1
      rw [Bool.eq_iff_iff, beq_iff_eq]
      simp [endedB, e2, el]
    · have el := of_decide_eq_false el
      have el : p.b.last ≠ ins0 := by
        intro h
        rw [h] at el
        exact el rfl
      simp [endedB, e2, el]
  · rintro v w2 ⟨rfl, rfl⟩
    refine ⟨_, rfl, ifP_beq.2 ⟨fun e5 => ⟨_, h8.c, ifP_bne.2 ⟨fun en => h8.last (gbare_spec.mono ?_) rfl, fun en => ⟨?_, x1⟩⟩⟩, fun e5 => ⟨?_, x1⟩⟩⟩
    · rintro v w3 ⟨rfl, x3⟩
      refine ⟨_, rfl, ?_, x1.trans x3⟩
      congr 1
      rw [Bool.eq_iff_iff]
      simp [endedB, e3, e5, en]
    · simp [endedB, e3, en]
    · simp [endedB, e3, e5]
  · simp [endedB, e1, e2, e3]
theorem ggoals_spec : Run Try.prog 62 #[p.arg] w fun v w' => ∃ O oc, v = .slice O (goalsL p.b).length oc ∧ Rd (Value.int .i64) w' O (goalsL p.b).length (goalsL p.b) ∧ (∀ k, blk O k → w.heap.size ≤ k) ∧ Go.Rd.Ext w w' := by
  refine graph_goals.ok (letA fun w1 h1 x1 s1 => ?_)
  have hb : BAt w1 w.heap.size p := h1
  have h8 : At8 w1 (newA w) p := hb.at8
  refine ⟨_, h8.e, ifP_beq.2 ⟨fun e1 => ⟨_, h8.y, letA fun w2 h2 x2 s2 => ?_⟩, fun e1 => ifP_beq.2 ⟨fun e2 => ⟨_, h8.y, _, h8.o, letA fun w2 h2 x2 s2 => ?_⟩, fun e2 => ?_⟩⟩⟩
  · have e : goalsL p.b = [p.b.yes] := by simp [goalsL, e1]
    rw [e]
    refine ⟨_, _, rfl, ?_, fun k hk => by rw [blk_some.1 hk]; exact x1.size, x1.trans x2⟩
    have : OInts w2 (some (newA w1)) 1 [p.b.yes] := .inr ⟨_, [], rfl, h2, rfl⟩
    exact this.rd rfl
  · have e : goalsL p.b = [p.b.yes, p.b.no] := by simp [goalsL, e2]
    rw [e]
    refine ⟨_, _, rfl, ?_, fun k hk => by rw [blk_some.1 hk]; exact x1.size, x1.trans x2⟩
    have : OInts w2 (some (newA w1)) 2 [p.b.yes, p.b.no] := .inr ⟨_, [], rfl, h2, rfl⟩
    exact this.rd rfl
  · have e : goalsL p.b = [] := by simp [goalsL, e1, e2]
    rw [e]
    exact ⟨_, _, rfl, Rd.nil, fun k hk => absurd hk blk_none, x1⟩
end
end Go.Proofs.Ytbchjihecdkfeaa

namespace Go.Proofs.Ytbchjihecdkfeaa
open Go.Rd Go.RowKit
set_option linter.unusedVariables false
set_option linter.unusedSimpArgs false
set_option maxRecDepth 100000

theorem own_typ {e sz : Nat} {w : World} {A : Option Addr} {c : Nat} {cs : List Value} (h : Own e sz w A c cs) {k : Nat} (hk : blk A k) : ∃ vs, w.heap[k]? = some (.cells vs e (0, 0)) := by
  rcases h with ⟨rfl, _⟩ | ⟨b, sp, rfl, hb, hl⟩
  · exact (blk_none hk).elim
  · rw [blk_some.1 hk]; exact ⟨_, hb⟩
theorem typ_ne {w : World} {k e f : Nat} {us vs : Array Value} (h : w.heap[k]? = some (.cells us e (0, 0))) (h2 : w.heap[k]? = some (.cells vs f (0, 0))) : e = f := by
  rw [h] at h2
  injection h2 with h2
  injection h2
abbrev blks (ps : List BP) : List Blk := ps.map (·.b)
/-- The blocks of memory of a list of blocks. -/
def gff (A : Option Addr) (ps : List BP) (k : Nat) : Prop := blk A k ∨ ∃ p ∈ ps, blk p.A k
/-- An own list of blocks, each with its own code; 'T' lies behind each code, 'X' behind the list. -/
structure GOk (T : List Ins) (X : List BP) (w : World) (A : Option Addr) (c : Nat) (ps : List BP) : Prop where
  own : Own 49 8 w A c ((ps ++ X).flatMap BP.v)
  part : ∀ p ∈ ps, OInsns w p.A p.c (p.b.code ++ T) ∧ p.b.code.length = p.n
  pair : ps.Pairwise (fun p q => ∀ k, blk p.A k → ¬ blk q.A k)
section
variable {T : List Ins} {X : List BP} {w w' Wb : World} {A B : Option Addr} {n m c d : Nat} {ps qs : List BP} {p : BP}
theorem GOk.nil : GOk T [] w none 0 [] := ⟨.inl ⟨rfl, rfl, rfl⟩, fun p h => (by cases h), .nil⟩
theorem GOk.sep (h : GOk T X w A c ps) (hp : p ∈ ps) {k : Nat} (hk : blk A k) : ¬ blk p.A k := fun hk2 => by
  obtain ⟨us, h1⟩ := own_typ h.own hk
  obtain ⟨vs, h2⟩ := own_typ (h.part p hp).1 hk2
  have := typ_ne h1 h2
  revert this
  decide
theorem GOk.lt (h : GOk T X w A c ps) {k : Nat} (hk : gff A ps k) : k < w.heap.size := by
  rcases hk with hk | ⟨p, hp, hk⟩
  · exact h.own.lt k hk
  · exact (h.part p hp).1.lt k hk
theorem GOk.keep {Y : Nat → Prop} (h : GOk T X w A c ps) (hk : Keep Y w w') (hs : ∀ k, gff A ps k → ¬ Y k) : GOk T X w' A c ps :=
  ⟨h.own.keep hk fun k h1 => hs k (.inl h1), fun p hp => ⟨(h.part p hp).1.keep hk fun k h1 => hs k (.inr ⟨p, hp, h1⟩), (h.part p hp).2⟩, h.pair⟩
theorem GOk.ext (h : GOk T X w A c ps) (hk : Go.Rd.Ext w w') : GOk T X w' A c ps := h.keep hk fun _ _ h => h
theorem GOk.code (h : GOk T X w A c ps) (hp : p ∈ ps) : IInsns w p.A p.n p.b.code := by
  obtain ⟨o, hl⟩ := h.part p hp
  have h3 : IInsns w p.A (p.n + T.length) (p.b.code ++ T) := o.rdM (by rw [List.length_append, hl])
  have := h3.take Ins.len (k := p.n) (by omega)
  rwa [List.take_left' hl] at this
theorem GOk.read (h : GOk T X w A c ps) (hn : ps.length = n) : IBl w A n ps := by
  refine ⟨?_, fun p hp => h.code hp⟩
  have h3 : RdM BP.v w A (n + X.length) (ps ++ X) := h.own.rdM (by rw [List.length_append, hn])
  have := h3.take BP.len (k := n) (by omega)
  rwa [List.take_left' hn] at this
theorem GOk.cap (h : GOk T X w A c ps) : ps.length + X.length ≤ c := by
  have := h.own.le
  rw [flat_len BP.len, List.length_append] at this
  omega
/-- One more behind. -/
theorem GOk.push (h : GOk T [] w A c ps) (hn : ps.length = n) (hl : (n + 1) * 56 ≤ 140737488355328) (hp : OInsns w p.A p.c (p.b.code ++ T)) (hpl : p.b.code.length = p.n) (hf : ∀ k, blk p.A k → ¬ gff A ps k) {ty : Nat} (hB : RdC w B p.v) :
    ∃ A' c' w', (Builtin.append_ #[22, 22] ty #[.slice A n c, .slice B 1 d]).run Try.prog w = .ok (.slice A' (n + 1) c') w' ∧ GOk T [] w' A' c' (ps ++ [p]) ∧ Keep (blk A) w w' ∧ (∀ k, blk A' k → blk A k ∨ w.heap.size ≤ k) := by
  have h0 := h.own
  rw [List.append_nil] at h0
  obtain ⟨A', c', w', hr, o, hc, k, b⟩ := append_own slBlocks (ty := ty) (n := n) (d := d) h0 (by rw [flat_len BP.len, hn]) hB (m := 1) rfl rfl hl (by omega)
  refine ⟨A', c', w', hr, ⟨?_, fun q hq => ?_, ?_⟩, k, b⟩
  · rw [List.append_nil, List.flatMap_append]
    simpa using o
  · rcases List.mem_append.1 hq with hq | hq
    · exact ⟨(h.part q hq).1.keep k fun j hj hj2 => h.sep hq hj2 hj, (h.part q hq).2⟩
    · obtain rfl : q = p := by simpa using hq
      exact ⟨hp.keep k fun j hj hj2 => hf j hj (.inl hj2), hpl⟩
  · rw [List.pairwise_append]
    refine ⟨h.pair, by simp, fun q hq r hr' k hk hk2 => ?_⟩
    obtain rfl : r = p := by simpa using hr'
    exact hf k hk2 (.inr ⟨q, hq, hk⟩)
theorem gff_append {k : Nat} : gff A (ps ++ [p]) k ↔ (gff A ps k ∨ blk p.A k) := by
  unfold gff
  constructor
  · rintro (h | ⟨q, hq, h⟩)
    · exact .inl (.inl h)
    · rcases List.mem_append.1 hq with hq | hq
      · exact .inl (.inr ⟨q, hq, h⟩)
      · obtain rfl : q = p := by simpa using hq
        exact .inr h
  · rintro ((h | ⟨q, hq, h⟩) | h)
    · exact .inl h
    · exact .inr ⟨q, by simp [hq], h⟩
    · exact .inr ⟨p, by simp, h⟩
/-- A block's code is put. -/
theorem BAt.code {b : Nat} {A' : Option Addr} {n' c' : Nat} {φ : World → Prop} (h : BAt w b p) (hφ : ∀ w', BAt w' b ⟨A', n', c', p.b⟩ → Keep (· = b) w w' → φ w') :
    (∃ u, w.cell? ⟨b, 0, none⟩ = some u) ∧ w.frozen? ⟨b, 0, none⟩ = false ∧ letW (w.setCell ⟨b, 0, none⟩ (.slice A' n' c')) φ :=
  cell_put h (show 0 < 8 by decide) rfl fun w' h' k' => hφ w' h' k'
theorem temp_block {b : Nat} {cs : Array Value} (h : w.heap[b]? = some (.cells cs 49 (0, 0))) (hc : cs = p.v.toArray) : RdC w (some ⟨b, 0, none⟩) p.v := by
  have : Own 49 8 w (some ⟨b, 0, none⟩) 1 p.v := .inr ⟨_, [], rfl, by rw [List.append_nil, ← hc]; exact h, rfl⟩
  exact this.cells
/-! ## Alike -/

theorem blk_eq {a b : Blk} (h1 : a.e = b.e) (h2 : a.last = b.last) (h3 : a.yes = b.yes) (h4 : a.no = b.no) (h5 : a.code = b.code) : a = b := by
  obtain ⟨a1, a2, a3, a4, a5⟩ := a
  obtain ⟨b1, b2, b3, b4, b5⟩ := b
  simp only at h1 h2 h3 h4 h5
  subst h1 h2 h3 h4 h5
  rfl
theorem add_spot {a : Addr} {k : Nat} (h : a.spot = none) : (a.add k).spot = none := by
  obtain ⟨b, i, s⟩ := a
  obtain rfl : s = none := h
  rw [add_mk]
theorem At8.last' {a : Addr} {S : World → Prop} (h : ∀ u, S u → At8 u a p) : ∀ u : World, S u → u.cell? ((a.add 2).add 1) = some (.int .u8 p.b.last.t) ∧ u.cell? ((a.add 2).add 2) = some (.int .u8 p.b.last.f) ∧ u.cell? ((a.add 2).add 3) = some (.int .u32 p.b.last.k) := by
  intro u hu
  have h := h u hu
  rw [addr_add, addr_add, addr_add]
  exact ⟨h.t, h.f, h.k⟩
theorem sameBlocks_spec (hx : IBl w A n ps) (hy : IBl w B m qs) (hs : ∀ p ∈ ps, p.n ≤ 281474976710656) (hn : n ≤ 281474976710656) :
    Run Try.prog 24 #[.slice A n c, .slice B m d] w fun v w' => v = .bool (decide (blks ps = blks qs)) ∧ Go.Rd.Ext w w' := by
  have hl := hx.len
  have hl2 := hy.len
  refine law0_SameBlocks.ok (ifP_bne.2 ⟨fun hne => ?_, fun heq => ?_⟩)
  · refine ⟨?_, Go.Rd.Ext.refl w⟩
    rw [decide_eq_false]
    intro e
    have := congrArg List.length e
    rw [blks, blks, List.length_map, List.length_map] at this
    omega
  have hnm : n = m := by omega
  subst hnm
  suffices H : ∀ (k i : Nat), n - i = k → i ≤ n → (blks ps).take i = (blks qs).take i → ∀ w', Go.Rd.Ext w w' → law0_SameBlocks.L0 (fun v w' => v = .bool (decide (blks ps = blks qs)) ∧ Go.Rd.Ext w w') A n c B n d i w' from H n 0 (by omega) (by omega) rfl w (Go.Rd.Ext.refl w)
  intro k
  induction k with
  | zero =>
    intro i hk hi he w' x
    refine law0_SameBlocks.L0_step (ifP_no (by omega) ⟨?_, x⟩)
    rw [List.take_of_length_le (by rw [blks, List.length_map]; omega), List.take_of_length_le (by rw [blks, List.length_map]; omega)] at he
    rw [decide_eq_true he]
  | succ k ih =>
    intro i hk hi he w' x
    obtain ⟨a, p, ha, hp, _⟩ := hx.at8 (i := i) (by omega)
    obtain ⟨b, q, hb, hq, _⟩ := hy.at8 (i := i) (by omega)
    have pa : ∀ u, Go.Rd.Ext w' u → At8 u (a.add (i * 8)) p := fun u xu => by
      obtain ⟨a', p', ha', hp', h8⟩ := (hx.ext (x.trans xu)).at8 (i := i) (by omega)
      rw [ha] at ha'; rw [hp] at hp'
      obtain rfl := Option.some.inj ha'
      obtain rfl := Option.some.inj hp'
      exact h8
    have pb : ∀ u, Go.Rd.Ext w' u → At8 u (b.add (i * 8)) q := fun u xu => by
      obtain ⟨a', p', ha', hp', h8⟩ := (hy.ext (x.trans xu)).at8 (i := i) (by omega)
      rw [hb] at ha'; rw [hq] at hp'
      obtain rfl := Option.some.inj ha'
      obtain rfl := Option.some.inj hp'
      exact h8
    have gp : (blks ps)[i]? = some p.b := by rw [blks, List.getElem?_map, hp]; rfl
    have gq : (blks qs)[i]? = some q.b := by rw [blks, List.getElem?_map, hq]; rfl
    have ht : Int.toNat ((i : Nat) : Int) = i := Int.toNat_natCast i
    have bad : ∀ w2, Go.Rd.Ext w' w2 → p.b ≠ q.b → law0_SameBlocks.J0 (fun v w' => v = .bool (decide (blks ps = blks qs)) ∧ Go.Rd.Ext w w') A n c B n d i true w2 := by
      intro w2 x2 hne
      refine ifP_t rfl ⟨?_, x.trans x2⟩
      rw [decide_eq_false]
      intro e
      rw [e, gq] at gp
      exact hne (Option.some.inj gp).symm
    refine law0_SameBlocks.L0_step (ifP_yes (by omega) ⟨fun u => Go.Rd.Ext w' u, Go.Rd.Ext.drew w', letD fun w2 _ x2 => ?_⟩)
    rw [ht]
    refine ⟨by omega, by omega, a, ha, _, fun u hu => (pa u hu).e, by omega, by omega, b, hb, _, fun u hu => (pb u hu).e, ifP_bne.2 ⟨fun e => bad w2 x2 fun h => e (by rw [h]), fun e1 => ?_⟩⟩
    refine ⟨by omega, by omega, a, ha, _, fun u hu => (pa u hu).c, _, fun u hu => (At8.last' pa u hu).1, _, fun u hu => (At8.last' pa u hu).2.1, _, fun u hu => (At8.last' pa u hu).2.2, by omega, by omega, b, hb, _, fun u hu => (pb u hu).c, _, fun u hu => (At8.last' pb u hu).1, _, fun u hu => (At8.last' pb u hu).2.1, _, fun u hu => (At8.last' pb u hu).2.2, ?_⟩
    refine ⟨_, _, insn_neq, _, rfl, x2, ifP_not.2 (ifP_of (fun e2 => ?_) fun e2 => bad w2 x2 fun h => of_decide_eq_false e2 (by rw [h]))⟩
    have e2 : p.b.last = q.b.last := of_decide_eq_true e2
    refine ⟨by omega, by omega, a, ha, _, fun u hu => (pa u hu).y, by omega, by omega, b, hb, _, fun u hu => (pb u hu).y, ifP_bne.2 ⟨fun e => bad w2 x2 fun h => e (by rw [h]), fun e3 => ?_⟩⟩
    refine ⟨by omega, by omega, a, ha, _, fun u hu => (pa u hu).o, by omega, by omega, b, hb, _, fun u hu => (pb u hu).o, ifP_bne.2 ⟨fun e => bad w2 x2 fun h => e (by rw [h]), fun e4 => ?_⟩⟩
    refine ⟨by omega, by omega, a, ha, _, _, _, fun u hu => (pa u hu).s, by omega, by omega, b, hb, _, _, _, fun u hu => (pb u hu).s, ?_⟩
    refine (sameInsns_spec (RdM.ext (hx.code p (List.mem_of_getElem? hp)) (x.trans x2)) (RdM.ext (hy.code q (List.mem_of_getElem? hq)) (x.trans x2)) (hs p (List.mem_of_getElem? hp))).mono ?_
    rintro v w3 ⟨rfl, x3⟩
    refine ⟨_, rfl, ?_⟩
    by_cases e5 : p.b.code = q.b.code
    · rw [decide_eq_true e5]
      refine ifP_f rfl ?_
      rw [wrap_i64 (by omega) (by omega)]
      refine ih (i + 1) (by omega) (by omega) ?_ w3 (x.trans (x2.trans x3))
      rw [List.take_add_one, List.take_add_one, he, gp, gq, blk_eq e1 e2 e3 e4 e5]
    · rw [decide_eq_false e5]
      exact bad w3 (x2.trans x3) fun h => e5 (by rw [h])
/-! ## Lent, copied -/

/-- New blocks that read the same, and what else stood stands. -/
def NewBl (T : List Ins) (X : List BP) (w w' : World) (v : Value) (n : Nat) (bs : List Blk) : Prop :=
  ∃ A c qs, v = .slice A n c ∧ GOk T X w' A c qs ∧ blks qs = bs ∧ qs.length = n ∧ (∀ k, gff A qs k → w.heap.size ≤ k) ∧ Go.Rd.Ext w w'
def roomB : BP := ⟨none, 0, 0, ⟨[], 77, ⟨0, 0, 0, 0⟩, 0, 0⟩⟩
theorem blks_take_succ {i : Nat} (hp : ps[i]? = some p) (h : blks qs = (blks ps).take i) {A' : Option Addr} {n' c' : Nat} : blks (qs ++ [⟨A', n', c', p.b⟩]) = (blks ps).take (i + 1) := by
  have gp : (blks ps)[i]? = some p.b := by rw [blks, List.getElem?_map, hp]; rfl
  rw [List.take_add_one, gp, blks, List.map_append]
  show blks qs ++ [p.b] = _
  rw [h]
  rfl
theorem lendBlocks_spec (hx : IBl w A n ps) (hs : ∀ p ∈ ps, p.n * 8 ≤ 140737488351232) (hn : n * 56 ≤ 140737488351232) :
    Run Try.prog 11 #[.slice A n c] w fun v w' => NewBl [bad, bad, bad] [roomB, roomB] w w' v n (blks ps) := by
  have hl := hx.len
  refine law0_LendBlocks.ok ?_
  suffices H : ∀ (k i : Nat), n - i = k → i ≤ n → ∀ (w' : World) (O : Option Addr) (oc : Nat) (qs : List BP), GOk [bad, bad, bad] [] w' O oc qs → blks qs = (blks ps).take i → qs.length = i → (∀ k, gff O qs k → w.heap.size ≤ k) → Go.Rd.Ext w w' →
      law0_LendBlocks.L0 (fun v w' => NewBl [bad, bad, bad] [roomB, roomB] w w' v n (blks ps)) A n c O i oc i w' from H n 0 (by omega) (by omega) w none 0 [] GOk.nil rfl rfl (fun k hk => by rcases hk with hk | ⟨p, hp, _⟩; exact absurd hk blk_none; cases hp) (Go.Rd.Ext.refl w)
  intro k
  induction k with
  | zero =>
    intro i hk hi w' O oc qs ho hb hq hf x
    have hin : i = n := by omega
    subst hin
    refine law0_LendBlocks.L0_step (ifP_no (by omega) (letA fun w2 h2 x2 s2 => ?_))
    have hB : RdC w2 (some (newA w')) ([roomB, roomB].flatMap BP.v) := by
      have : Own 49 8 w2 (some (newA w')) 2 ([roomB, roomB].flatMap BP.v) := .inr ⟨_, [], rfl, h2, rfl⟩
      exact this.cells
    have ho2 := ho.ext x2
    have h0 := ho2.own
    rw [List.append_nil] at h0
    obtain ⟨A', c', w3, hr, o, hc, k3, b3⟩ := append_own slBlocks (ty := 22) (n := i) (d := 2) h0 (by rw [flat_len BP.len, hq]) hB (m := 2) rfl (BP.isCell _) (by omega) (by omega)
    refine ⟨_, w3, hr, A', i + 2, c', rfl, by omega, by omega, by omega, A', c', qs, ?_, ⟨?_, fun q hq => ⟨(ho2.part q hq).1.keep k3 fun j hj hj2 => ho2.sep hq hj2 hj, (ho2.part q hq).2⟩, ho.pair⟩, ?_, hq, ?_, ?_⟩
    · rw [subA_zero]; simp
    · rw [List.flatMap_append]; exact o
    · rw [hb, List.take_of_length_le (by rw [blks, List.length_map]; omega)]
    · rintro j (hj | hj)
      · rcases b3 j hj with h | h
        · exact hf j (.inl h)
        · have := (x.trans x2).size; omega
      · exact hf j (.inr hj)
    · exact (x.trans x2).fresh k3 fun j hj => hf j (.inl hj)
  | succ k ih =>
    intro i hk hi w' O oc qs ho hb hq hf x
    obtain ⟨a, p, ha, hp, h8⟩ := (hx.ext x).at8 (i := i) (by omega)
    have hpm := List.mem_of_getElem? hp
    have ht : Int.toNat ((i : Nat) : Int) = i := Int.toNat_natCast i
    refine law0_LendBlocks.L0_step (ifP_yes (by omega) ⟨by omega, by omega, a, ha, ?_⟩)
    rw [ht]
    refine h8.rd (bstore fun w2 h2 x2 => ⟨by omega, by omega, a, ha, _, _, _, (h8.ext x2).s, (lendInsns_spec (RdM.ext (hx.code p hpm) (x.trans x2)) (hs p hpm)).mono ?_⟩)
    rintro v w3 ⟨A3, c3, rfl, o3, b3, x3⟩
    have z2 := x2.size
    refine ⟨_, _, _, rfl, (h2.ext x3).code fun w4 h4 k4 => h4.at8.rd (letA fun w5 h5 x5 s5 => ?_)⟩
    have x14 : Go.Rd.Ext w' w4 := (x2.trans x3).fresh k4 fun j hj => by rw [hj]; exact Nat.le_refl _
    have o4 := o3.keep k4 fun j hj h => by have := b3 j hj; have := heap_lt h2; omega
    have hpl : p.b.code.length = p.n := (hx.code p hpm).len
    obtain ⟨A', c', w6, hr, g6, k6, b6⟩ := GOk.push (p := ⟨A3, p.n, c3, p.b⟩) (ty := 22) (d := 1) (ho.ext (x14.trans x5)) hq (by omega) (o4.ext x5) hpl (fun j hj hj2 => by have := b3 j hj; have := ho.lt hj2; omega) (temp_block h5 rfl)
    refine ⟨_, w6, hr, A', i + 1, c', rfl, ?_⟩
    rw [wrap_i64 (by omega) (by omega)]
    have x05 := x.trans (x14.trans x5)
    refine ih (i + 1) (by omega) (by omega) w6 A' c' _ g6 (blks_take_succ hp hb) (by rw [List.length_append, hq]; rfl) (fun j hj => ?_) (x05.fresh k6 fun j hj => hf j (.inl hj))
    rcases gff_append.1 hj with (h | h) | h
    · rcases b6 j h with h | h
      · exact hf j (.inl h)
      · have := x05.size; omega
    · exact hf j (.inr h)
    · have := b3 j h; have := (x.trans x2).size; omega
theorem copyBlocks_spec (hx : IBl w A n ps) (hs : ∀ p ∈ ps, p.n * 8 ≤ 140737488351232) (hn : n * 56 ≤ 140737488351232) :
    Run Try.prog 28 #[.slice A n c] w fun v w' => NewBl [] [] w w' v n (blks ps) := by
  have hl := hx.len
  refine law0_CopyBlocks.ok ?_
  suffices H : ∀ (k i : Nat), n - i = k → i ≤ n → ∀ (w' : World) (O : Option Addr) (oc : Nat) (qs : List BP), GOk [] [] w' O oc qs → blks qs = (blks ps).take i → qs.length = i → (∀ k, gff O qs k → w.heap.size ≤ k) → Go.Rd.Ext w w' →
      law0_CopyBlocks.L0 (fun v w' => NewBl [] [] w w' v n (blks ps)) A n c O i oc i w' from H n 0 (by omega) (by omega) w none 0 [] GOk.nil rfl rfl (fun k hk => by rcases hk with hk | ⟨p, hp, _⟩; exact absurd hk blk_none; cases hp) (Go.Rd.Ext.refl w)
  intro k
  induction k with
  | zero =>
    intro i hk hi w' O oc qs ho hb hq hf x
    have hin : i = n := by omega
    subst hin
    refine law0_CopyBlocks.L0_step (ifP_no (by omega) ⟨O, oc, qs, rfl, ho, ?_, hq, hf, x⟩)
    rw [hb, List.take_of_length_le (by rw [blks, List.length_map]; omega)]
  | succ k ih =>
    intro i hk hi w' O oc qs ho hb hq hf x
    obtain ⟨a, p, ha, hp, h8⟩ := (hx.ext x).at8 (i := i) (by omega)
    have hpm := List.mem_of_getElem? hp
    have ht : Int.toNat ((i : Nat) : Int) = i := Int.toNat_natCast i
    have hsp := hs p hpm
    refine law0_CopyBlocks.L0_step (ifP_yes (by omega) ⟨by omega, by omega, a, ha, ?_⟩)
    rw [ht]
    refine h8.rd (bstore fun w2 h2 x2 => ⟨by omega, by omega, a, ha, _, _, _, (h8.ext x2).s, (copyInsns_spec (RdM.ext (hx.code p hpm) (x.trans x2)) (by omega)).mono ?_⟩)
    rintro v w3 ⟨A3, c3, rfl, o3, l3, b3, x3⟩
    have z2 := x2.size
    refine ⟨_, _, _, rfl, (h2.ext x3).code fun w4 h4 k4 => h4.at8.rd (letA fun w5 h5 x5 s5 => ?_)⟩
    have x14 : Go.Rd.Ext w' w4 := (x2.trans x3).fresh k4 fun j hj => by rw [hj]; exact Nat.le_refl _
    have o4 := o3.keep k4 fun j hj h => by have := b3 j hj; have := heap_lt h2; omega
    have hpl : p.b.code.length = p.n := (hx.code p hpm).len
    obtain ⟨A', c', w6, hr, g6, k6, b6⟩ := GOk.push (p := ⟨A3, p.n, c3, p.b⟩) (ty := 22) (d := 1) (ho.ext (x14.trans x5)) hq (by omega) (by rw [List.append_nil]; exact o4.ext x5) hpl (fun j hj hj2 => by have := b3 j hj; have := ho.lt hj2; omega) (temp_block h5 rfl)
    refine ⟨_, w6, hr, A', i + 1, c', rfl, ?_⟩
    rw [wrap_i64 (by omega) (by omega)]
    have x05 := x.trans (x14.trans x5)
    refine ih (i + 1) (by omega) (by omega) w6 A' c' _ g6 (blks_take_succ hp hb) (by rw [List.length_append, hq]; rfl) (fun j hj => ?_) (x05.fresh k6 fun j hj => hf j (.inl hj))
    rcases gff_append.1 hj with (h | h) | h
    · rcases b6 j h with h | h
      · exact hf j (.inl h)
      · have := x05.size; omega
    · exact hf j (.inr h)
    · have := b3 j h; have := (x.trans x2).size; omega
end
end Go.Proofs.Ytbchjihecdkfeaa
