/- Package check: what is looked at in each instruction. -/
import Derived.Test.YtbchjihecdkfeaaAt4
import Derived.Test.YtbchjihecdkfeaaRKnown
namespace Go.Proofs.Ytbchjihecdkfeaa
open Go.Rd Go.RowKit
set_option linter.unusedVariables false
set_option linter.unusedSimpArgs false

/-! ## What it is -/

def wordsL : List Int := [2, 3, 96, 97]
/-- Is a jump's goal no place of the program, with so many instructions behind it? -/
def jumpBad (i : Ins) (left : Int) : Bool := if classOf i.c = 5 then (if i.c = 5 then decide (left ≤ i.k) else decide (left ≤ i.t) || decide (left ≤ i.f)) else false
/-- What is wrong with an instruction by itself. -/
def faultOf (i : Ins) : Int :=
  if isKnown i.c = true then
    if i.c ∈ wordsL ∧ 16 ≤ i.k then 43 else if (i.c = 52 ∨ i.c = 148) ∧ i.k = 0 then 44 else if (i.c = 100 ∨ i.c = 116) ∧ 31 < i.k then 45 else 0
  else 42
/-- What is wrong with an instruction at a place of n. -/
def wrongAt (n : Int) (a : Int) (i : Ins) : Int := if faultOf i ≠ 0 then faultOf i else if jumpBad i (n - 1 - a) = true then 46 else 0

def e2 (i : Ins) : Int := if isKnown i.c = true then 0 else 42
def e3 (i : Ins) : Int := if i.c ∈ wordsL ∧ 16 ≤ i.k then 43 else 0
def e4 (i : Ins) : Int := if (i.c = 52 ∨ i.c = 148) ∧ i.k = 0 then 44 else 0
def e5 (i : Ins) : Int := if (i.c = 100 ∨ i.c = 116) ∧ 31 < i.k then 45 else 0
def e6 (n a : Int) (i : Ins) : Int := if jumpBad i (n - 1 - a) = true then 46 else 0

/-! ## The walk -/

theorem when_spec {w : World} {b : Bool} {e : Int} : Run Try.prog 101 #[.bool b, .int .i64 e] w fun v w' => v = .int .i64 (if b = true then e else 0) ∧ w' = w := by
  refine check_asked_1.ok ?_
  cases b
  · exact ⟨rfl, rfl⟩
  · exact ⟨rfl, rfl⟩

theorem words_spec {w : World} {c : Int} : Run Try.prog 105 #[.int .u16 c] w fun v w' => v = .bool (decide (c ∈ wordsL)) ∧ w' = w := by
  refine check_words.ok ?_
  by_cases h : c ∈ wordsL
  · rw [decide_eq_true (h)]
    simp only [wordsL, List.mem_cons, List.not_mem_nil, or_false] at h
    rcases h with rfl | rfl | rfl | rfl <;> exact ⟨rfl, rfl⟩
  · have h0 := h
    simp only [wordsL, List.mem_cons, List.not_mem_nil, or_false, not_or] at h
    simp only [check_words.J0, ifP_beq, h, false_imp_iff, true_and, ne_eq, not_false_eq_true, true_imp_iff]
    exact ⟨by rw [decide_eq_false h0, beq_eq_false_iff_ne.2 h.2.2.2], trivial⟩

theorem astray_spec {w : World} {i : Ins} {left : Int} (hi : i.ok) (h0 : 0 ≤ left) (h1 : left ≤ 4096) :
    Run Try.prog 109 #[.agg #[.int .u16 i.c, .int .u8 i.t, .int .u8 i.f, .int .u32 i.k], .int .i64 left] w fun v w' => v = .bool (jumpBad i left) ∧ Ext w w' := by
  obtain ⟨hc, ht, hf, hk⟩ := hi
  refine check_astray.ok (letA fun w1 h1 x1 s1 => ?_)
  have b := At4.box (i := i) h1
  refine ⟨_, b.c, class_spec.mono ?_⟩
  rintro v w2 ⟨rfl, rfl⟩
  refine ⟨_, rfl, ifP_bne.2 ⟨fun hne => ⟨by rw [jumpBad, if_neg hne], x1⟩, fun he => ⟨_, b.c, ifP_beq.2 ⟨fun hc5 => ⟨_, b.k, ?_⟩, fun hc5 => ⟨_, b.t, ?_⟩⟩⟩⟩⟩
  · rw [wrap_u64 (x := i.k) (by omega) (by omega), wrap_u64 (x := left) (by omega) (by omega)]
    exact ⟨by rw [jumpBad, if_pos he, if_pos hc5], x1⟩
  · rw [wrap_i64 (x := i.t) (by omega) (by omega)]
    refine ifP_decide.2 ⟨fun hl => ⟨?_, x1⟩, fun hl => ⟨_, b.f, ?_⟩⟩
    · rw [jumpBad, if_pos he, if_neg hc5, decide_eq_true (show left ≤ i.t from hl)]; rfl
    · rw [wrap_i64 (x := i.f) (by omega) (by omega)]
      exact ⟨by rw [jumpBad, if_pos he, if_neg hc5, decide_eq_false (show ¬ left ≤ i.t from hl)]; rfl, x1⟩

/-- A function value tells this of an instruction. -/
def Asks (n : Int) (W : World) (f : Value) (e : Int → Ins → Int) : Prop :=
  ∀ (w : World), Ext W w → ∀ (a : Int) (i : Ins), i.ok → 0 ≤ a → a < n → ∃ (g : FuncId) (fs cs : Array Value), f = .func (.func g) fs cs ∧ okCall Try.prog g = true ∧
    Run Try.prog g (fs ++ #[.int .i64 a, .agg #[.int .u16 i.c, .int .u8 i.t, .int .u8 i.f, .int .u32 i.k]] ++ cs) w fun v w' => v = .int .i64 (e a i) ∧ Ext w w'

theorem when_if {b : Bool} {p : Prop} [Decidable p] {e : Int} (h : b = true ↔ p) : Value.int .i64 (if b = true then e else 0) = Value.int .i64 (if p then e else 0) := by
  by_cases hp : p
  · rw [if_pos hp, if_pos (h.2 hp)]
  · rw [if_neg hp, if_neg fun x => hp (h.1 x)]

section
variable {W : World} {p q : Addr} {n : Int}

abbrev whenV : Value := .func (.func 101) #[] #[]

theorem ask2 (h : W.cell? p = some whenV) : Asks n W (.func (.func 102) #[] #[.pointer (some p)]) fun _ i => e2 i := by
  intro w hw a i hi h0 hn
  refine ⟨_, _, _, rfl, by kernel_rfl, Run.dyn (all := [_, _, _]) rfl (check_asked_2.ok (letA fun w1 h1 x1 s1 => ⟨Ext w1, Ext.drew w1, letD fun w2 hh2 x2 =>
    ⟨_, fun u hu => hu.cell (x1.cell (hw.cell h)), _, fun u hu => hu.cell (At4.box (i := i) h1).c, known_spec.mono ?_⟩⟩))⟩
  rintro v w3 ⟨rfl, rfl⟩
  refine ⟨_, rfl, x2, _, _, _, rfl, by kernel_rfl, Run.dyn (all := [_, _]) rfl (when_spec.mono ?_)⟩
  rintro v w4 ⟨rfl, rfl⟩
  refine ⟨_, rfl, ?_, x1.trans x2⟩
  show _ = Value.int .i64 (e2 i)
  unfold e2 isKnown
  cases decide (i.c ∈ knownL ++ (aluL ++ testL)) <;> rfl

theorem ask3 (h : W.cell? p = some whenV) : Asks n W (.func (.func 104) #[] #[.pointer (some p)]) fun _ i => e3 i := by
  intro w hw a i hi h0 hn
  refine ⟨_, _, _, rfl, by kernel_rfl, Run.dyn (all := [_, _, _]) rfl (check_asked_3.ok (letA fun w1 h1 x1 s1 => ⟨Ext w1, Ext.drew w1, letD fun w2 hh2 x2 =>
    ⟨_, fun u hu => hu.cell (x1.cell (hw.cell h)), _, fun u hu => hu.cell (At4.box (i := i) h1).c, words_spec.mono ?_⟩⟩))⟩
  rintro v w3 ⟨rfl, rfl⟩
  refine ⟨_, rfl, x2, ifP_decide.2 ⟨fun hm => ⟨_, fun u hu => hu.cell (At4.box (i := i) h1).k, _, _, _, rfl, by kernel_rfl, Run.dyn (all := [_, _]) rfl (when_spec.mono ?_)⟩, fun hm => ⟨_, _, _, rfl, by kernel_rfl, Run.dyn (all := [_, _]) rfl (when_spec.mono ?_)⟩⟩⟩
  · rintro v w4 ⟨rfl, rfl⟩
    exact ⟨_, rfl, when_if (p := i.c ∈ wordsL ∧ 16 ≤ i.k) (by rw [decide_eq_true_eq]; exact ⟨fun h => ⟨hm, h⟩, fun h => h.2⟩), x1.trans x2⟩
  · rintro v w4 ⟨rfl, rfl⟩
    exact ⟨_, rfl, when_if (p := i.c ∈ wordsL ∧ 16 ≤ i.k) ⟨fun h => (by cases h), fun h => absurd h.1 hm⟩, x1.trans x2⟩

theorem ask4 (h : W.cell? p = some whenV) : Asks n W (.func (.func 106) #[] #[.pointer (some p)]) fun _ i => e4 i := by
  intro w hw a i hi h0 hn
  refine ⟨_, _, _, rfl, by kernel_rfl, Run.dyn (all := [_, _, _]) rfl (check_asked_4.ok (letA fun w1 h1 x1 s1 => ⟨_, x1.cell (hw.cell h), _, (At4.box (i := i) h1).c, ifP_beq.2 ⟨fun hc => ⟨_, (At4.box (i := i) h1).k, _, _, _, rfl, by kernel_rfl, Run.dyn (all := [_, _]) rfl (when_spec.mono ?_)⟩,
    fun hc => ⟨_, (At4.box (i := i) h1).c, ifP_beq.2 ⟨fun hd => ⟨_, (At4.box (i := i) h1).k, _, _, _, rfl, by kernel_rfl, Run.dyn (all := [_, _]) rfl (when_spec.mono ?_)⟩, fun hd => ⟨_, _, _, rfl, by kernel_rfl, Run.dyn (all := [_, _]) rfl (when_spec.mono ?_)⟩⟩⟩⟩⟩))⟩
  · rintro v w4 ⟨rfl, rfl⟩
    exact ⟨_, rfl, when_if (p := (i.c = 52 ∨ i.c = 148) ∧ i.k = 0) (by rw [beq_iff_eq]; exact ⟨fun h => ⟨.inl hc, h⟩, fun h => h.2⟩), x1⟩
  · rintro v w4 ⟨rfl, rfl⟩
    exact ⟨_, rfl, when_if (p := (i.c = 52 ∨ i.c = 148) ∧ i.k = 0) (by rw [beq_iff_eq]; exact ⟨fun h => ⟨.inr hd, h⟩, fun h => h.2⟩), x1⟩
  · rintro v w4 ⟨rfl, rfl⟩
    exact ⟨_, rfl, when_if (p := (i.c = 52 ∨ i.c = 148) ∧ i.k = 0) ⟨fun h => (by cases h), fun h => (h.1.elim hc hd).elim⟩, x1⟩

theorem ask5 (h : W.cell? p = some whenV) : Asks n W (.func (.func 107) #[] #[.pointer (some p)]) fun _ i => e5 i := by
  intro w hw a i hi h0 hn
  refine ⟨_, _, _, rfl, by kernel_rfl, Run.dyn (all := [_, _, _]) rfl (check_asked_5.ok (letA fun w1 h1 x1 s1 => ⟨_, x1.cell (hw.cell h), _, (At4.box (i := i) h1).c, ifP_beq.2 ⟨fun hc => ⟨_, (At4.box (i := i) h1).k, _, _, _, rfl, by kernel_rfl, Run.dyn (all := [_, _]) rfl (when_spec.mono ?_)⟩,
    fun hc => ⟨_, (At4.box (i := i) h1).c, ifP_beq.2 ⟨fun hd => ⟨_, (At4.box (i := i) h1).k, _, _, _, rfl, by kernel_rfl, Run.dyn (all := [_, _]) rfl (when_spec.mono ?_)⟩, fun hd => ⟨_, _, _, rfl, by kernel_rfl, Run.dyn (all := [_, _]) rfl (when_spec.mono ?_)⟩⟩⟩⟩⟩))⟩
  · rintro v w4 ⟨rfl, rfl⟩
    exact ⟨_, rfl, when_if (p := (i.c = 100 ∨ i.c = 116) ∧ 31 < i.k) (by rw [decide_eq_true_eq]; exact ⟨fun h => ⟨.inl hc, h⟩, fun h => h.2⟩), x1⟩
  · rintro v w4 ⟨rfl, rfl⟩
    exact ⟨_, rfl, when_if (p := (i.c = 100 ∨ i.c = 116) ∧ 31 < i.k) (by rw [decide_eq_true_eq]; exact ⟨fun h => ⟨.inr hd, h⟩, fun h => h.2⟩), x1⟩
  · rintro v w4 ⟨rfl, rfl⟩
    exact ⟨_, rfl, when_if (p := (i.c = 100 ∨ i.c = 116) ∧ 31 < i.k) ⟨fun h => (by cases h), fun h => (h.1.elim hc hd).elim⟩, x1⟩

theorem ask6 (h : W.cell? p = some whenV) (h' : W.cell? q = some (.int .i64 n)) (hn0 : 0 ≤ n) (hn1 : n ≤ 4096) : Asks n W (.func (.func 108) #[] #[.pointer (some p), .pointer (some q)]) fun a i => e6 n a i := by
  intro w hw a i hi h0 hn
  refine ⟨_, _, _, rfl, by kernel_rfl, Run.dyn (all := [_, _, _, _]) rfl (check_asked_6.ok (letA fun w1 h1 x1 s1 => ⟨Ext w1, Ext.drew w1, letD fun w2 hh2 x2 => ?_⟩))⟩
  have b := At4.box (i := i) h1
  refine ⟨_, fun u hu => hu.cell (x1.cell (hw.cell h)), _, fun u hu => hu.cell b.c, _, fun u hu => hu.cell b.t, _, fun u hu => hu.cell b.f, _, fun u hu => hu.cell b.k, _, fun u hu => hu.cell (x1.cell (hw.cell h')), ?_⟩
  rw [wrap_i64 (x := n - 1) (by omega) (by omega), wrap_i64 (x := n - 1 - a) (by omega) (by omega)]
  refine (astray_spec hi (by omega) (by omega)).mono ?_
  rintro v w3 ⟨rfl, x3⟩
  refine ⟨_, rfl, x2.trans x3, _, _, _, rfl, by kernel_rfl, Run.dyn (all := [_, _]) rfl (when_spec.mono ?_)⟩
  rintro v w4 ⟨rfl, rfl⟩
  exact ⟨_, rfl, rfl, (x1.trans x2).trans x3⟩
end

/-- Function values with what they tell. -/
abbrev AskList := List (Value × (Int → Ins → Int))
def firstE (a : Int) (i : Ins) : AskList → Int
  | [] => 0
  | p :: r => if p.2 a i ≠ 0 then p.2 a i else firstE a i r

theorem firstE_wrong {n a : Int} {i : Ins} {v2 v3 v4 v5 v6 : Value} : firstE a i [(v2, fun _ i => e2 i), (v3, fun _ i => e3 i), (v4, fun _ i => e4 i), (v5, fun _ i => e5 i), (v6, fun a i => e6 n a i)] = wrongAt n a i := by
  simp only [firstE, e2, e3, e4, e5, e6, wrongAt, faultOf]
  by_cases h2 : isKnown i.c = true
  · simp only [if_pos h2]
    by_cases h3 : i.c ∈ wordsL ∧ 16 ≤ i.k
    · simp [if_pos h3]
    · simp only [if_neg h3]
      by_cases h4 : (i.c = 52 ∨ i.c = 148) ∧ i.k = 0
      · simp [if_pos h4]
      · simp only [if_neg h4]
        by_cases h5 : (i.c = 100 ∨ i.c = 116) ∧ 31 < i.k
        · simp [if_pos h5]
        · simp only [if_neg h5]
          by_cases h6 : jumpBad i (n - 1 - a) = true
          · simp [if_pos h6]
          · simp [if_neg h6]
  · simp [if_neg h2]

theorem asked_spec {w : World} {n : Int} (h0 : 0 ≤ n) (h1 : n ≤ 4096) : Run Try.prog 63 #[.int .i64 n] w fun v w' =>
    ∃ A L, v = .slice (some A) 5 5 ∧ Rd Prod.fst w' (some A) 5 L ∧ Ext w w' ∧ (∀ p ∈ L, Asks n w' p.1 p.2) ∧ ∀ a i, firstE a i L = wrongAt n a i := by
  refine check_asked.ok (letA fun w1 h1 x1 s1 => letA fun w2 h2 x2 s2 => ⟨st_cell h2 (by simp), frozen_of h2, letS h2 fun w3 h3 k3 s3 => letA fun w4 h4 x4 s4 => ?_⟩)
  have hw : w3.cell? (newA w1) = some whenV := (cell_of h3).trans rfl
  have hn : w3.cell? (newA w) = some (.int .i64 n) := k3.cell (x2.cell ((cell_of h1).trans rfl)) (fun e => by have : w.heap.size = w1.heap.size := e; omega)
  have c4 := x4.cell hw
  refine ⟨_, [(.func (.func 102) #[] #[.pointer (some (newA w1))], fun _ i => e2 i), (.func (.func 104) #[] #[.pointer (some (newA w1))], fun _ i => e3 i), (.func (.func 106) #[] #[.pointer (some (newA w1))], fun _ i => e4 i),
    (.func (.func 107) #[] #[.pointer (some (newA w1))], fun _ i => e5 i), (.func (.func 108) #[] #[.pointer (some (newA w1)), .pointer (some (newA w))], fun a i => e6 n a i)], rfl, Rd.block h4 ?_, ?_, ?_, fun a i => firstE_wrong⟩
  · intro i x hi
    match i, hi with
    | 0, hi => simp at hi; subst hi; rfl
    | 1, hi => simp at hi; subst hi; rfl
    | 2, hi => simp at hi; subst hi; rfl
    | 3, hi => simp at hi; subst hi; rfl
    | 4, hi => simp at hi; subst hi; rfl
    | (i + 5), hi => simp at hi
  · exact ((x1.trans x2).fresh k3 fun k hk => by have : k = w1.heap.size := hk; omega).trans x4
  · intro p hp
    simp only [List.mem_cons, List.not_mem_nil, or_false] at hp
    rcases hp with rfl | rfl | rfl | rfl | rfl
    · exact ask2 c4
    · exact ask3 c4
    · exact ask4 c4
    · exact ask5 c4
    · exact ask6 c4 (x4.cell hn) h0 (by omega)
end Go.Proofs.Ytbchjihecdkfeaa
