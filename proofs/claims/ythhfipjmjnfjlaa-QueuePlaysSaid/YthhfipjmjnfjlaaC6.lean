/- Package queue: Drain. -/
import Derived.Test.YthhfipjmjnfjlaaC5
namespace Go.Proofs.Ythhfipjmjnfjlaa
open Go.Rd Go.RowKit
set_option linter.unusedVariables false
set_option linter.unusedSimpArgs false

/-- All frames, class by class. -/
def drainL (cl : List Cls) : List (List Int) := cl.flatMap fun C => C.fr
/-- The classes without their frames. -/
def bare (cl : List Cls) : List Cls := cl.map fun C => { C with fr := [] }

theorem Empty.drain {cl : List Cls} (h : Empty cl) : drainL cl = [] ∧ bare cl = cl := by
  refine ⟨?_, ?_⟩
  · unfold drainL
    rw [List.flatMap_eq_nil_iff]
    intro C hC
    obtain ⟨j, hj⟩ := List.getElem?_of_mem hC
    exact h j C hj
  · unfold bare
    apply List.ext_getElem?
    intro j
    rw [List.getElem?_map]
    cases hj : cl[j]? with
    | none => rfl
    | some C =>
      have := h j C hj
      show some { C with fr := [] } = some C
      rw [← this]
theorem First.drain {cl cl' : List Cls} {i : Nat} {x : List Int} (h : First cl i x cl') : drainL cl = x :: drainL cl' ∧ bare cl' = bare cl := by
  obtain ⟨C, fr, hC, hfr, he, rfl⟩ := h
  constructor
  · induction cl generalizing i with
    | nil => simp at hC
    | cons D cl ih =>
      cases i with
      | zero =>
        obtain rfl : D = C := by simpa using hC
        simp [drainL, hfr]
      | succ i =>
        have hD : D.fr = [] := he 0 D (by omega) rfl
        have := ih (i := i) (by simpa using hC) fun j E hj hE => he (j + 1) E (by omega) (by simpa using hE)
        simp only [drainL, List.flatMap_cons, List.set_cons_succ, hD, List.nil_append] at this ⊢
        exact this
  · unfold bare
    rw [List.map_set]
    apply List.ext_getElem?
    intro j
    by_cases hj : i = j
    · subst hj
      have hi := (List.getElem?_eq_some_iff.1 hC).1
      rw [List.getElem?_set_self (by simpa using hi), List.getElem?_map, hC]
      rfl
    · rw [List.getElem?_set_ne hj]

/-- What Drain tells: all frames, now the caller's own. -/
def DrainOf (w : World) (F : Nat → Prop) (cl : List Cls) (OK : World → (Nat → Prop) → List Cls → Prop) (v : Value) (w' : World) : Prop :=
  ∃ A n c ps F', v = .slice A n c ∧ FOk w' A n c ps (drainL cl) ∧ OK w' F' (bare cl) ∧ Keep F w w' ∧ (∀ k, F' k → F k) ∧ ∀ k, ffp A c ps k → (F k ∨ w.heap.size ≤ k) ∧ ¬ F' k

theorem drain_spec {w : World} {q : Nat} {F : Nat → Prop} {cl : List Cls} (h : QOk w q F cl) (hn : (drainL cl).length ≤ 100000000) :
    Run Try.prog 17 #[.pointer (some ⟨q, 0, none⟩)] w (DrainOf w F cl fun w' F' cl' => QOk w' q F' cl') := by
  have loop : ∀ (d : Nat) (O : Option Addr) (n oc : Nat) (ps : List Part) (os : List (List Int)) (F1 : Nat → Prop) (cl1 : List Cls) (w1 : World), (drainL cl1).length = d → os ++ drainL cl1 = drainL cl → bare cl1 = bare cl → FOk w1 O n oc ps os → QOk w1 q F1 cl1 →
      Keep F w w1 → (∀ k, F1 k → F k) → (∀ k, ffp O oc ps k → (F k ∨ w.heap.size ≤ k) ∧ ¬ F1 k) →
      queue_Queue_Drain.L0 (DrainOf w F cl fun w' F' cl' => QOk w' q F' cl') (some ⟨q, 0, none⟩) O n oc w1 := by
    intro d
    induction d with
    | zero =>
      intro O n oc ps os F1 cl1 w1 hd ho hb f1 h1 K hF hf
      refine queue_Queue_Drain.L0_step ((take_spec h1).mono ?_)
      rintro v w2 (⟨he, rfl, x2⟩ | ⟨i, x, cl2, A, m, c, F2, hfirst, rfl, h2, o2, l2, K2, s2, d2⟩)
      · obtain ⟨e1, e2⟩ := he.drain
        rw [e1, List.append_nil] at ho
        subst ho
        refine ⟨_, _, _, _, _, rfl, ifP_t rfl ⟨O, n, oc, ps, F1, rfl, f1.ext x2, ?_, K.trans' (Keep.ext x2), hF, hf⟩⟩
        rw [← hb, e2]
        exact h1.ext x2
      · have := hfirst.drain.1
        rw [this] at hd
        cases hd
    | succ d ih =>
      intro O n oc ps os F1 cl1 w1 hd ho hb f1 h1 K hF hf
      refine queue_Queue_Drain.L0_step ((take_spec h1).mono ?_)
      rintro v w2 (⟨he, rfl, x2⟩ | ⟨i, x, cl2, A, m, c, F2, hfirst, rfl, h2, o2, l2, K2, s2, d2⟩)
      · rw [he.drain.1] at hd
        cases hd
      · obtain ⟨e1, e2⟩ := hfirst.drain
        rw [e1] at hd ho
        refine ⟨_, _, _, _, _, rfl, ifP_f rfl (letA fun w3 h3 x3 s3 => ?_)⟩
        have hB : RdC w3 (some (newA w2)) [(Part.mk A m c x).v] := by
          have : Own 35 1 w3 (some (newA w2)) 1 [(Part.mk A m c x).v] := .inr ⟨_, [], rfl, h3, rfl⟩
          exact this.cells
        have f2 := f1.keep K2 fun k hk hk2 => (hf k hk).2 hk2
        have hol : os.length ≤ 100000000 := by
          have := congrArg List.length ho
          rw [List.length_append] at this
          omega
        have hol2 := f1.length
        obtain ⟨O4, c4, w4, hr4, f4, k4, n4⟩ := FOk.push (d := 1) (ty := 45) (f2.ext x3) (by omega) (p := ⟨A, m, c, x⟩) (o2.ext x3) l2 (fun k hk hk2 => (hf k hk2).2 (d2 k hk).1) hB
        have sub4 : ∀ k, ffp O4 c4 (ps ++ [⟨A, m, c, x⟩]) k → (F k ∨ w.heap.size ≤ k) ∧ ¬ F2 k := by
          have szs : w.heap.size ≤ w3.heap.size := by have := K.size; have := K2.size; have := x3.size; omega
          have ltF2 : ∀ k, F2 k → k < w3.heap.size := fun k hk => by
            obtain ⟨_, _, _, hq⟩ := h2
            have := hq.lt k hk; have := x3.size; omega
          rintro k (hk | ⟨p, hp, hk⟩)
          · rcases n4 k hk with hk | hk
            · have := hf k (.inl hk); exact ⟨this.1, fun h => this.2 (s2 k h)⟩
            · exact ⟨.inr (by omega), fun h => by have := ltF2 k h; omega⟩
          · rcases List.mem_append.1 hp with hp | hp
            · have := hf k (.inr ⟨p, hp, hk⟩); exact ⟨this.1, fun h => this.2 (s2 k h)⟩
            · obtain rfl : p = _ := by simpa using hp
              have := d2 k hk
              exact ⟨.inl (hF k this.1), this.2⟩
        refine ⟨_, w4, hr4, O4, _, c4, rfl, ih O4 (n + 1) c4 _ (os ++ [x]) F2 cl2 w4 (by simpa using hd) (by rw [← ho]; simp) (e2.trans hb) f4 ?_ ?_ (fun k hk => hF k (s2 k hk)) sub4⟩
        · exact (h2.ext x3).keep k4 fun k hk hk2 => (hf k (.inl hk2)).2 (s2 k hk)
        · refine ((K.trans' (K2.mono fun k _ hk => hF k hk)).trans' (Keep.ext x3)).trans k4 (fun k _ hk => hk) fun k hlt hk => ?_
          rcases (hf k (.inl hk)).1 with h | h
          · exact h
          · omega
  refine queue_Queue_Drain.ok (loop _ none 0 0 [] [] F cl w rfl rfl rfl FOk.nil h (Keep.refl w) (fun k hk => hk) ?_)
  rintro k (hk | ⟨p, hp, _⟩)
  · exact absurd hk.1 (Nat.lt_irrefl 0)
  · cases hp
end Go.Proofs.Ythhfipjmjnfjlaa
