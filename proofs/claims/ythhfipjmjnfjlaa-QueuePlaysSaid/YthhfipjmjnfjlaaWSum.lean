/- Package word: Sum. -/
import Derived.Test.YthhfipjmjnfjlaaHWords
namespace Go.Proofs.Ythhfipjmjnfjlaa
open Go.Rd Go.RowKit
set_option linter.unusedVariables false
set_option linter.unusedSimpArgs false

abbrev Words (xs : List Int) : Prop := ∀ x ∈ xs, 0 ≤ x ∧ x ≤ 4294967295
def satSum (xs : List Int) : Int := min xs.sum 4294967295

theorem sum_nonneg {xs : List Int} (h : Words xs) : 0 ≤ xs.sum := by
  induction xs with
  | nil => simp
  | cons x xs ih =>
    have := (h x (List.mem_cons_self ..)).1
    have := ih fun y hy => h y (List.mem_cons_of_mem _ hy)
    simp; omega

theorem upTo_loop {w : World} {A : Option Addr} {n cc : Nat} {xs : List Int} {R : Value → World → Prop} (h : IWords w A n xs) (hx : Words xs) (hn : n ≤ 140737488355328) (hR : R (.int .u32 (satSum xs)) w) :
    ∀ (d i : Nat), n - i = d → i ≤ n → word_upTo.L0 R 4294967295 (satSum (xs.take i)) A n cc n i w := by
  intro d
  induction d with
  | zero =>
    intro i hd hi
    have e : xs.take i = xs := List.take_of_length_le (by rw [h.len]; omega)
    rw [e]
    refine word_upTo.L0_step (ifP_no (by omega) ?_)
    have h0 := sum_nonneg hx
    have h1 : 0 ≤ satSum xs ∧ satSum xs ≤ 4294967295 := by unfold satSum; omega
    rw [wrap_u32 h1.1 h1.2]
    exact hR
  | succ d ih =>
    intro i hd hi
    have hlt : i < n := by omega
    obtain ⟨a, rfl, hc⟩ := h.at hlt
    have hb := hx _ (List.getElem_mem (l := xs) (n := i) (by rw [h.len]; exact hlt))
    have hget : xs[i]? = some (xs[i]'(by rw [h.len]; exact hlt)) := List.getElem?_eq_getElem _
    generalize xs[i]'(by rw [h.len]; exact hlt) = y at *
    refine word_upTo.L0_step (ifP_yes (by omega) ⟨by omega, by omega, a, rfl, y, hc, ?_⟩)
    have hs := sum_nonneg (xs := xs.take i) fun z hz => hx z (List.mem_of_mem_take hz)
    have h1 : 0 ≤ satSum (xs.take i) ∧ satSum (xs.take i) ≤ 4294967295 := by unfold satSum; omega
    rw [wrap_u64 (x := y) (by omega) (by omega), wrap_u64 (by omega) (by omega), wrap_i64 (by omega) (by omega)]
    have e3 : minI (satSum (xs.take i) + y) 4294967295 = satSum (xs.take (i + 1)) := by
      unfold minI satSum
      rw [List.take_add_one, hget]
      simp only [List.sum_append, Option.toList_some, List.sum_cons, List.sum_nil]
      split <;> omega
    rw [e3]
    exact ih (i + 1) (by omega) (by omega)

theorem sum_spec {w : World} {A : Option Addr} {n cc : Nat} {xs : List Int} (h : IWords w A n xs) (hx : Words xs) (hn : n ≤ 140737488355328) :
    Run Try.prog 40 #[.slice A n cc] w fun v w' => v = .int .u32 (satSum xs) ∧ w' = w := by
  refine word_Sum.ok (Run.mono (R := fun v w' => v = .int .u32 (satSum xs) ∧ w' = w) ?_ ?_)
  · exact word_upTo.ok (upTo_loop h hx hn ⟨rfl, rfl⟩ n 0 (by omega) (by omega))
  · rintro v w' ⟨rfl, rfl⟩
    exact ⟨_, rfl, rfl, rfl⟩

end Go.Proofs.Ythhfipjmjnfjlaa
