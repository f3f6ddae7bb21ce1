/- Package word: Join. -/
import Derived.Test.YthhfipjmjnfjlaaWDef
namespace Go.Proofs.Ythhfipjmjnfjlaa
open Go.Rd Go.RowKit
set_option linter.unusedVariables false
set_option linter.unusedSimpArgs false

/-! ## Join -/

structure Part where
  A : Option Addr
  n : Nat
  c : Nat
  xs : List Int

def Part.v (p : Part) : Value := .slice p.A p.n p.c
def total (ps : List Part) : Nat := (ps.map (·.n)).sum
def flat (ps : List Part) : List Int := ps.flatMap (·.xs)

theorem total_take (ps : List Part) (i : Nat) : total (ps.take i) ≤ total ps := by
  have : total ps = total (ps.take i) + total (ps.drop i) := by
    unfold total
    rw [← List.sum_append, ← List.map_append, List.take_append_drop]
  omega

theorem flat_length {w : World} {ps : List Part} (h : ∀ p ∈ ps, IBytes w p.A p.n p.xs) : (flat ps).length = total ps := by
  induction ps with
  | nil => rfl
  | cons p ps ih =>
    have h1 := (h p (List.mem_cons_self ..)).len
    have h2 := ih fun q hq => h q (List.mem_cons_of_mem _ hq)
    simp only [flat, List.flatMap_cons, List.length_append, total, List.map_cons, List.sum_cons] at h2 ⊢
    omega

theorem join_spec {w : World} {A : Option Addr} {k c : Nat} {ps : List Part} (h : Rd Part.v w A k ps) (hk : k ≤ 140737488355328) (hp : ∀ p ∈ ps, IBytes w p.A p.n p.xs) (ht : total ps ≤ 140737488355328) :
    Run Try.prog 36 #[.slice A k c] w fun v w' => NewBytes w w' v (total ps) (flat ps) := by
  have two : ∀ (d i : Nat), k - i = d → i ≤ k → ∀ (w' : World) (O : Option Addr) (oc : Nat), Ext w w' → OBytes w' O oc (flat (ps.take i)) → (∀ b, blk O b → w.heap.size ≤ b) →
      word_Join.L2 (fun v w' => NewBytes w w' v (total ps) (flat ps)) O (total (ps.take i)) oc A k c k i w' := by
    intro d
    induction d with
    | zero =>
      intro i hd hi w' O oc hx hO hb
      have e : ps.take i = ps := List.take_of_length_le (by rw [h.len]; omega)
      rw [e] at hO ⊢
      exact word_Join.L2_step (ifP_no (by omega) ⟨O, oc, rfl, hO, flat_length hp, hb, hx⟩)
    | succ d ih =>
      intro i hd hi w' O oc hx hO hb
      have hlt : i < k := by omega
      obtain ⟨a, rfl, ha⟩ := (h.ext hx).at hlt
      have hmem : ps[i]'(by rw [h.len]; exact hlt) ∈ ps := List.getElem_mem _
      have hget : ps[i]? = some (ps[i]'(by rw [h.len]; exact hlt)) := List.getElem?_eq_getElem _
      generalize ps[i]'(by rw [h.len]; exact hlt) = p at *
      have hpi := (hp p hmem).ext hx
      have et : total (ps.take (i + 1)) = total (ps.take i) + p.n := by
        unfold total
        rw [List.take_add_one, hget]
        simp
      have ef : flat (ps.take (i + 1)) = flat (ps.take i) ++ p.xs := by
        unfold flat
        rw [List.take_add_one, hget]
        simp
      have hle := total_take ps (i + 1)
      have hfl := flat_length (ps := ps.take i) (w := w) fun q hq => hp q (List.mem_of_mem_take hq)
      obtain ⟨O', oc', w2, hr, hO', hc', hk', hb'⟩ := append_own slBytes (ty := 35) (d := p.c) hO (n := total (ps.take i)) (by simp [hfl]) hpi.cells (m := p.n) (by simp [hpi.len]) (cellsBytes _) (by omega) (by omega)
      refine word_Join.L2_step (ifP_yes (by omega) ⟨by omega, by omega, a, rfl, p.A, p.n, p.c, ha, _, w2, hr, _, _, _, rfl, ?_⟩)
      rw [wrap_i64 (by omega) (by omega), ← et]
      refine ih (i + 1) (by omega) (by omega) w2 O' oc' (hx.fresh hk' hb) ?_ ?_
      · rw [ef, OBytes, List.map_append]; exact hO'
      · intro b hbb
        rcases hb' b hbb with h | h
        · exact hb b h
        · have := hx.size; omega
  have one : ∀ (d i : Nat), k - i = d → i ≤ k → word_Join.L0 (fun v w' => NewBytes w w' v (total ps) (flat ps)) A k c (total (ps.take i)) A k c k i w := by
    intro d
    induction d with
    | zero =>
      intro i hd hi
      have e : ps.take i = ps := List.take_of_length_le (by rw [h.len]; omega)
      rw [e]
      obtain ⟨w2, hr, hO, hx, hs⟩ := make_zero (slBytes) (w := w) (c := (total ps : Int)) (by omega) (by omega) (by omega)
      refine word_Join.L0_step (ifP_no (by omega) ⟨_, w2, hr, _, _, _, rfl, ?_⟩)
      exact two k 0 (by omega) (by omega) w2 _ _ hx hO fun b hb => by rw [blk_some.1 hb]; exact Nat.le_refl _
    | succ d ih =>
      intro i hd hi
      have hlt : i < k := by omega
      obtain ⟨a, rfl, ha⟩ := h.at hlt
      have hget : ps[i]? = some (ps[i]'(by rw [h.len]; exact hlt)) := List.getElem?_eq_getElem _
      generalize ps[i]'(by rw [h.len]; exact hlt) = p at *
      have et : total (ps.take (i + 1)) = total (ps.take i) + p.n := by
        unfold total
        rw [List.take_add_one, hget]
        simp
      have hle := total_take ps (i + 1)
      refine word_Join.L0_step (ifP_yes (by omega) ⟨by omega, by omega, a, rfl, p.A, p.n, p.c, ha, ?_⟩)
      rw [wrap_i64 (x := (i : Int) + 1) (by omega) (by omega), wrap_i64 (by omega) (by omega)]
      have e3 : ((total (ps.take i) : Nat) : Int) + (p.n : Int) = ((total (ps.take (i + 1)) : Nat) : Int) := by omega
      rw [e3]
      exact ih (i + 1) (by omega) (by omega)
  exact word_Join.ok (one k 0 (by omega) (by omega))

end Go.Proofs.Ythhfipjmjnfjlaa
