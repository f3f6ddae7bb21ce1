/- The statement over sums. -/
import Derived.Test.YthedafjbhnibnaaC4
namespace Go.Proofs.Ythedafjbhnibnaa
open Go.Rd Go.RowKit
set_option linter.unusedVariables false
set_option linter.unusedSimpArgs false

theorem low_spec {w : World} {x : Int} : Run Try.prog 23 #[.int .i64 x] w fun v w' => (∃ y, v = .int .i64 y ∧ 0 ≤ y ∧ y ≤ 9223372036854775807) ∧ w' = w := by
  refine law0_Low.ok ⟨⟨_, rfl, ?_⟩, rfl⟩
  have e : andI .i64 x 9223372036854775807 = x % 9223372036854775808 := andI_i64 63 (by omega)
  rw [e]
  omega

theorem sat_app (a b : List Int) (ha : Words a) (hb : Words b) : min (satSum a + satSum b) 4294967295 = satSum (a ++ b) := by
  have := sum_nonneg ha
  have := sum_nonneg hb
  unfold satSum
  rw [List.sum_append]
  omega

theorem satSum_bound {a : List Int} (ha : Words a) : 0 ≤ satSum a ∧ satSum a ≤ 4294967295 := by
  have := sum_nonneg ha
  unfold satSum
  omega

theorem sum_reverse (a : List Int) : a.reverse.sum = a.sum := by
  induction a with
  | nil => rfl
  | cons x a ih => simp [List.sum_append, ih]; omega

theorem WordSums_main {W : World} {A : Option Addr} {n c : Nat} {xs : List Int} {at_ : Int} (h : IWords W A n xs) (hx : Words xs) (hc : n ≤ c) (hn : n * 4 ≤ 140737488351232) :
    Run Try.prog 7 #[.slice A n c, .int .i64 at_] W (Good W) := by
  have hb := satSum_bound hx
  have rest : ∀ (B : Option Addr) (bn bc : Nat) (w : World), Fr W w → OWords w B bc xs.reverse → bn = n → law1_WordSums.L2 (Good W) A n c at_ (satSum xs) B bn bc (-1) w := by
    intro B bn bc w f o hbn
    subst hbn
    refine law1_WordSums.L2_step (ifP_no (by omega) (low_spec.mono ?_))
    rintro v w1 ⟨⟨y, rfl, y0, y1⟩, rfl⟩
    refine ⟨_, rfl, by rw [wrap_i64 (by omega) (by omega)]; omega, letD fun w2 hh x2 => ?_⟩
    have hr : Words xs.reverse := fun z hz => hx z (List.mem_reverse.1 hz)
    refine (sum_spec ((o.ext x2).rd (by simp [h.len])) hr (by omega)).mono ?_
    rintro v w3 ⟨rfl, rfl⟩
    have e1 : satSum xs.reverse = satSum xs := by unfold satSum; rw [sum_reverse]
    have f2 := f.ext x2
    rw [wrap_i64 (x := (bn : Int) + 1) (by omega) (by omega), tmod_pos y0, e1]
    have k0 : 0 ≤ y % ((bn : Int) + 1) := Int.emod_nonneg _ (by omega)
    have k1 : y % ((bn : Int) + 1) < (bn : Int) + 1 := Int.emod_lt_of_pos _ (by omega)
    obtain ⟨k, hk⟩ := Int.eq_ofNat_of_zero_le k0
    rw [hk] at k0 k1 ⊢
    have hl := h.len
    refine ⟨_, rfl, ifP_eq rfl ⟨by omega, by omega, by omega, by omega, by omega, by omega, ?_⟩⟩
    rw [subA_zero, Int.toNat_natCast, Nat.sub_zero, Nat.sub_zero]
    have wt : Words (xs.take k) := fun z hz => hx z (List.mem_of_mem_take hz)
    have wd : Words (xs.drop k) := fun z hz => hx z (List.mem_of_mem_drop hz)
    have i1 : IWords w3 A k (xs.take k) := by
      have := (h.fr f2).cells.take k
      rw [← List.map_take] at this
      exact this.rd (by simp; omega)
    have i2 : IWords w3 (subA A c k 1) (bn - k) (xs.drop k) := by
      by_cases he : k < c
      · have := (h.fr f2).cells.drop k (c := c) he
        rw [← List.map_drop] at this
        exact this.rd (by simp; omega)
      · have : k = bn := by omega
        subst this
        rw [List.drop_eq_nil_of_le (by omega), Nat.sub_self]
        exact Rd.nil
    refine (sum_spec i1 wt (by omega)).mono ?_
    rintro v w3 ⟨rfl, rfl⟩
    refine ⟨_, rfl, (sum_spec i2 wd (by omega)).mono ?_⟩
    rintro v w3 ⟨rfl, rfl⟩
    refine ⟨_, rfl, letA fun w4 h4 x4 s4 => ?_⟩
    have t1 := satSum_bound wt
    have t2 := satSum_bound wd
    have i3 : IWords w4 (some (newA w3)) 2 [satSum (xs.take k), satSum (xs.drop k)] := by
      have := Rd.block (f := Value.int .u32) (xs := [satSum (xs.take k), satSum (xs.drop k)]) h4 (by
        intro i x hi
        match i, hi with
        | 0, hi => simp at hi; subst hi; rfl
        | 1, hi => simp at hi; subst hi; rfl
        | (i + 2), hi => simp at hi)
      exact this
    refine (sum_spec i3 (by intro z hz; simp at hz; rcases hz with rfl | rfl <;> assumption) (by omega)).mono ?_
    rintro v w5 ⟨rfl, rfl⟩
    have f4 := f2.ext x4
    have e2 : satSum [satSum (xs.take k), satSum (xs.drop k)] = satSum xs := by
      have := sat_app _ _ wt wd
      rw [List.take_append_drop] at this
      rw [← this]
      simp [satSum]
    rw [e2]
    refine ⟨_, rfl, ifP_eq rfl ((sum_spec (xs := []) (A := none) Rd.nil (by intro z hz; cases hz) (by omega)).mono ?_)⟩
    rintro v w5 ⟨rfl, rfl⟩
    refine ⟨_, rfl, ifP_eq (by decide) (awake_spec.mono ?_)⟩
    rintro v w5 ⟨rfl, x5⟩
    exact ⟨_, rfl, rfl, f4.ext x5⟩
  have back : ∀ (d i : Nat), i = d → i ≤ n → ∀ (B : Option Addr) (bn bc : Nat) (w : World), Fr W w → OWords w B bc (xs.drop i).reverse → bn = n - i → (∀ k, blk B k → W.heap.size ≤ k) →
      law1_WordSums.L2 (Good W) A n c at_ (satSum xs) B bn bc ((i : Int) - 1) w := by
    intro d
    induction d with
    | zero =>
      intro i hd hi B bn bc w f o hbn hbb
      subst hd
      exact rest B bn bc w f (by simpa using o) (by omega)
    | succ d ih =>
      intro i hd hi B bn bc w f o hbn hbb
      subst hd
      obtain ⟨a, rfl, hcell⟩ := (h.fr f).at (i := d) (by omega)
      refine law1_WordSums.L2_step (ifP_yes (by omega) ⟨by omega, by omega, a, rfl, xs[d]'(by rw [h.len]; omega), ?_, letA fun w1 h1 x1 s1 => ?_⟩)
      · have e : Int.toNat (((d + 1 : Nat) : Int) - 1) = d := by omega
        rw [e]
        exact hcell
      have hB : RdC w1 (some (newA w)) [Value.int .u32 (xs[d]'(by rw [h.len]; omega))] := by
        have := (Rd.block (f := Value.int .u32) (xs := [xs[d]'(by rw [h.len]; omega)]) h1 (by
          intro i x hi
          match i, hi with
          | 0, hi => simp at hi; subst hi; rfl
          | (i + 1), hi => simp at hi)).cells
        exact this
      have hl := h.len
      obtain ⟨A', c', w', happ, o', _, k', b'⟩ := append_own slWords (ty := 37) (d := 1) (m := 1) (n := bn) (o.ext x1) (by simp; omega) hB (by simp) (by simp [isCell]) (by omega) (by omega)
      refine ⟨_, _, happ, _, _, _, rfl, ?_⟩
      rw [wrap_i64 (by omega) (by omega)]
      have e : ((d + 1 : Nat) : Int) - 1 - 1 = (d : Int) - 1 := by omega
      rw [e]
      have f1 := f.ext x1
      refine ih d rfl (by omega) A' (bn + 1) c' w' (f1.blk k' fun k hk => hbb k hk) ?_ (by omega) ?_
      · have : (xs.drop (d + 1)).reverse ++ [xs[d]'(by rw [h.len]; omega)] = (xs.drop d).reverse := by
          rw [← List.reverse_cons, ← List.drop_eq_getElem_cons]
        rw [← this, OWords, List.map_append]
        exact o'
      · intro k hk
        rcases b' k hk with hk | hk
        · exact hbb k hk
        · have := f1.size; omega
  have first : ∀ (d i : Nat), n - i = d → i ≤ n → law1_WordSums.L0 (Good W) A n c at_ (satSum (xs.take i)) i W := by
    intro d
    induction d with
    | zero =>
      intro i hd hi
      have e : xs.take i = xs := List.take_of_length_le (by rw [h.len]; omega)
      rw [e]
      refine law1_WordSums.L0_step (ifP_no (by omega) ((lendWords_spec h hn).mono ?_))
      rintro v w1 ⟨A1, c1, rfl, o1, b1, x1⟩
      have f1 := (Fr.refl W).ext x1
      have i1 : IWords w1 A1 n xs := by
        have := (o1.cells).take n
        rw [← List.map_take, List.take_left' h.len] at this
        exact this.rd h.len
      refine ⟨_, _, _, rfl, (sum_spec i1 hx (by omega)).mono ?_⟩
      rintro v w2 ⟨rfl, rfl⟩
      refine ⟨_, rfl, (keptWords_spec o1 (h.fr f1) (by omega)).mono ?_⟩
      rintro v w3 ⟨rfl, k3⟩
      have f3 := f1.blk k3 fun k hk => b1 k hk
      refine ⟨_, rfl, ifP_f rfl ?_⟩
      rw [wrap_u64 (x := satSum xs) (by omega) (by omega)]
      refine ifP_f (by simp) ?_
      rw [wrap_i64 (by omega) (by omega)]
      exact back n n rfl (by omega) none 0 0 w3 f3 (by rw [List.drop_eq_nil_of_le (by rw [h.len]; omega)]; exact Own.empty) (by omega) (fun k hk => (blk_none hk).elim)
    | succ d ih =>
      intro i hd hi
      have hlt : i < n := by omega
      obtain ⟨a, rfl, hc⟩ := h.at hlt
      have hb := hx _ (List.getElem_mem (l := xs) (n := i) (by rw [h.len]; exact hlt))
      have hget : xs[i]? = some (xs[i]'(by rw [h.len]; exact hlt)) := List.getElem?_eq_getElem _
      generalize xs[i]'(by rw [h.len]; exact hlt) = y at *
      refine law1_WordSums.L0_step (ifP_yes (by omega) ⟨by omega, by omega, a, rfl, y, hc, ?_⟩)
      have hs := sum_nonneg (xs := xs.take i) fun z hz => hx z (List.mem_of_mem_take hz)
      have h1 : 0 ≤ satSum (xs.take i) ∧ satSum (xs.take i) ≤ 4294967295 := by unfold satSum; omega
      rw [wrap_u64 (x := y) (by omega) (by omega), wrap_u64 (by omega) (by omega), wrap_i64 (by omega) (by omega)]
      have e3 : minI (satSum (xs.take i) + y) 4294967295 = satSum (xs.take (i + 1)) := by
        unfold minI satSum
        rw [List.take_add_one, hget]
        simp only [List.sum_append, Option.toList_some, List.sum_cons, List.sum_nil]
        split <;> omega
      rw [e3]
      exact ih (i + 1) (by omega) (by omega)
  exact law1_WordSums.ok (by have := first n 0 (by omega) (by omega); exact this)
end Go.Proofs.Ythedafjbhnibnaa
