/- What it means that a program is taken (CK3 without Reach). -/
import Derived.Test.YtbchjihecdkfeaaCK2
import Derived.Test.YtbchjihecdkfeaaM7
import Derived.Test.YtbchjihecdkfeaaHBools
namespace Go.Proofs.Ytbchjihecdkfeaa
open Go.Rd Go.RowKit
set_option linter.unusedVariables false
set_option linter.unusedSimpArgs false

/-! ## Laws of Check -/

theorem wrongFrom_none {n : Int} : ∀ {xs : List Ins} {a : Int}, wrongFrom n a xs = none → ∀ (k : Nat) (x : Ins), xs[k]? = some x → wrongAt n (a + k) x = 0
  | [], a, h, k, x, hx => by simp at hx
  | i :: r, a, h, k, x, hx => by
    simp only [wrongFrom] at h
    split at h
    · cases h
    · rename_i h0
      cases k with
      | zero =>
        obtain rfl : i = x := by simpa using hx
        have : a + ((0 : Nat) : Int) = a := by omega
        rw [this]
        exact Classical.not_not.1 h0
      | succ k =>
        have := wrongFrom_none h k x (by simpa using hx)
        rwa [show a + ((k + 1 : Nat) : Int) = a + 1 + k by omega]
theorem wrongFrom_of {n : Int} : ∀ {xs : List Ins} {a : Int}, (∀ (k : Nat) (x : Ins), xs[k]? = some x → wrongAt n (a + k) x = 0) → wrongFrom n a xs = none
  | [], a, h => rfl
  | i :: r, a, h => by
    have h0 := h 0 i rfl
    rw [show a + ((0 : Nat) : Int) = a by omega] at h0
    simp only [wrongFrom]
    rw [if_neg (by rw [h0]; decide)]
    refine wrongFrom_of fun k x hx => ?_
    have := h (k + 1) x (by simpa using hx)
    rwa [show a + ((k + 1 : Nat) : Int) = a + 1 + k by omega] at this
theorem wrongFrom_some {n : Int} : ∀ {xs : List Ins} {a : Int} {k : Nat} {x : Ins}, xs[k]? = some x → wrongAt n (a + k) x ≠ 0 → (∀ (j : Nat) (y : Ins), j < k → xs[j]? = some y → wrongAt n (a + j) y = 0) →
    wrongFrom n a xs = some (a + k, wrongAt n (a + k) x)
  | [], a, k, x, hx, _, _ => by simp at hx
  | i :: r, a, k, x, hx, hw, h => by
    simp only [wrongFrom]
    cases k with
    | zero =>
      obtain rfl : i = x := by simpa using hx
      rw [show a + ((0 : Nat) : Int) = a by omega] at hw ⊢
      rw [if_pos hw]
    | succ k =>
      have h0 := h 0 i (by omega) rfl
      rw [show a + ((0 : Nat) : Int) = a by omega] at h0
      rw [if_neg (by rw [h0]; decide)]
      rw [show a + ((k + 1 : Nat) : Int) = a + 1 + k by omega] at hw ⊢
      exact wrongFrom_some (by simpa using hx) hw fun j y hj hy => by
        have := h (j + 1) y (by omega) (by simpa using hy)
        rwa [show a + ((j + 1 : Nat) : Int) = a + 1 + j by omega] at this
theorem wrongFrom_code {n : Int} : ∀ {xs : List Ins} {a : Int} {p : Int × Int}, wrongFrom n a xs = some p → p.2 ≠ 0 ∧ a ≤ p.1 ∧ p.1 < a + xs.length
  | [], a, p, h => by cases h
  | i :: r, a, p, h => by
    simp only [wrongFrom] at h
    split at h
    · rename_i h0
      obtain rfl := Option.some.inj h
      exact ⟨h0, by omega, by simp only [List.length_cons]; omega⟩
    · have := wrongFrom_code h
      simp only [List.length_cons]
      omega

/-- What it means that a program is taken. -/
structure Taken (xs : List Ins) : Prop where
  pos : 0 < xs.length
  le : xs.length ≤ 4096
  at_ : ∀ (k : Nat) (x : Ins), xs[k]? = some x → faultOf x = 0 ∧ jumpBad x ((xs.length : Int) - 1 - k) = false
  ret : endsRet xs = true

theorem wrongAt_zero {n a : Int} {x : Ins} (h : wrongAt n a x = 0) : faultOf x = 0 ∧ jumpBad x (n - 1 - a) = false := by
  unfold wrongAt at h
  split at h
  · contradiction
  · rename_i h0
    refine ⟨Classical.not_not.1 h0, ?_⟩
    split at h
    · cases h
    · rename_i hj; simpa using hj
theorem wrongAt_of {n a : Int} {x : Ins} (h : faultOf x = 0) (hj : jumpBad x (n - 1 - a) = false) : wrongAt n a x = 0 := by
  unfold wrongAt
  rw [if_neg (by rw [h]; decide), if_neg (by rw [hj]; decide)]

theorem taken_of {xs : List Ins} (h : (checkV xs).2 = 0) : Taken xs ∧ (checkV xs).1 = 0 := by
  unfold checkV at h ⊢
  split at h
  · cases h
  · rename_i h0
    split at h
    · cases h
    · rename_i h1
      rw [if_neg h0, if_neg h1]
      cases hw : wrongFrom xs.length 0 xs with
      | some p =>
        rw [hw] at h
        exact absurd h (wrongFrom_code hw).1
      | none =>
        rw [hw] at h
        simp only [] at h ⊢
        split at h
        · rename_i hr
          rw [if_pos hr]
          refine ⟨⟨by omega, by omega, fun k x hx => wrongAt_zero ?_, hr⟩, rfl⟩
          have := wrongFrom_none hw k x hx
          rwa [Int.zero_add] at this
        · cases h
theorem Taken.check {xs : List Ins} (h : Taken xs) : checkV xs = (0, 0) := by
  have h0 := h.pos
  have h1 := h.le
  unfold checkV
  rw [if_neg (by omega), if_neg (by omega), wrongFrom_of fun k x hx => by rw [Int.zero_add]; exact wrongAt_of (h.at_ k x hx).1 (h.at_ k x hx).2]
  simp only []
  rw [if_pos h.ret]
theorem check_range {xs : List Ins} : 0 ≤ (checkV xs).1 ∧ (checkV xs).1 ≤ 4096 := by
  unfold checkV
  split
  · exact ⟨by decide, by decide⟩
  · split
    · exact ⟨by decide, by decide⟩
    · cases hw : wrongFrom xs.length 0 xs with
      | some p =>
        have := wrongFrom_code hw
        show 0 ≤ p.1 ∧ p.1 ≤ 4096
        omega
      | none =>
        simp only []
        split
        · exact ⟨by decide, by decide⟩
        · show 0 ≤ (xs.length : Int) - 1 ∧ (xs.length : Int) - 1 ≤ 4096
          omega
theorem Taken.last {xs : List Ins} (h : Taken xs) {x : Ins} (hx : xs[xs.length - 1]? = some x) : classOf x.c = 6 := by
  have := h.ret
  unfold endsRet at this
  rw [getLast_at rfl hx] at this
  exact of_decide_eq_true this
/-- A jump's goals are places. -/
theorem Taken.goal {xs : List Ins} (h : Taken xs) {k : Nat} {x : Ins} (hx : xs[k]? = some x) (h5 : classOf x.c = 5) : if x.c = 5 then (k : Int) + 1 + x.k < xs.length else (k : Int) + 1 + x.t < xs.length ∧ (k : Int) + 1 + x.f < xs.length := by
  have := (h.at_ k x hx).2
  unfold jumpBad at this
  rw [if_pos h5] at this
  split at this
  · rename_i hc
    rw [if_pos hc]
    have := of_decide_eq_false this
    omega
  · rename_i hc
    rw [if_neg hc]
    simp only [Bool.or_eq_false_iff, decide_eq_false_iff_not] at this
    omega
theorem Taken.next {xs : List Ins} (h : Taken xs) {k : Nat} {x : Ins} (hx : xs[k]? = some x) (h6 : classOf x.c ≠ 6) : k + 1 < xs.length := by
  have hk := (List.getElem?_eq_some_iff.1 hx).1
  by_cases he : k = xs.length - 1
  · exact absurd (h.last (by rw [← he]; exact hx)) h6
  · omega


theorem made_bools {w : World} {n : Nat} (h0 : 0 < n) (hn : n ≤ 4096) {φ : Value → World → Prop}
    (hφ : ∀ A w', OBools w' A n ((List.replicate n false)) → (∀ k, blk A k → w.heap.size ≤ k) → Ext w w' → φ (.slice A n n) w') :
    ∃ (v : Value) (w' : World), (Instr.makeSlice 53 (.int .i64 ((n : Nat) : Int)) (.int .i64 ((n : Nat) : Int))).run Try.prog w = .ok v w' ∧ φ v w' := by
  obtain ⟨w', hr, o, x, _⟩ := make_full slBools rfl (w := w) (c := (n : Int)) (by omega) (by omega) (by omega)
  refine ⟨_, w', hr, hφ _ _ ?_ (fun k hk => by rw [blk_some.1 hk]; exact Nat.le_refl _) x⟩
  have e : List.replicate (n : Int).toNat (Value.bool false) = (List.replicate n false).map Value.bool := by simp
  rw [e] at o
  exact o

end Go.Proofs.Ytbchjihecdkfeaa
