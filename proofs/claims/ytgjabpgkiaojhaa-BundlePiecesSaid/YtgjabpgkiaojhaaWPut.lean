/- Package word: Put. -/
import Derived.Test.YtgjabpgkiaojhaaWJoin
import Derived.Test.YtgjabpgkiaojhaaWGet
namespace Go.Proofs.Ytgjabpgkiaojhaa
open Go.Rd Go.RowKit
set_option linter.unusedVariables false
set_option linter.unusedSimpArgs false

/-! ## Put -/

/-- The lowest bytes of a number, the high one first, laid at a place. -/
def putL : Nat → List Int → Nat → Int → List Int
  | 0, xs, _, _ => xs
  | k + 1, xs, at_, v => putL k (xs.set (at_ + k) (v % 256)) at_ (v / 256)

theorem putL_length : ∀ (k : Nat) (xs : List Int) (at_ : Nat) (v : Int), (putL k xs at_ v).length = xs.length
  | 0, _, _, _ => rfl
  | k + 1, xs, at_, v => by rw [putL, putL_length k]; simp

theorem fdiv_pow8 (v : Int) : Int.fdiv v (2 ^ 8) = v / 256 := by
  show Int.fdiv v 256 = _
  rw [Int.fdiv_eq_ediv_of_nonneg v (by omega)]

theorem set_own {w w1 : World} {b i c : Nat} {xs : List Int} {sp : List Value} {x : Int} (hi : i < xs.length) (hcl : ((xs.map (Value.int .u8)) ++ sp).length = c * 1)
    (h1 : w1.heap[b]? = some (.cells (((xs.map (Value.int .u8)) ++ sp).toArray.setIfInBounds i (.int .u8 x)) 5 (0, 0))) : OBytes w1 (some ⟨b, 0, none⟩) c (xs.set i x) := by
  refine .inr ⟨b, sp, rfl, ?_, by simpa using hcl⟩
  rw [h1]
  congr 2
  simp [List.set_append, hi, List.map_set]

theorem put_loop {w : World} {at_ : Int} {n : Nat} {R : Value → World → Prop} {A : Option Addr} {c : Nat} (ha : 0 ≤ at_) (hn : n ≤ 140737488355328) :
    ∀ (k : Nat) (xs : List Int) (v : Int) (w' : World), at_ + k ≤ n → xs.length = n → OBytes w' A c xs →
      (∀ w2, OBytes w2 A c (putL k xs at_.toNat v) → Keep (blk A) w' w2 → R (.tuple #[.slice A n c, .bool true]) w2) → word_Put.L0 R at_ v A n c (at_ + k - 1) w' := by
  intro k
  induction k with
  | zero =>
    intro xs v w' hk hl hO hR
    exact word_Put.L0_step (ifP_no (by omega) (hR w' hO (Keep.refl w')))
  | succ k ih =>
    intro xs v w' hk hl hO hR
    have e : at_ + ((k + 1 : Nat) : Int) - 1 = ((at_.toNat + k : Nat) : Int) := by omega
    rw [e]
    rcases hO with ⟨rfl, rfl, hnil⟩ | ⟨b, sp, rfl, hb, hcl⟩
    · have : xs = [] := by simpa using hnil
      subst this
      simp at hl; omega
    · have ea : (Addr.mk b 0 none).add (Int.toNat ((at_.toNat + k : Nat) : Int) * 1) = ⟨b, at_.toNat + k, none⟩ := by rw [add_mk]; simp; omega
      have hi : at_.toNat + k < xs.length := by omega
      refine word_Put.L0_step (ifP_yes (by omega) ⟨by omega, by omega, _, rfl, ?_⟩)
      rw [ea]
      refine ⟨st_cell hb (by simp; omega), frozen_of hb, letS hb fun w1 h1 k1 s1 => ?_⟩
      rw [wrap_u8_mod] at h1
      rw [fdiv_pow8, wrap_i64 (by omega) (by omega)]
      have e2 : ((at_.toNat + k : Nat) : Int) - 1 = at_ + (k : Int) - 1 := by omega
      rw [e2]
      exact ih (xs.set (at_.toNat + k) (v % 256)) (v / 256) w1 (by omega) (by simpa using hl) (set_own (w := w') hi hcl h1)
        fun w2 hO2 hk2 => hR w2 hO2 ((k1.mono fun _ _ h => blk_some.2 h).trans' hk2)

/-- What Put tells: the bytes with the number in them, in new memory; or nothing. -/
def PutOf (w : World) (n : Nat) (xs : List Int) (at_ size v : Int) (u : Value) (w' : World) : Prop :=
  if fitsB n at_ size then ∃ A c, u = .tuple #[.slice A n c, .bool true] ∧ OBytes w' A c (putL size.toNat xs at_.toNat v) ∧ xs.length = n ∧ (∀ k, blk A k → w.heap.size ≤ k) ∧ Ext w w'
  else u = .tuple #[.slice none 0 0, .bool false] ∧ w' = w

theorem put_spec {w : World} {A : Option Addr} {n c : Nat} {xs : List Int} {at_ size v : Int} (h : IBytes w A n xs) (hn : n ≤ 140737488355328) :
    Run Try.prog 47 #[.slice A n c, .int .i64 at_, .int .i64 size, .int .u32 v] w (PutOf w n xs at_ size v) := by
  refine word_Put.ok ((fits_spec (by omega) (by omega)).mono ?_)
  rintro u w1 ⟨rfl, rfl⟩
  refine ⟨_, rfl, ifP_not.2 (ifP_of (fun hf => letA fun w2 h2 x2 s2 => ?_) (fun hf => ?_))⟩
  · obtain ⟨hs, h0, h1⟩ := fitsB_iff.1 hf
    have hr : Rd Part.v w2 (some (newA w1)) 1 [Part.mk A n c xs] := Rd.block h2 fun i x hx => by
      match i with
      | 0 => simp at hx; subst hx; rfl
      | i + 1 => simp at hx
    have e1 : total [Part.mk A n c xs] = n := by simp [total]
    have e2 : flat [Part.mk A n c xs] = xs := by simp [flat]
    refine (join_spec hr (by omega) (by simpa using h.ext x2) (by omega)).mono ?_
    rintro u w3 ⟨O, oc, rfl, hO, hl, hb, x3⟩
    rw [e1, e2] at *
    refine ⟨_, _, _, rfl, ?_⟩
    have e : IntKind.i64.wrap (IntKind.i64.wrap (at_ + size) - 1) = at_ + ((size.toNat : Nat) : Int) - 1 := by
      rw [wrap_i64 (x := at_ + size) (by omega) (by omega), wrap_i64 (by omega) (by omega)]; omega
    rw [e]
    refine put_loop (w := w1) h0 hn size.toNat xs v w3 (by omega) hl hO fun w4 hO4 k4 => ?_
    unfold PutOf
    rw [if_pos hf]
    exact ⟨O, oc, rfl, hO4, hl, fun k hk => by have := hb k hk; omega, (x2.trans x3).fresh k4 fun k hk => by have := hb k hk; omega⟩
  · unfold PutOf
    rw [if_neg (by simp [hf])]
    exact ⟨rfl, rfl⟩

end Go.Proofs.Ytgjabpgkiaojhaa
