/- The document's answer: Put. -/
import Derived.Test.YtgjabpgkiaojhaaWPut
import Derived.Test.YtgjabpgkiaojhaaWRIn
namespace Go.Proofs.Ytgjabpgkiaojhaa
open Go.Rd Go.RowKit
set_option linter.unusedVariables false
set_option linter.unusedSimpArgs false

theorem rput_loop {w : World} {at_ : Int} {n : Nat} {R : Value → World → Prop} {A : Option Addr} {c : Nat} (ha : 0 ≤ at_) (hn : n ≤ 140737488355328) :
    ∀ (k : Nat) (xs : List Int) (v : Int) (w' : World), at_ + k ≤ n → xs.length = n → OBytes w' A c xs →
      (∀ w2, OBytes w2 A c (putL k xs at_.toNat v) → Keep (blk A) w' w2 → R (.tuple #[.slice A n c, .bool true]) w2) → ref1_Put.L0 R at_ v A n c ((k : Int) - 1) w' := by
  intro k
  induction k with
  | zero =>
    intro xs v w' hk hl hO hR
    exact ref1_Put.L0_step (ifP_no (by omega) (hR w' hO (Keep.refl w')))
  | succ k ih =>
    intro xs v w' hk hl hO hR
    have e : IntKind.i64.wrap (at_ + (((k + 1 : Nat) : Int) - 1)) = ((at_.toNat + k : Nat) : Int) := by rw [wrap_i64 (by omega) (by omega)]; omega
    rcases hO with ⟨rfl, rfl, hnil⟩ | ⟨b, sp, rfl, hb, hcl⟩
    · have : xs = [] := by simpa using hnil
      subst this
      simp at hl; omega
    · have ea : (Addr.mk b 0 none).add (Int.toNat ((at_.toNat + k : Nat) : Int) * 1) = ⟨b, at_.toNat + k, none⟩ := by rw [add_mk]; simp; omega
      have hi : at_.toNat + k < xs.length := by omega
      refine ref1_Put.L0_step ?_
      rw [ref1_Put.B0, e]
      refine ifP_yes (by omega) ⟨by omega, by omega, _, rfl, ?_⟩
      rw [ea]
      refine ⟨st_cell hb (by simp; omega), frozen_of hb, letS hb fun w1 h1 k1 s1 => ?_⟩
      rw [wrap_u8_mod] at h1
      rw [fdiv_pow8, wrap_i64 (by omega) (by omega)]
      have e2 : ((k + 1 : Nat) : Int) - 1 - 1 = (k : Int) - 1 := by omega
      rw [e2]
      exact ih (xs.set (at_.toNat + k) (v % 256)) (v / 256) w1 (by omega) (by simpa using hl) (set_own (w := w') hi hcl h1)
        fun w2 hO2 hk2 => hR w2 hO2 ((k1.mono fun _ _ h => blk_some.2 h).trans' hk2)

theorem rput_spec {w : World} {A : Option Addr} {n c : Nat} {xs : List Int} {at_ size v : Int} (h : IBytes w A n xs) (hn : n ≤ 140737488355328) :
    Run Try.prog 57 #[.slice A n c, .int .i64 at_, .int .i64 size, .int .u32 v] w (PutOf w n xs at_ size v) := by
  have key : size = 1 ∨ size = 2 ∨ size = 4 → Run Try.prog 61 #[.int .i64 (n : Int), .int .i64 at_, .int .i64 size] w fun u w_2 => ∃ t27 : Bool, u = .bool t27 ∧ ref1_Put.J0 (PutOf w n xs at_ size v) A n c at_ size v (!t27) w_2 := by
    intro hs
    refine (in_spec (by omega) (by omega)).mono ?_
    rintro u w1 ⟨rfl, rfl⟩
    rw [fitsB_in hs (by omega)]
    refine ⟨_, rfl, ifP_not.2 (ifP_of (fun hf => letA fun w2 h2 x2 s2 => ?_) (fun hf => ?_))⟩
    · obtain ⟨_, h0, h1⟩ := fitsB_iff.1 hf
      have hO : Own 5 1 w2 (some (newA w1)) 0 [] := .inr ⟨_, [], rfl, h2, rfl⟩
      obtain ⟨A', c', w3, hr, hO', hc', hk, hb⟩ := append_own slBytes (ty := 24) (n := 0) (d := c) hO rfl (h.cells.ext x2) (m := n) (by simp [h.len]) (cellsBytes xs) (by omega) (by omega)
      refine ⟨_, w3, hr, _, _, _, rfl, ?_⟩
      rw [Nat.zero_add]
      have hnew : ∀ k, blk A' k → w1.heap.size ≤ k := by
        intro k hk'
        rcases hb k hk' with h | h
        · rw [blk_some.1 h]; exact Nat.le_refl _
        · omega
      have x3 : Ext w1 w3 := x2.fresh hk fun k h => by rw [blk_some.1 h]; exact Nat.le_refl _
      have e : IntKind.i64.wrap (size - 1) = ((size.toNat : Nat) : Int) - 1 := by rw [wrap_i64 (by omega) (by omega)]; omega
      rw [e]
      refine rput_loop (w := w1) h0 hn size.toNat xs v w3 (by omega) h.len (by simpa using hO') fun w4 hO4 k4 => ?_
      unfold PutOf
      rw [if_pos hf]
      exact ⟨A', c', rfl, hO4, h.len, hnew, x3.fresh k4 hnew⟩
    · unfold PutOf
      rw [if_neg (by simp [hf])]
      exact ⟨rfl, rfl⟩
  refine ref1_Put.ok (ifP_bne.2 ⟨fun h1 => ifP_bne.2 ⟨fun h2 => ifP_bne.2 ⟨fun h4 => ?_, fun h4 => key (by omega)⟩, fun h2 => key (by omega)⟩, fun h1 => key (by omega)⟩)
  show PutOf w n xs at_ size v _ w
  unfold PutOf
  rw [fitsB_not h1 h2 h4]
  exact ⟨rfl, rfl⟩

end Go.Proofs.Ytgjabpgkiaojhaa
