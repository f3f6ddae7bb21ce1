/- The document's answer: Get. -/
import Derived.Test.YtbchjihecdkfeaaWRIn
namespace Go.Proofs.Ytbchjihecdkfeaa
open Go.Rd Go.RowKit
set_option linter.unusedVariables false
set_option linter.unusedSimpArgs false

theorem rget_loop {w : World} {A : Option Addr} {n c : Nat} {xs : List Int} {R : Value → World → Prop} {at_ size : Int} (h : IBytes w A n xs) (hn : n ≤ 140737488355328) (h0 : 0 ≤ at_) (h1 : at_ + size ≤ n) (hs : 0 ≤ size)
    (hR : R (.tuple #[.int .u32 (getV xs at_ size), .bool true]) w) :
    ∀ (k i : Nat), size.toNat - i = k → (i : Int) ≤ size → ∀ v : Int, v = be 0 ((xs.drop at_.toNat).take i) → ref1_Get.L0 R A n c at_ size v i w := by
  intro k
  induction k with
  | zero =>
    intro i hk hi v hv
    have : i = size.toNat := by omega
    subst this
    rw [← getV] at hv
    subst hv
    exact ref1_Get.L0_step (ifP_no (by omega) hR)
  | succ k ih =>
    intro i hk hi v hv
    have hlt : at_.toNat + i < n := by omega
    obtain ⟨a, rfl, ha⟩ := h.at hlt
    have e : IntKind.i64.wrap (at_ + i) = ((at_.toNat + i : Nat) : Int) := by rw [wrap_i64 (by omega) (by omega)]; omega
    refine ref1_Get.L0_step ?_
    rw [ref1_Get.B0, e]
    refine ifP_yes (by omega) ⟨by omega, by omega, a, rfl, _, ha, ?_⟩
    rw [wrap_i64 (by omega) (by omega)]
    refine ih (i + 1) (by omega) (by omega) _ ?_
    rw [hv, be, be, List.take_add_one, List.foldl_append, List.getElem?_drop, List.getElem?_eq_getElem (by rw [h.len]; exact hlt)]
    rfl

theorem rget_spec {w : World} {A : Option Addr} {n c : Nat} {xs : List Int} {at_ size : Int} (h : IBytes w A n xs) (hn : n ≤ 140737488355328) :
    Run Try.prog 113 #[.slice A n c, .int .i64 at_, .int .i64 size] w fun v w' =>
      v = (if fitsB n at_ size then .tuple #[.int .u32 (getV xs at_ size), .bool true] else .tuple #[.int .u32 0, .bool false]) ∧ w' = w := by
  have key : size = 1 ∨ size = 2 ∨ size = 4 → Run Try.prog 125 #[.int .i64 (n : Int), .int .i64 at_, .int .i64 size] w fun v w_2 => ∃ t25 : Bool, v = .bool t25 ∧
      ref1_Get.J0 (fun v w' => v = (if fitsB n at_ size then .tuple #[.int .u32 (getV xs at_ size), .bool true] else .tuple #[.int .u32 0, .bool false]) ∧ w' = w) A n c at_ size (!t25) w_2 := by
    intro hs
    refine (in_spec (by omega) (by omega)).mono ?_
    rintro v w1 ⟨rfl, rfl⟩
    rw [fitsB_in hs (by omega)]
    refine ⟨_, rfl, ifP_not.2 (ifP_of (fun hf => ?_) (fun hf => ?_))⟩
    · obtain ⟨_, h0, h1⟩ := fitsB_iff.1 hf
      refine rget_loop h hn h0 (by omega) (by omega) ?_ _ 0 rfl (by omega) 0 rfl
      rw [hf]; exact ⟨rfl, rfl⟩
    · rw [hf]; exact ⟨rfl, rfl⟩
  refine ref1_Get.ok (ifP_bne.2 ⟨fun h1 => ifP_bne.2 ⟨fun h2 => ifP_bne.2 ⟨fun h4 => ?_, fun h4 => key (by omega)⟩, fun h2 => key (by omega)⟩, fun h1 => key (by omega)⟩)
  rw [fitsB_not h1 h2 h4]
  exact ⟨rfl, rfl⟩

end Go.Proofs.Ytbchjihecdkfeaa
