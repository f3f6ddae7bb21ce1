/- Package word: fits, Get: what each computes. -/
import Derived.Test.YtbchjihecdkfeaaWDef
namespace Go.Proofs.Ytbchjihecdkfeaa
open Go.Rd Go.RowKit
set_option linter.unusedVariables false
set_option linter.unusedSimpArgs false

/-! ## fits -/

def fitsB (n at_ size : Int) : Bool := (size == 1 || size == 2 || size == 4) && decide (at_ ≥ 0) && decide (at_ ≤ n - size)

theorem fits_spec {w : World} {n at_ size : Int} (h0 : 0 ≤ n) (h1 : n ≤ 140737488355328) : Run Try.prog 127 #[.int .i64 n, .int .i64 at_, .int .i64 size] w fun v w' => v = .bool (fitsB n at_ size) ∧ w' = w := by
  have key : ∀ s : Int, s = 1 ∨ s = 2 ∨ s = 4 → size = s →
      ifP (decide (at_ ≥ 0)) (word_fits.J0 (fun v w' => v = .bool (fitsB n at_ size) ∧ w' = w) (decide (at_ ≤ IntKind.i64.wrap (n - size))) w) (word_fits.J0 (fun v w' => v = .bool (fitsB n at_ size) ∧ w' = w) false w) := by
    intro s hs he
    have hb : (size == 1 || size == 2 || size == 4) = true := by rcases hs with h | h | h <;> simp [he, h]
    have e : IntKind.i64.wrap (n - size) = n - size := by rcases hs with h | h | h <;> exact wrap_i64 (by omega) (by omega)
    rw [e]
    refine ifP_dec (fun h => ⟨?_, rfl⟩) (fun h => ⟨?_, rfl⟩) <;> simp [fitsB, hb, h]
  refine word_fits.ok (ifP_int (fun h => key 1 (by omega) h) (fun h1 => ifP_int (fun h => key 2 (by omega) h) (fun h2 => ifP_int (fun h => key 4 (by omega) h) (fun h4 => ?_))))
  refine ⟨?_, rfl⟩
  simp [fitsB, h1, h2, h4]

theorem fitsB_iff {n at_ size : Int} : fitsB n at_ size = true ↔ (size = 1 ∨ size = 2 ∨ size = 4) ∧ 0 ≤ at_ ∧ at_ ≤ n - size := by
  simp [fitsB, or_assoc, and_assoc]

/-! ## Get -/

def be (v : Int) (xs : List Int) : Int := xs.foldl (fun v b => orI .u32 (IntKind.u32.wrap (v * 2 ^ 8)) (IntKind.u32.wrap b)) v
def getV (xs : List Int) (at_ size : Int) : Int := be 0 ((xs.drop at_.toNat).take size.toNat)

theorem get_loop {w : World} {A : Option Addr} {n c : Nat} {xs : List Int} {R : Value → World → Prop} (h : IBytes w A n xs) (hn : n ≤ 140737488355328) (hR : R (.tuple #[.int .u32 (be 0 xs), .bool true]) w) :
    ∀ (k i : Nat), n - i = k → i ≤ n → ∀ v : Int, v = be 0 (xs.take i) → word_Get.L0 R v A n c n i w := by
  intro k
  induction k with
  | zero =>
    intro i hk hi v hv
    rw [List.take_of_length_le (by rw [h.len]; omega)] at hv
    subst hv
    exact word_Get.L0_step (ifP_no (by omega) hR)
  | succ k ih =>
    intro i hk hi v hv
    have hlt : i < n := by omega
    obtain ⟨a, rfl, ha⟩ := h.at hlt
    refine word_Get.L0_step (ifP_yes (by omega) ⟨by omega, by omega, a, rfl, _, ha, ?_⟩)
    rw [wrap_i64 (by omega) (by omega)]
    refine ih (i + 1) (by omega) (by omega) _ ?_
    rw [hv, be, be, List.take_add_one, List.foldl_append, List.getElem?_eq_getElem (by rw [h.len]; exact hlt)]
    rfl

theorem sub_bytes {w : World} {A : Option Addr} {n c : Nat} {xs : List Int} (h : IBytes w A n xs) {i k : Nat} (hc : n ≤ c) (hi : i + k ≤ n) (hk : 0 < k) :
    IBytes w (subA A c i 1) k ((xs.drop i).take k) := by
  have := (h.cells.drop i (c := c) (by omega)).take k
  rw [← List.map_drop, ← List.map_take] at this
  exact this.rd (by simp [h.len]; omega)

theorem get_spec {w : World} {A : Option Addr} {n c : Nat} {xs : List Int} {at_ size : Int} (h : IBytes w A n xs) (hc : n ≤ c) (hn : n ≤ 140737488355328) :
    Run Try.prog 126 #[.slice A n c, .int .i64 at_, .int .i64 size] w fun v w' =>
      v = (if fitsB n at_ size then .tuple #[.int .u32 (getV xs at_ size), .bool true] else .tuple #[.int .u32 0, .bool false]) ∧ w' = w := by
  refine word_Get.ok ((fits_spec (by omega) (by omega)).mono ?_)
  rintro v w1 ⟨rfl, rfl⟩
  refine ⟨_, rfl, ifP_not.2 (ifP_of (fun hf => ?_) (fun hf => ?_))⟩
  · obtain ⟨hs, h0, h1⟩ := fitsB_iff.1 hf
    have e : IntKind.i64.wrap (at_ + size) = at_ + size := wrap_i64 (by omega) (by omega)
    rw [e]
    refine ⟨h0, by omega, by omega, ?_⟩
    have hk : Int.toNat (at_ + size) - Int.toNat at_ = size.toNat := by omega
    rw [hk]
    refine get_loop (n := size.toNat) (sub_bytes (i := at_.toNat) h hc (by omega) (by omega)) (by omega) ?_ size.toNat 0 (by omega) (by omega) 0 rfl
    rw [hf]
    exact ⟨rfl, rfl⟩
  · rw [hf]; exact ⟨rfl, rfl⟩

end Go.Proofs.Ytbchjihecdkfeaa
