/- Bytes as a number, the high one first. -/
import Derived.Test.YtgjabpgkiaojhaaWGet
namespace Go.Proofs.Ytgjabpgkiaojhaa
open Go.Rd Go.RowKit
set_option linter.unusedVariables false
set_option linter.unusedSimpArgs false

theorem or_step {v b : Int} (h0 : 0 ≤ v) (h1 : v < 16777216) (b0 : 0 ≤ b) (b1 : b ≤ 255) : orI .u32 (IntKind.u32.wrap (v * 2 ^ 8)) (IntKind.u32.wrap b) = 256 * v + b := by
  obtain ⟨x, rfl⟩ := Int.eq_ofNat_of_zero_le h0
  obtain ⟨y, rfl⟩ := Int.eq_ofNat_of_zero_le b0
  have e1 : ((x : Int) * 2 ^ 8) = ((256 * x : Nat) : Int) := by
    show (x : Int) * 256 = _
    omega
  rw [e1, wrap_u32 (by omega) (by omega), wrap_u32 (by omega) (by omega)]
  unfold orI
  have e2 : (BitVec.ofInt IntKind.u32.bits ((256 * x : Nat) : Int) ||| BitVec.ofInt IntKind.u32.bits (y : Int)).toNat = 256 * x + y := by
    rw [BitVec.toNat_or, toNat_ofInt, toNat_ofInt, ← Int.natCast_emod, ← Int.natCast_emod, Int.toNat_natCast, Int.toNat_natCast]
    have hb : 2 ^ IntKind.u32.bits = 4294967296 := rfl
    rw [Nat.mod_eq_of_lt (by omega), Nat.mod_eq_of_lt (by omega)]
    exact (Nat.two_pow_add_eq_or_of_lt (i := 8) (by omega) x).symm
  rw [e2, wrap_u32 (by omega) (by omega)]
  omega

theorem be_cons {v b : Int} {xs : List Int} (h0 : 0 ≤ v) (h1 : v < 16777216) (b0 : 0 ≤ b) (b1 : b ≤ 255) : be v (b :: xs) = be (256 * v + b) xs := by
  show be (orI _ _ _) xs = _
  rw [or_step h0 h1 b0 b1]
theorem be_nil {v : Int} : be v [] = v := rfl
theorem be_one {a : Int} (ha : 0 ≤ a ∧ a ≤ 255) : be 0 [a] = a := by
  rw [be_cons (by omega) (by omega) ha.1 ha.2, be_nil]; omega
theorem be_two {a b : Int} (ha : 0 ≤ a ∧ a ≤ 255) (hb : 0 ≤ b ∧ b ≤ 255) : be 0 [a, b] = 256 * a + b := by
  rw [be_cons (by omega) (by omega) ha.1 ha.2, be_cons (by omega) (by omega) hb.1 hb.2, be_nil]; omega
theorem be_four {a b c d : Int} (ha : 0 ≤ a ∧ a ≤ 255) (hb : 0 ≤ b ∧ b ≤ 255) (hc : 0 ≤ c ∧ c ≤ 255) (hd : 0 ≤ d ∧ d ≤ 255) : be 0 [a, b, c, d] = 16777216 * a + 65536 * b + 256 * c + d := by
  rw [be_cons (by omega) (by omega) ha.1 ha.2, be_cons (by omega) (by omega) hb.1 hb.2, be_cons (by omega) (by omega) hc.1 hc.2, be_cons (by omega) (by omega) hd.1 hd.2, be_nil]; omega

theorem getV_at {xs ys zs : List Int} {i : Nat} {s : Int} (h : xs.drop i = ys ++ zs) (hs : ys.length = s.toNat) : getV xs (i : Int) s = be 0 ys := by
  unfold getV
  rw [Int.toNat_natCast, h, List.take_left' hs]
end Go.Proofs.Ytgjabpgkiaojhaa
