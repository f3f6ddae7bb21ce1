/- The plain law of ForgeRefuses: what is turned is wrong. -/
import Derived.Test.YtjlbegfbdjhhdaaG17
import Derived.Test.YtjlbegfbdjhhdaaOpenSp
namespace Go.Proofs.Ytjlbegfbdjhhdaa
open Go.Rd Go.RowKit
set_option linter.unusedVariables false
set_option linter.unusedSimpArgs false

theorem orI_nat {x m : Nat} (hx : x < 4294967296) (hm : m < 4294967296) : orI .u32 (x : Int) (m : Int) = ((x ||| m : Nat) : Int) := by
  unfold orI
  have e : (BitVec.ofInt IntKind.u32.bits (x : Int) ||| BitVec.ofInt IntKind.u32.bits (m : Int)).toNat = x ||| m := by
    rw [BitVec.toNat_or, toNat_ofInt, toNat_ofInt, ← Int.natCast_emod, ← Int.natCast_emod, Int.toNat_natCast, Int.toNat_natCast]
    have hb : 2 ^ IntKind.u32.bits = 4294967296 := rfl
    rw [Nat.mod_eq_of_lt (by omega), Nat.mod_eq_of_lt (by omega)]
  have := Nat.or_lt_two_pow (n := 32) hx hm
  rw [e, wrap_u32 (by omega) (by omega)]
theorem xorI_nat {x m : Nat} (hx : x < 4294967296) (hm : m < 4294967296) : xorI .u32 (x : Int) (m : Int) = ((x ^^^ m : Nat) : Int) := by
  unfold xorI
  have e : (BitVec.ofInt IntKind.u32.bits (x : Int) ^^^ BitVec.ofInt IntKind.u32.bits (m : Int)).toNat = x ^^^ m := by
    rw [BitVec.toNat_xor, toNat_ofInt, toNat_ofInt, ← Int.natCast_emod, ← Int.natCast_emod, Int.toNat_natCast, Int.toNat_natCast]
    have hb : 2 ^ IntKind.u32.bits = 4294967296 := rfl
    rw [Nat.mod_eq_of_lt (by omega), Nat.mod_eq_of_lt (by omega)]
  have := Nat.xor_lt_two_pow (n := 32) hx hm
  rw [e, wrap_u32 (by omega) (by omega)]
theorem or_ge {x : Int} (m : Nat) (h0 : 0 ≤ x) (h1 : x ≤ 4294967295) (hm : m < 4294967296) : (m : Int) ≤ orI .u32 x m ∧ orI .u32 x m ≤ 4294967295 := by
  obtain ⟨n, rfl⟩ := Int.eq_ofNat_of_zero_le h0
  rw [orI_nat (by omega) hm]
  have := Nat.or_lt_two_pow (n := 32) (x := n) (y := m) (by omega) hm
  have := Nat.right_le_or (n := n) (m := m)
  omega
theorem xor_one {x : Int} (h0 : 0 ≤ x) (h1 : x ≤ 4294967295) : 0 ≤ xorI .u32 x 1 ∧ xorI .u32 x 1 ≤ 4294967295 ∧ xorI .u32 x 1 % 2 = (x + 1) % 2 := by
  obtain ⟨n, rfl⟩ := Int.eq_ofNat_of_zero_le h0
  rw [show (1 : Int) = ((1 : Nat) : Int) from rfl, xorI_nat (by omega) (by decide)]
  have := Nat.xor_lt_two_pow (n := 32) (x := n) (y := 1) (by omega) (by decide)
  have : (n ^^^ 1) % 2 = (n + 1) % 2 := by
    have e := Nat.testBit_xor n 1 0
    simp only [Nat.testBit_zero] at e
    rcases Nat.mod_two_eq_zero_or_one n with h | h
    · rw [h] at e
      have := of_decide_eq_true (e.trans (by decide))
      omega
    · rw [h] at e
      have := of_decide_eq_false (e.trans (by decide))
      omega
  omega

section
variable {k : Lnk} {s : Sp}
theorem said_facts (h : anyWrong k s = false) (hs : saidB s = true) : s.pr ≤ 65535 ∧ s.pr % 2 = 1 := by
  have h5 : wr5 s = false := right_of h 4 (by decide)
  simp [wr5, hs] at h5
  omega
theorem unsaid_facts (h : anyWrong k s = false) (hs : saidB s = false) : s.pr = 0 := by
  have h4 : wr4 s = false := right_of h 3 (by decide)
  simp [wr4, hs] at h4
  exact h4.1.1
theorem ref0 (h : anyWrong k s = false) (ok : s.ok) : anyWrong k { s with pr := xorI .u32 s.pr 1 } = true := by
  obtain ⟨a, b, c⟩ := xor_one ok.pr.1 ok.pr.2
  cases hs : saidB s with
  | true =>
    have := said_facts h hs
    refine wrong_of 4 (by decide) ?_
    show (saidB s && (decide (xorI .u32 s.pr 1 > 65535) || xorI .u32 s.pr 1 % 2 == 0 || xorI .u32 s.pr 1 / 256 % 2 == 1)) = true
    rw [hs, show xorI .u32 s.pr 1 % 2 = 0 by omega]
    simp
  | false =>
    have := unsaid_facts h hs
    refine wrong_of 3 (by decide) ?_
    show (!saidB s && (xorI .u32 s.pr 1 != 0 || s.nx != 0 || s.po)) = true
    have : xorI .u32 s.pr 1 ≠ 0 := by omega
    simp [hs, this]
theorem ref1 (h : anyWrong k s = false) (ok : s.ok) : anyWrong k { s with pr := orI .u32 s.pr 65536 } = true := by
  obtain ⟨a, b⟩ := or_ge 65536 ok.pr.1 ok.pr.2 (by decide)
  have a : (65536 : Int) ≤ orI .u32 s.pr 65536 := a
  cases hs : saidB s with
  | true =>
    refine wrong_of 4 (by decide) ?_
    show (saidB s && (decide (orI .u32 s.pr 65536 > 65535) || orI .u32 s.pr 65536 % 2 == 0 || orI .u32 s.pr 65536 / 256 % 2 == 1)) = true
    have : orI .u32 s.pr 65536 > 65535 := by omega
    simp [hs, this]
  | false =>
    refine wrong_of 3 (by decide) ?_
    show (!saidB s && (orI .u32 s.pr 65536 != 0 || s.nx != 0 || s.po)) = true
    have : orI .u32 s.pr 65536 ≠ 0 := by omega
    simp [hs, this]
theorem nx_facts (h : anyWrong k s = false) : 0 ≤ s.nx ∧ s.nx ≤ 255 := by
  have h7 : wr7 s = false := right_of h 6 (by decide)
  simp [wr7] at h7
  omega
theorem ref_nx {x : Int} (hx : x < 0 ∨ x > 255) : anyWrong k { s with nx := x } = true := by
  refine wrong_of 6 (by decide) ?_
  show (decide (x < 0) || decide (x > 255)) = true
  simp; omega
theorem ref3 (h : anyWrong k s = false) (ok : s.ok) : anyWrong k { s with sq := orI .u32 s.sq 16777216 } = true := by
  obtain ⟨a, b⟩ := or_ge 16777216 ok.sq.1 ok.sq.2 (by decide)
  have a : (16777216 : Int) ≤ orI .u32 s.sq 16777216 := a
  rcases Bool.eq_false_or_eq_true s.mu with hs | hs
  · refine wrong_of 1 (by decide) ?_
    show (s.mu && (k.mp == 0 || decide (orI .u32 s.sq 16777216 > seqsN k))) = true
    have : orI .u32 s.sq 16777216 > seqsN k := by unfold seqsN; split <;> omega
    simp [hs, this]
  · refine wrong_of 2 (by decide) ?_
    show (!s.mu && (s.bg || s.en || orI .u32 s.sq 16777216 != 0 || (s.pr == 61 && k.mp != 0))) = true
    have : orI .u32 s.sq 16777216 ≠ 0 := by omega
    simp [hs, this]
theorem ref4 : anyWrong k { s with fr := 70000 } = true := wrong_of 9 (by decide) rfl
theorem ref6 : anyWrong { k with ac := false } { s with wd := false } = true := wrong_of 0 (by decide) rfl
end
end Go.Proofs.Ytjlbegfbdjhhdaa
