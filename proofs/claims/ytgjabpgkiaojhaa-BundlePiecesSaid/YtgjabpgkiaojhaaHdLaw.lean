/- Bits of words; what a walk over a frame reads where a number, a protocol field, a piece's header stands. -/
import Derived.Test.YtgjabpgkiaojhaaHdDef
namespace Go.Proofs.Ytgjabpgkiaojhaa
open Go.Rd Go.RowKit
set_option linter.unusedVariables false
set_option linter.unusedSimpArgs false

theorem orI_nat {x m : Nat} (hx : x < 4294967296) (hm : m < 4294967296) : orI .u32 (x : Int) (m : Int) = ((x ||| m : Nat) : Int) := by
  unfold orI
  have e : (BitVec.ofInt IntKind.u32.bits (x : Int) ||| BitVec.ofInt IntKind.u32.bits (m : Int)).toNat = x ||| m := by
    rw [BitVec.toNat_or, toNat_ofInt, toNat_ofInt, ← Int.natCast_emod, ← Int.natCast_emod, Int.toNat_natCast, Int.toNat_natCast]
    have hb : 2 ^ IntKind.u32.bits = 4294967296 := rfl
    rw [Nat.mod_eq_of_lt (by omega), Nat.mod_eq_of_lt (by omega)]
  have := Nat.or_lt_two_pow (n := 32) hx hm
  rw [e, wrap_u32 (by omega) (by omega)]
theorem xorI_nat {x m : Nat} (hx : x < 4294967296) (hm : m < 4294967296) : xorI .u32 (x : Int) (m : Int) = ((x ^^^ m : Nat) : Int) := by
  unfold xorI
  have e : (BitVec.ofInt IntKind.u32.bits (x : Int) ^^^ BitVec.ofInt IntKind.u32.bits (m : Int)).toNat = x ^^^ m := by
    rw [BitVec.toNat_xor, toNat_ofInt, toNat_ofInt, ← Int.natCast_emod, ← Int.natCast_emod, Int.toNat_natCast, Int.toNat_natCast]
    have hb : 2 ^ IntKind.u32.bits = 4294967296 := rfl
    rw [Nat.mod_eq_of_lt (by omega), Nat.mod_eq_of_lt (by omega)]
  have := Nat.xor_lt_two_pow (n := 32) hx hm
  rw [e, wrap_u32 (by omega) (by omega)]
theorem or_ge {x : Int} (m : Nat) (h0 : 0 ≤ x) (h1 : x ≤ 4294967295) (hm : m < 4294967296) : (m : Int) ≤ orI .u32 x m ∧ orI .u32 x m ≤ 4294967295 := by
  obtain ⟨n, rfl⟩ := Int.eq_ofNat_of_zero_le h0
  rw [orI_nat (by omega) hm]
  have := Nat.or_lt_two_pow (n := 32) (x := n) (y := m) (by omega) hm
  have := Nat.right_le_or (n := n) (m := m)
  omega
theorem xor_one {x : Int} (h0 : 0 ≤ x) (h1 : x ≤ 4294967295) : 0 ≤ xorI .u32 x 1 ∧ xorI .u32 x 1 ≤ 4294967295 ∧ xorI .u32 x 1 % 2 = (x + 1) % 2 := by
  obtain ⟨n, rfl⟩ := Int.eq_ofNat_of_zero_le h0
  rw [show (1 : Int) = ((1 : Nat) : Int) from rfl, xorI_nat (by omega) (by decide)]
  have := Nat.xor_lt_two_pow (n := 32) (x := n) (y := 1) (by omega) (by decide)
  have : (n ^^^ 1) % 2 = (n + 1) % 2 := by
    have e := Nat.testBit_xor n 1 0
    simp only [Nat.testBit_zero] at e
    rcases Nat.mod_two_eq_zero_or_one n with h | h
    · rw [h] at e
      have := of_decide_eq_true (e.trans (by decide))
      omega
    · rw [h] at e
      have := of_decide_eq_false (e.trans (by decide))
      omega
  omega

/-! ## Numbers and bits -/

theorem andI_nat {x m : Nat} (hx : x < 4294967296) (hm : m < 4294967296) : andI .u32 (x : Int) (m : Int) = ((x &&& m : Nat) : Int) := by
  unfold andI
  have e : (BitVec.ofInt IntKind.u32.bits (x : Int) &&& BitVec.ofInt IntKind.u32.bits (m : Int)).toNat = x &&& m := by
    rw [BitVec.toNat_and, toNat_ofInt, toNat_ofInt, ← Int.natCast_emod, ← Int.natCast_emod, Int.toNat_natCast, Int.toNat_natCast]
    have hb : 2 ^ IntKind.u32.bits = 4294967296 := rfl
    rw [Nat.mod_eq_of_lt (by omega), Nat.mod_eq_of_lt (by omega)]
  have := Nat.and_le_left (n := x) (m := m)
  rw [e, wrap_u32 (by omega) (by omega)]
theorem andNot_zero {x m : Nat} (hx : x < 4294967296) (hm : m < 4294967296) (h : x &&& m = x) : andNotI .u32 (x : Int) (m : Int) = 0 := by
  unfold andNotI
  have e1 : (BitVec.ofInt IntKind.u32.bits (x : Int)).toNat = x := by
    rw [toNat_ofInt, ← Int.natCast_emod, Int.toNat_natCast]
    exact Nat.mod_eq_of_lt hx
  have e2 : (BitVec.ofInt IntKind.u32.bits (m : Int)).toNat = m := by
    rw [toNat_ofInt, ← Int.natCast_emod, Int.toNat_natCast]
    exact Nat.mod_eq_of_lt hm
  have e3 : BitVec.ofInt IntKind.u32.bits (x : Int) = BitVec.ofInt IntKind.u32.bits (x : Int) &&& BitVec.ofInt IntKind.u32.bits (m : Int) := by
    apply BitVec.eq_of_toNat_eq
    rw [BitVec.toNat_and, e1, e2, h]
  have e4 : BitVec.ofInt IntKind.u32.bits (x : Int) &&& ~~~(BitVec.ofInt IntKind.u32.bits (m : Int)) = 0 := by
    rw [e3, BitVec.and_assoc]
    have : BitVec.ofInt IntKind.u32.bits (m : Int) &&& ~~~(BitVec.ofInt IntKind.u32.bits (m : Int)) = 0 := by
      ext i hi
      simp
    rw [this]
    simp
  rw [e4]
  rfl
theorem bits_T {n S T M : Nat} (hn : n &&& S = n) (hT : S &&& T = 0) : n &&& T = 0 := by rw [← hn, Nat.and_assoc, hT, Nat.and_zero]

/-! ## Parts at their places -/

theorem at_get {xs ys zs : List Int} {a i : Nat} (h : xs.drop a = ys ++ zs) (hi : i < ys.length) : xs.getD (a + i) 0 = ys.getD i 0 := by
  have e : (xs.drop a).getD i 0 = ys.getD i 0 := by
    rw [h, List.getD_eq_getElem?_getD, List.getD_eq_getElem?_getD, List.getElem?_append_left hi]
  rw [← e, List.getD_eq_getElem?_getD, List.getD_eq_getElem?_getD, List.getElem?_drop]
theorem at_len {xs ys zs : List Int} {a : Nat} (h : xs.drop a = ys ++ zs) (hy : 0 < ys.length) : xs.length = a + ys.length + zs.length := by
  have := congrArg List.length h
  rw [List.length_drop, List.length_append] at this
  omega
theorem at_next {xs ys zs : List Int} {a : Nat} (h : xs.drop a = ys ++ zs) : xs.drop (a + ys.length) = zs := by
  rw [← List.drop_drop, h, List.drop_left]
theorem fieldB_two (v : Int) : fieldB 2 v = [v / 256 % 256, v % 256] := rfl
theorem fieldB_four (v : Int) : fieldB 4 v = [v / 256 / 256 / 256 % 256, v / 256 / 256 % 256, v / 256 % 256, v % 256] := rfl

section
variable {k : Lnk} {pl : Bool} {p : Int} {xs zs : List Int} {a : Nat}
theorem proto_made (h0 : 0 ≤ p) (h1 : p ≤ 65535) (h2 : p % 2 = 1) (h3 : p / 256 % 2 = 0) (hd : xs.drop a = protoB k pl p ++ zs) : protoX k xs a = .ok (p, ((a + (protoB k pl p).length : Nat) : Int)) := by
  have hlen := at_len hd (by unfold protoB; split <;> simp [fieldB_two])
  have g := fun i hi => at_get (i := i) hd hi
  unfold protoB at hlen g ⊢
  unfold protoX
  by_cases hq : k.pf = true ∧ pl = false ∧ p < 256
  · simp only [if_pos hq, List.length_cons, List.length_nil] at hlen g ⊢
    have g0 : xs.getD a 0 = p := (g 0 (by omega)).trans (wrap_u8 h0 (by omega))
    rw [if_neg (by omega), Int.toNat_natCast, g0, if_pos h2, if_pos hq.1]
    rfl
  · simp only [if_neg hq, fieldB_two, List.length_cons, List.length_nil] at hlen g ⊢
    have g0 : xs.getD a 0 = p / 256 := (g 0 (by omega)).trans (show p / 256 % 256 = _ by omega)
    have g1 : xs.getD ((a : Int) + 1).toNat 0 = p % 256 := g 1 (by omega)
    rw [if_neg (by omega), Int.toNat_natCast, g0, g1, if_neg (by omega), if_neg (by omega), if_pos (by omega)]
    rw [show 256 * (p / 256) + p % 256 = p by omega]
    rfl
theorem proto_first (h0 : 0 ≤ p) (h1 : p ≤ 65535) (h3 : p / 256 % 2 = 0) (h4 : k.pf = true → pl = false → p ≠ 255) : (protoB k pl p ++ zs).getD 0 0 ≠ 255 := by
  unfold protoB
  split
  · rename_i hq
    show IntKind.u8.wrap p ≠ 255
    rw [wrap_u8 h0 (by omega)]
    exact h4 hq.1 hq.2.1
  · show p / 256 % 256 ≠ 255
    omega
end

theorem be_fieldB {k : Lnk} {h : Int} (h0 : 0 ≤ h) (h1 : h < (if k.mp = 2 then 4294967296 else 65536)) : be 0 (fieldB (headSize k) h) = h := by
  unfold headSize
  by_cases hk : k.mp = 2
  · rw [if_pos hk] at h1 ⊢
    rw [fieldB_four, be_four (by omega) (by omega) (by omega) (by omega)]
    omega
  · rw [if_neg hk] at h1 ⊢
    rw [fieldB_two, be_two (by omega) (by omega)]
    omega
/-- A piece's number with its two marks, and what is read out of it. -/
theorem marks {S T M n : Nat} {bg en : Bool} (hn : n &&& S = n) (hST : S &&& T = 0) (hSM : S &&& M = 0) (hTM : T &&& M = 0) {h : Nat} (hh : h = (if en = true then (if bg = true then n ||| T else n) ||| M else (if bg = true then n ||| T else n))) :
    h &&& (T ||| M ||| S) = h ∧ h &&& T = (if bg = true then T else 0) ∧ h &&& M = (if en = true then M else 0) ∧ h &&& S = n := by
  have nT := bits_T (M := M) hn hST
  have nM := bits_T (M := T) hn hSM
  have MT : M &&& T = 0 := by rw [Nat.and_comm]; exact hTM
  have TS : T &&& S = 0 := by rw [Nat.and_comm]; exact hST
  have MS : M &&& S = 0 := by rw [Nat.and_comm]; exact hSM
  subst hh
  cases bg <;> cases en <;> simp [Nat.and_or_distrib_left, Nat.and_or_distrib_right, hn, nT, nM, hTM, MT, TS, MS, Nat.or_assoc, Nat.or_comm] <;> ac_rfl

theorem head_made {k : Lnk} {bg en : Bool} {sq : Int} {xs zs : List Int} {a : Nat} (h0 : 0 ≤ sq) (h1 : sq ≤ seqMask k) (hd : xs.drop a = headB k bg en sq ++ zs) :
    headX k xs a = .ok (bg, en, sq, ((a + (headB k bg en sq).length : Nat) : Int)) := by
  obtain ⟨n, rfl⟩ := Int.eq_ofNat_of_zero_le h0
  have hsz : (headB k bg en n).length = pieceSize k := by
    rw [headB, fieldB_length, headSize, pieceSize]; split <;> rfl
  have hps : pieceSize k = 2 ∨ pieceSize k = 4 := by unfold pieceSize; split <;> omega
  have hlen := at_len hd (by omega)
  have hget : getV xs a (pieceSize k) = be 0 (headB k bg en n) := getV_at hd (by rw [Int.toNat_natCast]; exact hsz)
  have key : ∀ (S T M : Nat), topBit k = T → midBit k = M → seqMask k = S → n &&& S = n → S &&& T = 0 → S &&& M = 0 → T &&& M = 0 → 0 < T → 0 < M → S < 4294967296 → T < 4294967296 → M < 4294967296 → (T ||| M ||| S) < (if k.mp = 2 then 4294967296 else 65536) →
      headX k xs a = .ok (bg, en, (n : Int), ((a + (headB k bg en n).length : Nat) : Int)) := by
    intro S T M eT eM eS hn hST hSM hTM pT pM lS lT lM lA
    obtain ⟨m1, m2, m3, m4⟩ := marks (bg := bg) (en := en) hn hST hSM hTM rfl
    have lA' : (T ||| M ||| S) < 4294967296 := by split at lA <;> omega
    generalize eh : (if en = true then (if bg = true then n ||| T else n) ||| M else (if bg = true then n ||| T else n)) = h at m1 m2 m3 m4
    have lh : h ≤ (T ||| M ||| S) := by rw [← m1]; exact Nat.and_le_right
    have ln : n < 4294967296 := by have := Nat.and_le_right (n := n) (m := S); omega
    have lnT : n ||| T < 4294967296 := Nat.or_lt_two_pow (n := 32) ln lT
    have hnum : headNum k bg en n = (h : Int) := by
      rw [← eh]
      have e1 : (if k.mp = 2 then 2147483648 else 32768 : Int) = (T : Int) := eT
      have e2 : (if k.mp = 2 then 1073741824 else 16384 : Int) = (M : Int) := eM
      simp only [headNum, e1, e2]
      cases bg <;> cases en <;> simp only [if_true, if_false, Bool.false_eq_true, orI_nat ln lT, orI_nat ln lM, orI_nat lnT lM]
    have hbe : be 0 (headB k bg en n) = (h : Int) := by
      rw [headB, hnum]
      exact be_fieldB (by omega) (by split at lA <;> rename_i hk <;> simp only [hk, if_true, if_false] <;> omega)
    unfold headX
    rw [if_neg (by omega)]
    simp only [hget, hbe, eT, eM, eS]
    rw [orI_nat lT lM, orI_nat (Nat.or_lt_two_pow (n := 32) lT lM) lS, if_pos (andNot_zero (by omega) lA' m1), andI_nat (by omega) lT, andI_nat (by omega) lM, andI_nat (by omega) lS, m2, m3, m4]
    have b1 : (((if bg = true then T else 0 : Nat) : Int) != 0) = bg := by cases bg <;> simp; omega
    have b2 : (((if en = true then M else 0 : Nat) : Int) != 0) = en := by cases en <;> simp; omega
    rw [b1, b2, hsz]
    rfl
  unfold seqMask at h1
  by_cases hk : k.mp = 2
  · rw [if_pos hk] at h1
    refine key 16777215 2147483648 1073741824 (by simp [topBit, hk]) (by simp [midBit, hk]) (by simp [seqMask, hk]) ?_ (by decide) (by decide) (by decide) (by decide) (by decide) (by decide) (by decide) (by decide) (by simp [hk])
    exact Nat.and_two_pow_sub_one_of_lt_two_pow (n := 24) (by omega)
  · rw [if_neg hk] at h1
    refine key 4095 32768 16384 (by simp [topBit, hk]) (by simp [midBit, hk]) (by simp [seqMask, hk]) ?_ (by decide) (by decide) (by decide) (by decide) (by decide) (by decide) (by decide) (by decide) (by simp [hk])
    exact Nat.and_two_pow_sub_one_of_lt_two_pow (n := 12) (by omega)
end Go.Proofs.Ytgjabpgkiaojhaa
