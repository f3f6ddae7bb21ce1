/- Package frame: protocol, multi, ip, net. -/
import Derived.Test.YtgjabpgkiaojhaaF1
namespace Go.Proofs.Ytgjabpgkiaojhaa
open Go.Rd Go.RowKit
set_option linter.unusedVariables false
set_option linter.unusedSimpArgs false

section
variable {w : World} {b : Nat} {k : Lnk} {A : Option Addr} {n c : Nat} {a : Int} {v : Vw} {xs : List Int}

theorem and1 {x : Int} (h : 0 ≤ x ∧ x ≤ 255) : andI .u8 x 1 = x % 2 := and8 1 (by omega) h.1 h.2
theorem and15b {x : Int} (h : 0 ≤ x ∧ x ≤ 255) : andI .u8 x 15 = x % 16 := and8 4 (by omega) h.1 h.2
theorem and31b {x : Int} (h : 0 ≤ x ∧ x ≤ 255) : andI .u8 x 31 = x % 32 := and8 5 (by omega) h.1 h.2

theorem protocol_spec (h : RAt w b k A n c a v) (hb : IBytes w A n xs) (hx : ∀ x ∈ xs, 0 ≤ x ∧ x ≤ 255) (hA : ∀ q, blk A q → q ≠ b) (hc : n ≤ c) (h0 : 0 ≤ a) (h1 : a ≤ 65535) (hn : n ≤ 65535) :
    RunE Try.prog 40 #[rp b] w (okR w b k A n c (protocolX k xs (a, v))) (erX w b (protocolX k xs (a, v))) := by
  have hl := hb.len
  refine frame_reader_protocol.ok ((need_spec h h0 (by omega) (by omega)).mono ?_ ?_)
  case refine_2 =>
    rintro cs w2 ⟨hm, rfl, x2⟩
    exact ⟨_, by simp only [protocolX, protoX]; rw [if_pos (by omega)], rfl, Keep.ext x2⟩
  rintro u w2 ⟨rfl, hm, x2⟩
  have r2 := h.ext x2
  refine ⟨rfl, letD fun w3 _ x3 => ?_⟩
  have r3 := r2.ext x3
  have b3 := (hb.ext x2).ext x3
  have x03 := x2.trans x3
  obtain ⟨p, hp, hc0⟩ := IBytes.get b3 (j := a) h0 (by omega)
  have g0 := getD_byte hx a.toNat
  refine ⟨_, rfl, A, n, c, r3.c3, _, rfl, a, r3.c4, h0, by omega, p, hp, _, hc0, ?_⟩
  rw [and1 g0]
  refine ifP_beq.2 ⟨fun hodd => ⟨_, rfl, k.pf, r3.c1, must_spec.mono ?_ ?_⟩, fun hev => (need_spec r3 h0 (by omega) (by omega)).mono ?_ ?_⟩
  · rintro u w4 ⟨rfl, hpf, rfl⟩
    refine ⟨rfl, (number_spec r3 b3 hc h0 (by omega) (by omega) (off := 0) (size := 1) (by omega) (by omega) (by omega) (by omega)).e.mono ?_ fun _ _ h => h⟩
    rintro u w5 ⟨rfl, x5⟩
    rw [Int.add_zero, getV_one hx h0 (by omega)]
    refine ⟨_, rfl, _, rfl, (r3.ext x5).putp fun w6 r6 k6 => ⟨_, rfl, a, r6.c4, _, rfl, r6.put4 fun w7 r7 k7 => ?_⟩⟩
    rw [wrap_i64 (x := a + 1) (by omega) (by omega)] at r7
    refine ⟨rfl, (_, _), ?_, r7, (Keep.ext (x03.trans x5)).trans' (k6.trans' k7)⟩
    simp only [protocolX, protoX]
    rw [if_neg (by omega), if_pos hodd, if_pos hpf]
  · rintro cs w4 ⟨hpf, rfl, rfl⟩
    refine ⟨_, ?_, rfl, Keep.ext x03⟩
    simp only [protocolX, protoX]
    rw [if_neg (by omega), if_pos hodd, if_neg (by rw [hpf]; decide)]
  · rintro u w4 ⟨rfl, hm2, x4⟩
    refine ⟨rfl, Ext w4, Ext.drew w4, letD fun w5 _ x5 => ?_⟩
    have r4 := r3.ext x4
    have b4 := b3.ext x4
    have g1 := getD_byte hx (a + 1).toNat
    obtain ⟨p, hp, hc1⟩ := IBytes.get b4 (j := a + 1) (by omega) (by omega)
    refine ⟨_, rfl, A, n, c, fun u hu => (r4.ext hu).c3, _, rfl, a, fun u hu => (r4.ext hu).c4, ?_⟩
    rw [wrap_i64 (x := a + 1) (by omega) (by omega)]
    refine ⟨by omega, by omega, p, hp, _, fun u hu => hu.cell hc1, must_spec.mono ?_ ?_⟩
    · rintro u w6 ⟨rfl, ht, rfl⟩
      rw [and1 g1, beq_iff_eq] at ht
      have r5 := r4.ext x5
      refine ⟨rfl, (number_spec r5 (b4.ext x5) hc h0 (by omega) (by omega) (off := 0) (size := 2) (by omega) (by omega) (by omega) (by omega)).e.mono ?_ fun _ _ h => h⟩
      rintro u w7 ⟨rfl, x7⟩
      rw [Int.add_zero, getV_two hx h0 (by omega)]
      refine ⟨_, rfl, _, rfl, (r5.ext x7).putp fun w8 r8 k8 => ⟨_, rfl, a, r8.c4, _, rfl, r8.put4 fun w9 r9 k9 => ?_⟩⟩
      rw [wrap_i64 (x := a + 2) (by omega) (by omega)] at r9
      refine ⟨rfl, (_, _), ?_, r9, (Keep.ext (((x03.trans x4).trans x5).trans x7)).trans' (k8.trans' k9)⟩
      simp only [protocolX, protoX]
      rw [if_neg (by omega), if_neg hev, if_neg (by omega), if_pos ht]
    · rintro cs w6 ⟨ht, rfl, rfl⟩
      rw [and1 g1, beq_eq_false_iff_ne] at ht
      refine ⟨_, ?_, rfl, Keep.ext ((x03.trans x4).trans x5)⟩
      simp only [protocolX, protoX]
      rw [if_neg (by omega), if_neg hev, if_neg (by omega), if_neg ht]
  · rintro cs w4 ⟨hm2, rfl, x4⟩
    refine ⟨_, ?_, rfl, Keep.ext (x03.trans x4)⟩
    simp only [protocolX, protoX]
    rw [if_neg (by omega), if_neg hev, if_pos (by omega)]

theorem multi_one (h : RAt w b k A n c a v) (hb : IBytes w A n xs) (hx : ∀ x ∈ xs, 0 ≤ x ∧ x ≤ 255) (hA : ∀ q, blk A q → q ≠ b) (hc : n ≤ c) (h0 : 0 ≤ a) (h1 : a ≤ 65535) (hn : n ≤ 65535) (hm : ¬ (k.mp = 0 ∨ v.p ≠ 61)) {size seq : Int}
    (hs : size = pieceSize k) (hq : seq = seqMask k) (ht : IntKind.u32.wrap (1 * 2 ^ (min (Int.toNat (IntKind.i64.wrap ((IntKind.i64.wrap (8 * size)) - 1))) (IntKind.bits .u32))) = topBit k) (hh : Int.fdiv (topBit k) (2 ^ 1) = midBit k) (hp : 0 ≤ IntKind.i64.wrap (IntKind.i64.wrap (8 * size) - 1)) :
    frame_reader_multi.J1 (okR w b k A n c (multiX k xs (a, v))) (erX w b (multiX k xs (a, v))) (some ⟨b, 0, none⟩) size seq w := by
  have hl := hb.len
  have ps : pieceSize k = 2 ∨ pieceSize k = 4 := by unfold pieceSize; split <;> omega
  unfold frame_reader_multi.J1
  rw [ht, hh]
  refine (need_spec h h0 (by omega) (by omega)).mono ?_ ?_
  case refine_2 =>
    rintro cs w2 ⟨hm2, rfl, x2⟩
    refine ⟨_, ?_, rfl, Keep.ext x2⟩
    simp only [multiX, headX]
    rw [if_neg hm, if_pos (by omega)]
  rintro u w2 ⟨rfl, hm2, x2⟩
  have r2 := h.ext x2
  have b2 := hb.ext x2
  refine ⟨rfl, (number_spec r2 b2 hc h0 (by omega) (by omega) (off := 0) (size := size) (by omega) (by omega) (by omega) (by omega)).e.mono ?_ fun _ _ h => h⟩
  rintro u w3 ⟨rfl, x3⟩
  rw [Int.add_zero]
  have r3 := r2.ext x3
  have x03 := x2.trans x3
  refine ⟨_, rfl, hp, must_spec.mono ?_ ?_⟩
  case refine_2 =>
    rintro cs w4 ⟨hbad, rfl, rfl⟩
    rw [beq_eq_false_iff_ne, hs, hq] at hbad
    refine ⟨_, ?_, rfl, Keep.ext x03⟩
    simp only [multiX, headX]
    rw [if_neg hm, if_neg (by omega), if_neg hbad]
  rintro u w4 ⟨rfl, hok, rfl⟩
  rw [beq_iff_eq, hs, hq] at hok
  refine ⟨rfl, _, rfl, r3.putm fun w5 r5 k5 => ⟨_, rfl, r5.putb fun w6 r6 k6 => ⟨_, rfl, r6.pute fun w7 r7 k7 => ⟨_, rfl, r7.puts fun w8 r8 k8 => ⟨_, rfl, a, r8.c4, _, rfl, r8.put4 fun w9 r9 k9 => ⟨_, rfl, _, r9.v2, ?_⟩⟩⟩⟩⟩⟩
  have kk : Keep (· = b) w w9 := (Keep.ext x03).trans' (k5.trans' (k6.trans' (k7.trans' (k8.trans' k9))))
  rw [wrap_i64 (by omega) (by omega)] at r9
  rw [hs, hq] at r9 ⊢
  have eX : multiX k xs (a, v) = if (andI .u32 (getV xs a (pieceSize k)) (topBit k) != 0) = true then protocolX k xs (a + pieceSize k, { v with m := true, b := andI .u32 (getV xs a (pieceSize k)) (topBit k) != 0, e := andI .u32 (getV xs a (pieceSize k)) (midBit k) != 0, s := andI .u32 (getV xs a (pieceSize k)) (seqMask k) }) else
      .ok (a + pieceSize k, { v with m := true, b := andI .u32 (getV xs a (pieceSize k)) (topBit k) != 0, e := andI .u32 (getV xs a (pieceSize k)) (midBit k) != 0, s := andI .u32 (getV xs a (pieceSize k)) (seqMask k) }) := by
    simp only [multiX, headX]
    rw [if_neg hm, if_neg (by omega), if_pos hok]
  have r9' : RAt w9 b k A n c (a + pieceSize k) { v with m := true, b := andI .u32 (getV xs a (pieceSize k)) (topBit k) != 0, e := andI .u32 (getV xs a (pieceSize k)) (midBit k) != 0, s := andI .u32 (getV xs a (pieceSize k)) (seqMask k) } := r9
  refine ifP_of (fun hb1 => ?_) fun hb1 => ⟨rfl, (_, _), by rw [eX]; exact if_neg (fun h => by rw [show (andI .u32 (getV xs a (pieceSize k)) (topBit k) != 0) = false from hb1] at h; cases h), r9', kk⟩
  rw [if_pos (show (andI .u32 (getV xs a (pieceSize k)) (topBit k) != 0) = true from hb1)] at eX
  have b9 : IBytes w9 A n xs := hb.keep kk fun q hq hb => hA _ ⟨q, hq, rfl⟩ hb
  refine (protocol_spec r9' b9 hx hA hc (by omega) (by omega) hn).mono ?_ ?_
  · rintro u w10 ⟨rfl, s, hs10, r10, k10⟩
    exact ⟨rfl, rfl, s, by rw [eX]; exact hs10, r10, kk.trans' k10⟩
  · rintro cs w10 ⟨e, he, rfl, k10⟩
    exact ⟨e, by rw [eX]; exact he, rfl, kk.trans' k10⟩

theorem multi_spec (h : RAt w b k A n c a v) (hb : IBytes w A n xs) (hx : ∀ x ∈ xs, 0 ≤ x ∧ x ≤ 255) (hA : ∀ q, blk A q → q ≠ b) (hc : n ≤ c) (h0 : 0 ≤ a) (h1 : a ≤ 65535) (hn : n ≤ 65535) :
    RunE Try.prog 41 #[rp b] w (okR w b k A n c (multiX k xs (a, v))) (erX w b (multiX k xs (a, v))) := by
  have skip : (k.mp = 0 ∨ v.p ≠ 61) → okR w b k A n c (multiX k xs (a, v)) (.tuple #[]) w := fun hm => ⟨rfl, _, by rw [multiX, if_pos hm], h, Keep.refl _⟩
  refine frame_reader_multi.ok ⟨_, rfl, _, h.c2, ifP_beq.2 ⟨fun hm => ifP_t rfl (skip (.inl hm)), fun hm => ⟨_, rfl, _, h.v0, ?_⟩⟩⟩
  by_cases hp : v.p = 61
  · have e : (v.p != 61) = false := by rw [hp]; rfl
    rw [e]
    refine ifP_f rfl ⟨_, rfl, _, h.c2, ifP_beq.2 ⟨fun h2 => ?_, fun h2 => ?_⟩⟩
    · refine multi_one h hb hx hA hc h0 h1 hn (by omega) ?_ ?_ ?_ ?_ (by decide)
      · rw [pieceSize, if_pos h2]; rfl
      · rw [seqMask, if_pos h2]
      · rw [topBit, if_pos h2]; exact bits4
      · rw [topBit, midBit, if_pos h2, if_pos h2]; exact half4
    · refine multi_one h hb hx hA hc h0 h1 hn (by omega) ?_ ?_ ?_ ?_ (by decide)
      · rw [pieceSize, if_neg h2]; rfl
      · rw [seqMask, if_neg h2]
      · rw [topBit, if_neg h2]; exact bits2
      · rw [topBit, midBit, if_neg h2, if_neg h2]; exact half2
  · have e : (v.p != 61) = true := bne_iff_ne.2 hp
    rw [e]
    exact ifP_t rfl (skip (.inr hp))

/-! ## The net's part -/

theorem frag {x y : Int} (hx : 0 ≤ x ∧ x ≤ 255) (hy : 0 ≤ y ∧ y ≤ 255) : (andI .u32 (256 * x + y) 8191 == 0) = true ↔ x % 32 = 0 ∧ y = 0 := by
  have e : andI .u32 (256 * x + y) 8191 = (256 * x + y) % 8192 := by
    obtain ⟨z, hz⟩ := Int.eq_ofNat_of_zero_le (show 0 ≤ 256 * x + y by omega)
    rw [hz]
    unfold andI
    have e : (BitVec.ofInt IntKind.u32.bits (z : Int) &&& BitVec.ofInt IntKind.u32.bits 8191).toNat = z % 8192 := by
      rw [BitVec.toNat_and, toNat_ofInt, toNat_ofInt, ← Int.natCast_emod, Int.toNat_natCast, Nat.mod_eq_of_lt (show z < 2 ^ IntKind.u32.bits by have : 2 ^ IntKind.u32.bits = 4294967296 := rfl; omega)]
      exact Nat.and_two_pow_sub_one_eq_mod (n := 13) _
    rw [e, wrap_u32 (by omega) (by omega)]
    omega
  rw [e, beq_iff_eq]
  omega

theorem ip_spec (h : RAt w b k A n c a v) (hb : IBytes w A n xs) (hx : ∀ x ∈ xs, 0 ≤ x ∧ x ≤ 255) (hA : ∀ q, blk A q → q ≠ b) (hc : n ≤ c) (h0 : 0 ≤ a) (h1 : a ≤ 65535) (hn : n ≤ 65535) (hva : v.a = a) (hp : v.p ≠ 87) :
    RunE Try.prog 56 #[rp b] w (okR w b k A n c (match ipX v xs with | .error e => .error e | .ok v => .ok (a, v))) (erX w b (match ipX v xs with | .error e => .error e | .ok v => .ok (a, v))) := by
  have hl := hb.len
  have eX : ipX v xs = if (xs.length : Int) < a + 20 then .error 72 else if ¬ (xs.getD a.toNat 0 / 16 = 4 ∧ 5 ≤ xs.getD a.toNat 0 % 16) then .error 76 else
    if (xs.length : Int) < a + 4 * (xs.getD a.toNat 0 % 16) then .error 72 else
    if xs.getD (a + 6).toNat 0 % 32 = 0 ∧ xs.getD (a + 7).toNat 0 = 0 then .ok { v with n := 4, x := xs.getD (a + 9).toNat 0, l := a + 4 * (xs.getD a.toNat 0 % 16) } else .ok { v with n := 4, x := xs.getD (a + 9).toNat 0 } := by
    simp only [ipX, hva]
    rw [if_neg hp]
  refine frame_reader_ip.ok ((need_spec h h0 (by omega) (by omega)).mono ?_ ?_)
  case refine_2 =>
    rintro cs w2 ⟨hm, rfl, x2⟩
    exact ⟨_, by rw [eX, if_pos (by omega)], rfl, Keep.ext x2⟩
  rintro u w2 ⟨rfl, hm, x2⟩
  refine ⟨rfl, letD fun w3 _ x3 => ?_⟩
  have r3 := (h.ext x2).ext x3
  have b3 := (hb.ext x2).ext x3
  have x03 := x2.trans x3
  obtain ⟨p, hp2, hc0⟩ := IBytes.get b3 (j := a) h0 (by omega)
  have g0 := getD_byte hx a.toNat
  refine ⟨_, rfl, A, n, c, r3.c3, _, rfl, a, r3.c4, h0, by omega, p, hp2, _, hc0, Ext w3, Ext.drew w3, letD fun w4 _ x4 => ⟨_, rfl, A, n, c, fun u hu => (r3.ext hu).c3, _, rfl, a, fun u hu => (r3.ext hu).c4, h0, by omega, p, hp2, _, fun u hu => hu.cell hc0, ?_⟩⟩
  rw [fdiv16 g0.1, and15b g0, wrap_i64 (x := xs.getD a.toNat 0 % 16) (by omega) (by omega), wrap_i64 (x := 4 * (xs.getD a.toNat 0 % 16)) (by omega) (by omega)]
  have r4 := r3.ext x4
  have b4 := b3.ext x4
  have x04 := x03.trans x4
  have rest : xs.getD a.toNat 0 / 16 = 4 ∧ 5 ≤ xs.getD a.toNat 0 % 16 → frame_reader_ip.J0 (okR w b k A n c (match ipX v xs with | .error e => .error e | .ok v => .ok (a, v))) (erX w b (match ipX v xs with | .error e => .error e | .ok v => .ok (a, v))) (some ⟨b, 0, none⟩) (4 * (xs.getD a.toNat 0 % 16)) w4 := by
    intro hok
    rw [eX, if_neg (by omega), if_neg (fun h => h hok)]
    refine (need_spec r4 h0 (by omega) (by omega)).mono ?_ ?_
    case refine_2 =>
      rintro cs w5 ⟨hm, rfl, x5⟩
      exact ⟨_, by rw [if_pos (by omega)], rfl, Keep.ext (x04.trans x5)⟩
    rintro u w5 ⟨rfl, hm5, x5⟩
    rw [if_neg (by omega)]
    have r5 := r4.ext x5
    have b5 := b4.ext x5
    obtain ⟨p, hp3, hc9⟩ := IBytes.get b5 (j := a + 9) (by omega) (by omega)
    have g9 := getD_byte hx (a + 9).toNat
    refine ⟨rfl, Ext w5, Ext.drew w5, letD fun w6 _ x6 => ?_⟩
    refine ⟨_, rfl, A, n, c, fun u hu => (r5.ext hu).c3, _, rfl, a, fun u hu => (r5.ext hu).c4, ?_⟩
    rw [wrap_i64 (x := a + 9) (by omega) (by omega)]
    refine ⟨by omega, by omega, p, hp3, _, fun u hu => hu.cell hc9, ?_⟩
    have r6 := r5.ext x6
    refine ⟨_, rfl, r6.putn fun w7 r7 k7 => ⟨_, rfl, r7.putx fun w8 r8 k8 => ?_⟩⟩
    have k08 : Keep (· = b) w w8 := (Keep.ext ((x04.trans x5).trans x6)).trans' (k7.trans' k8)
    have b8 : IBytes w8 A n xs := hb.keep k08 fun q hq hb => hA _ ⟨q, hq, rfl⟩ hb
    rw [wrap_i64 (by omega) (by omega)] at r8
    refine (number_spec r8 b8 hc h0 (by omega) (by omega) (off := 6) (size := 2) (by omega) (by omega) (by omega) (by omega)).e.mono ?_ fun _ _ h => h
    rintro u w9 ⟨rfl, x9⟩
    rw [getV_two hx (by omega) (by omega), show a + 6 + 1 = a + 7 by omega]
    have fr := frag (getD_byte hx (a + 6).toNat) (getD_byte hx (a + 7).toNat)
    refine ⟨_, rfl, ifP_of (fun hf => ⟨_, rfl, a, (r8.ext x9).c4, _, rfl, (r8.ext x9).putl fun w10 r10 k10 => ?_⟩) fun hf => ⟨rfl, (_, _), ?_, r8.ext x9, k08.trans' (Keep.ext x9)⟩⟩
    · rw [wrap_i64 (by omega) (by omega)] at r10
      refine ⟨rfl, (_, _), ?_, r10, k08.trans' ((Keep.ext x9).trans' k10)⟩
      rw [if_pos (fr.1 hf)]
    · rw [if_neg (fun h => by rw [fr.2 h] at hf; cases hf)]
  refine ifP_beq.2 ⟨fun h4 => must_spec.mono ?_ ?_, fun h4 => must_spec.mono (fun u w5 hh => by cases hh.2.1) ?_⟩
  · rintro u w5 ⟨rfl, ht, rfl⟩
    have ht := of_decide_eq_true ht
    exact ⟨rfl, rest ⟨h4, by omega⟩⟩
  · rintro cs w5 ⟨ht, rfl, rfl⟩
    have ht := of_decide_eq_false ht
    exact ⟨_, by rw [eX, if_neg (by omega), if_pos (by omega)], rfl, Keep.ext x04⟩
  · rintro cs w5 ⟨_, rfl, rfl⟩
    exact ⟨_, by rw [eX, if_neg (by omega), if_pos (fun h => h4 h.1)], rfl, Keep.ext x04⟩

theorem net_spec (h : RAt w b k A n c a v) (hb : IBytes w A n xs) (hx : ∀ x ∈ xs, 0 ≤ x ∧ x ≤ 255) (hA : ∀ q, blk A q → q ≠ b) (hc : n ≤ c) (h0 : 0 ≤ a) (h1 : a ≤ 65535) (hn : n ≤ 65535) :
    RunE Try.prog 42 #[rp b] w (okR w b k A n c (netPX xs (a, v))) (erX w b (netPX xs (a, v))) := by
  have hl := hb.len
  refine frame_reader_net.ok ⟨_, rfl, a, h.c4, _, rfl, h.puta fun w1 r1 k1 => ?_⟩
  have b1 : IBytes w1 A n xs := hb.keep k1 fun q hq hb => hA _ ⟨q, hq, rfl⟩ hb
  have done : netX xs { v with a := a } = .ok { v with a := a } → okR w b k A n c (netPX xs (a, v)) (.tuple #[]) w1 := fun e => ⟨rfl, (a, { v with a := a }), by simp only [netPX]; rw [e], r1, k1⟩
  have go : ¬ (v.m = true ∧ v.b = false) → frame_reader_net.J0 (okR w b k A n c (netPX xs (a, v))) (erX w b (netPX xs (a, v))) (some ⟨b, 0, none⟩) false w1 := by
    intro hm
    have eN : netX xs { v with a := a } = if v.p = 33 ∨ v.p = 87 then ipX { v with a := a } xs else .ok { v with a := a } := by
      unfold netX; rw [if_neg hm]
    refine ifP_f rfl ⟨_, rfl, v.p, r1.v0, ifP_beq.2 ⟨fun h33 => ?_, fun h33 => ifP_beq.2 ⟨fun h87 => ?_, fun h87 => done (by rw [eN, if_neg (by omega)])⟩⟩⟩
    · rw [if_pos (.inl h33)] at eN
      refine (ip_spec r1 b1 hx hA hc h0 h1 hn rfl (by show v.p ≠ 87; omega)).mono ?_ ?_
      · rintro u w2 ⟨rfl, s, hs, r2, k2⟩
        exact ⟨rfl, rfl, s, by simp only [netPX]; rw [eN]; exact hs, r2, k1.trans' k2⟩
      · rintro cs w2 ⟨e, he, rfl, k2⟩
        exact ⟨e, by simp only [netPX]; rw [eN]; exact he, rfl, k1.trans' k2⟩
    · rw [if_pos (.inr h87)] at eN
      have eX : ipX { v with a := a } xs = if (xs.length : Int) < a + 40 then .error 72 else if xs.getD a.toNat 0 / 16 = 6 then .ok { v with a := a, n := 6, x := xs.getD (a + 6).toNat 0, l := a + 40 } else .error 76 := by
        unfold ipX; simp only []; rw [if_pos h87]
      refine (need_spec r1 h0 (by omega) (by omega)).mono ?_ ?_
      case refine_2 =>
        rintro cs w2 ⟨hm, rfl, x2⟩
        exact ⟨_, by simp only [netPX]; rw [eN, eX, if_pos (by omega)], rfl, k1.trans' (Keep.ext x2)⟩
      rintro u w2 ⟨rfl, hm2, x2⟩
      have r2 := r1.ext x2
      have b2 := b1.ext x2
      obtain ⟨p, hp2, hc0⟩ := IBytes.get b2 (j := a) h0 (by omega)
      have g0 := getD_byte hx a.toNat
      refine ⟨rfl, Ext w2, Ext.drew w2, letD fun w3 _ x3 => ⟨_, rfl, A, n, c, fun u hu => (r2.ext hu).c3, _, rfl, a, fun u hu => (r2.ext hu).c4, h0, by omega, p, hp2, _, fun u hu => hu.cell hc0, ?_⟩⟩
      rw [fdiv16 g0.1]
      refine must_spec.mono ?_ ?_
      case refine_2 =>
        rintro cs w4 ⟨ht, rfl, rfl⟩
        rw [beq_eq_false_iff_ne] at ht
        exact ⟨_, by simp only [netPX]; rw [eN, eX, if_neg (by omega), if_neg ht], rfl, k1.trans' (Keep.ext (x2.trans x3))⟩
      rintro u w4 ⟨rfl, ht, rfl⟩
      rw [beq_iff_eq] at ht
      have r3 := r2.ext x3
      have b3 := b2.ext x3
      obtain ⟨p, hp3, hc6⟩ := IBytes.get b3 (j := a + 6) (by omega) (by omega)
      have g6 := getD_byte hx (a + 6).toNat
      refine ⟨rfl, Ext w4, Ext.drew w4, letD fun w5 _ x5 => ?_⟩
      have r5 := r3.ext x5
      refine ⟨_, rfl, A, n, c, fun u hu => (r3.ext hu).c3, _, rfl, a, fun u hu => (r3.ext hu).c4, ?_⟩
      rw [wrap_i64 (x := a + 6) (by omega) (by omega)]
      refine ⟨by omega, by omega, p, hp3, _, fun u hu => hu.cell hc6, _, rfl, a, fun u hu => (r3.ext hu).c4, _, rfl, r5.putn fun w6 r6 k6 => ⟨_, rfl, r6.putx fun w7 r7 k7 => ⟨_, rfl, r7.putl fun w8 r8 k8 => ?_⟩⟩⟩
      rw [wrap_i64 (x := xs.getD (a + 6).toNat 0) (by omega) (by omega), wrap_i64 (x := a + 40) (by omega) (by omega)] at r8
      refine ⟨rfl, (_, _), ?_, r8, k1.trans' ((Keep.ext ((x2.trans x3).trans x5)).trans' (k6.trans' (k7.trans' k8)))⟩
      simp only [netPX]
      rw [eN, eX, if_neg (by omega), if_pos ht]
  refine ⟨_, rfl, v.m, r1.v1, ifP_of (fun hm => ⟨_, rfl, v.b, r1.v2, ?_⟩) fun hm => go (fun h => by rw [hm] at h; cases h.1)⟩
  cases hvb : v.b with
  | true => exact go (fun h => by rw [hvb] at h; cases h.2)
  | false => exact ifP_t rfl (done (by unfold netX; rw [if_pos ⟨hm, hvb⟩]))
end
end Go.Proofs.Ytgjabpgkiaojhaa
