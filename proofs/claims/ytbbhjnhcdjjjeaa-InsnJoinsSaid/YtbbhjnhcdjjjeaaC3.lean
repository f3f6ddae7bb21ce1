/- The statements over there and back, and over lists one behind the other. -/
import Derived.Test.YtbbhjnhcdjjjeaaC1
import Derived.Test.YtbbhjnhcdjjjeaaEncDec
import Derived.Test.YtbbhjnhcdjjjeaaWJoin2
namespace Go.Proofs.Ytbbhjnhcdjjjeaa
open Go.Rd Go.RowKit
set_option linter.unusedVariables false
set_option linter.unusedSimpArgs false

theorem decX_encX {n : Nat} {ps : List Ins} (hn : n ≤ 4096) (hl : ps.length = n) (hok : ∀ p ∈ ps, p.ok) : decX (8 * n) (ps.flatMap encI) = ps := by
  unfold decX
  rw [if_neg (by omega), if_neg (by omega), show 8 * n / 8 = n by omega, ← hl]
  exact decL_encL hok
theorem encL_bytes (ps : List Ins) : Bytes (ps.flatMap encI) := by
  intro x hx
  obtain ⟨p, _, hx⟩ := List.mem_flatMap.1 hx
  rw [encI_list] at hx
  simp only [List.mem_cons, List.not_mem_nil, or_false] at hx
  rcases hx with rfl | rfl | rfl | rfl | rfl | rfl | rfl | rfl <;> omega

theorem back_two {W : World} {B : Option Addr} {bn bc : Nat} {xb : List Int} (hb : IBytes W B bn xb) (hbb : Bytes xb) (hbn : bn ≤ 140737488351232) (w : World) (f : Fr W w) : law2_InsnBack.J2 (Good W) B bn bc w := by
  have hl := hb.len
  refine (copyBytes_spec (hb.fr f) (by omega)).mono ?_
  rintro v w1 ⟨A1, c1, rfl, o1, l1, b1, x1⟩
  have f1 := f.ext x1
  refine ⟨A1, _, c1, rfl, (decode_spec (o1.rd l1) (o1.len (by omega) (by rw [List.length_map, l1]; omega)) (by omega)).mono ?_⟩
  intro v w2 r2
  obtain ⟨A2, n2, c2, rfl, o2, l2, b2, x2⟩ := r2.res
  have f2 := f1.ext x2
  have last : ∀ w, Fr W w → Run Try.prog 15 #[] w fun v_3 w_4 => ∃ t98 : Bool, v_3 = .bool t98 ∧ law2_InsnBack.J3 (Good W) t98 w_4 := by
    intro w f
    refine awake_spec.mono ?_
    rintro v w' ⟨rfl, x⟩
    exact ⟨_, rfl, rfl, f.ext x⟩
  refine ⟨A2, _, c2, _, rfl, ifP_bne.2 ⟨fun hne => ?_, fun he => ?_⟩⟩
  · refine ifP_bne.2 ⟨fun _ => last w2 f2, fun h8 => ifP_decide.2 ⟨fun _ => last w2 f2, fun hm => ?_⟩⟩
    rw [tmod_pos (by omega)] at h8
    exfalso
    apply hne
    unfold decE
    rw [if_neg (by omega), if_neg (by omega)]
  · have h8 : bn % 8 = 0 := by
      refine Decidable.byContradiction fun h => ?_
      unfold decE at he
      rw [if_pos h] at he
      omega
    have hm : bn ≤ 32768 := by
      refine Decidable.byContradiction fun h => ?_
      unfold decE at he
      rw [if_neg (by omega), if_pos (by omega)] at he
      omega
    have ex : decX bn xb = decL xb (bn / 8) := by
      unfold decX
      rw [if_neg (by omega), if_neg (by omega)]
    rw [ex] at o2 l2
    have lk : n2 = bn / 8 := by rw [← l2, decL_length]
    refine (encode_spec (o2.rdM l2) (decL_ok hbb (by omega)) (by omega)).mono ?_
    intro v w3 r3
    obtain ⟨A3, n3, c3, rfl, o3, l3, b3, x3⟩ := EncOf.res l2 r3
    have f3 := f2.ext x3
    have e1 : encE n2 = 0 := by unfold encE; rw [if_neg (by omega)]
    have e2 : encX n2 (decL xb (bn / 8)) = xb := by
      unfold encX
      rw [if_neg (by omega), encL_decL hbb _ (by omega), List.take_of_length_le (by omega)]
    rw [e2] at o3 l3
    refine ⟨A3, _, c3, _, rfl, ifP_eq e1 ((sameBytes_spec (o3.rd l3) (hb.fr f3) (by omega)).mono ?_)⟩
    rintro v w4 ⟨rfl, x4⟩
    refine ⟨_, rfl, ifP_t (by simp) (awake_spec.mono ?_)⟩
    rintro v w5 ⟨rfl, x5⟩
    exact ⟨_, rfl, rfl, (f3.ext x4).ext x5⟩

theorem InsnBack_main {W : World} {A B : Option Addr} {n c bn bc : Nat} {ps : List Ins} {xb : List Int} (h : IInsns W A n ps) (hok : ∀ p ∈ ps, p.ok) (hn : n * 8 ≤ 140737488351232) (hb : IBytes W B bn xb) (hbb : Bytes xb) (hbn : bn ≤ 140737488351232) :
    Run Try.prog 5 #[.slice A n c, .slice B bn bc] W (Good W) := by
  have hl := h.len
  have two := back_two (bc := bc) hb hbb hbn
  refine law2_InsnBack.ok ((copyInsns_spec h (by omega)).mono ?_)
  rintro v w1 ⟨A1, c1, rfl, o1, l1, b1, x1⟩
  have f1 := (Fr.refl W).ext x1
  refine ⟨A1, _, c1, rfl, (encode_spec (o1.rdM l1) hok (by omega)).mono ?_⟩
  intro v w2 r2
  obtain ⟨A2, n2, c2, rfl, o2, l2, b2, x2⟩ := EncOf.res l1 r2
  have f2 := f1.ext x2
  by_cases hm : 4096 < n
  · have e1 : encE n = 21 := by unfold encE; rw [if_pos hm]
    refine ⟨A2, _, c2, _, rfl, ifP_f ?_ (ifP_neq (by rw [e1]; decide) (two w2 f2))⟩
    rw [e1, decide_eq_false (by omega)]
    rfl
  · have e1 : encE n = 0 := by unfold encE; rw [if_neg hm]
    have e2 : encX n ps = ps.flatMap encI := by unfold encX; rw [if_neg hm]
    rw [e2] at o2 l2
    have l2' : n2 = 8 * n := by rw [← l2, encL_length, hl]
    subst l2'
    have i2 : ∀ {u}, Ext w2 u → IBytes u A2 (8 * n) (ps.flatMap encI) := fun xu => (o2.ext xu).rd l2
    have hc2 : 8 * n ≤ c2 := o2.len (by omega) (by rw [List.length_map, l2]; omega)
    refine ⟨A2, _, c2, _, rfl, ifP_f ?_ (ifP_eq e1 ((copyBytes_spec (i2 (Ext.refl _)) (by omega)).mono ?_))⟩
    · rw [e1, decide_eq_true (by omega)]
      rfl
    rintro v w3 ⟨A3, c3, rfl, o3, l3, b3, x3⟩
    have f3 := f2.ext x3
    refine ⟨A3, _, c3, rfl, (decode_spec (o3.rd l3) (o3.len (by omega) (by rw [List.length_map, l3]; omega)) (by omega)).mono ?_⟩
    intro v w4 r4
    obtain ⟨A4, n4, c4, rfl, o4, l4, b4, x4⟩ := r4.res
    have f4 := f3.ext x4
    have e3 : decE (8 * n) = 0 := by unfold decE; rw [if_neg (by omega), if_neg (by omega)]
    rw [decX_encX (by omega) hl hok] at o4 l4
    refine ⟨A4, _, c4, _, rfl, ifP_nne e3 (ifP_nne (by rw [wrap_i64 (by omega) (by omega)]; omega) ((sameInsns_spec (o4.rdM l4) (h.fr f4) (by omega)).mono ?_))⟩
    rintro v w5 ⟨rfl, x5⟩
    have f5 := f4.ext x5
    have x25 := (x3.trans x4).trans x5
    refine ⟨_, rfl, ?_⟩
    have e0 : (!decide (ps = ps)) = false := by simp
    rw [e0]
    refine ifP_f rfl (ifP_decide.2 ⟨fun hpos => ?_, fun _ => two w5 f5⟩)
    rw [wrap_i64 (by omega) (by omega), subA_zero]
    refine ⟨by omega, by omega, by omega, ?_⟩
    rw [show Int.toNat (((8 * n : Nat) : Int) - 1) - 0 = 8 * n - 1 by omega]
    have i6 : IBytes w5 A2 (8 * n - 1) ((ps.flatMap encI).take (8 * n - 1)) := by
      have := ((i2 x25).cells).take (8 * n - 1)
      rw [← List.map_take] at this
      exact this.rd (by rw [List.length_take, l2]; omega)
    refine (copyBytes_spec i6 (by omega)).mono ?_
    rintro v w6 ⟨A6, c6, rfl, o6, l6, b6, x6⟩
    have f6 := f5.ext x6
    refine ⟨A6, _, c6, rfl, (decode_spec (o6.rd l6) (o6.len (by omega) (by rw [List.length_map, l6]; omega)) (by omega)).mono ?_⟩
    intro v w7 r7
    obtain ⟨A7, n7, c7, rfl, o7, l7, b7, x7⟩ := r7.res
    have f7 := f6.ext x7
    refine ⟨A7, _, c7, _, rfl, (copyBytes_spec (i2 ((x25.trans x6).trans x7)) (by omega)).mono ?_⟩
    rintro v w8 ⟨A8, c8, rfl, o8, l8, b8, x8⟩
    have f8 := f7.ext x8
    refine ⟨A8, _, c8, rfl, letA fun w9 h9 x9 s9 => ?_⟩
    have f9 := f8.ext x9
    have hB : RdC w9 (some (newA w8)) ([0].map (Value.int .u8)) := by have := lit_bytes (xs := [0]) h9 rfl; exact this.cells
    obtain ⟨A10, c10, w10, r10, o10, hc10, k10, n10⟩ := append_own slBytes (ty := 23) (n := 8 * n) (d := 1) (o8.ext x9) (by rw [List.length_map, l8]; omega) hB (m := 1) rfl rfl (by omega) (by omega)
    have f10 := f9.blk k10 fun k hk => by have := b8 k hk; have := f7.size; omega
    have o10 : OBytes w10 A10 c10 (ps.flatMap encI ++ [0]) := by rw [OBytes, List.map_append]; exact o10
    refine ⟨_, w10, r10, A10, _, c10, rfl, (decode_spec (n := 8 * n + 1) (o10.rd (by rw [List.length_append, l2]; rfl)) hc10 (by omega)).mono ?_⟩
    intro v w11 r11
    obtain ⟨A11, n11, c11, rfl, o11, l11, b11, x11⟩ := r11.res
    have f11 := f10.ext x11
    have e4 : decE (8 * n - 1) = 20 := by unfold decE; rw [if_pos (by omega)]
    have e5 : decE (8 * n + 1) = 20 := by unfold decE; rw [if_pos (by omega)]
    refine ⟨A11, _, c11, _, rfl, ifP_nne e4 ?_⟩
    have e6 : (decE (8 * n + 1) != 20) = false := by rw [e5]; rfl
    rw [e6]
    exact ifP_f rfl (two w11 f11)

/-- Two lists of instructions, the second behind a copy of the first. -/
theorem behind {w : World} {A B : Option Addr} {n m c d : Nat} {ps qs : List Ins} (o : OInsns w A c ps) (hl : ps.length = n) (hq : IInsns w B m qs) (hn : n + m ≤ 100000000) :
    ∃ A' c' w', (Builtin.append_ #[22, 22] 22 #[.slice A n c, .slice B m d]).run Try.prog w = .ok (.slice A' (n + m) c') w' ∧ OInsns w' A' c' (ps ++ qs) ∧ Keep (blk A) w w' ∧ (∀ k, blk A' k → blk A k ∨ w.heap.size ≤ k) := by
  obtain ⟨A', c', w', hr, o', _, k', n'⟩ := append_own slInsns (ty := 22) (n := n) (d := d) o (by rw [flat_len Ins.len, hl]) hq.2 (m := m) (by rw [flat_len Ins.len, hq.1]) (Ins.isCell _) (by omega) (by omega)
  exact ⟨A', c', w', hr, by rw [OInsns, List.flatMap_append]; exact o', k', n'⟩

theorem InsnJoins_main {W : World} {A B : Option Addr} {n c m d : Nat} {ps qs : List Ins} (h : IInsns W A n ps) (hok : ∀ p ∈ ps, p.ok) (hq : IInsns W B m qs) (hqk : ∀ p ∈ qs, p.ok) :
    Run Try.prog 6 #[.slice A n c, .slice B m d] W (Good W) := by
  have hl := h.len
  have hm := hq.len
  have last : ∀ w, Fr W w → ∀ v_2, v_2 = true → Run Try.prog 15 #[] w fun v w_2 => ∃ t21 : Bool, v = .bool t21 ∧ Good W (.bool t21) w_2 := by
    intro w f _ _
    refine awake_spec.mono ?_
    rintro v w' ⟨rfl, x⟩
    exact ⟨_, rfl, rfl, f.ext x⟩
  have main : n ≤ 2048 → m ≤ 2048 → law2_InsnJoins.J0 (Good W) A n c B m d false W := by
    intro hn2 hm2
    have hok2 : ∀ p ∈ ps ++ qs, p.ok := fun p hp => (List.mem_append.1 hp).elim (hok p) (hqk p)
    have hl2 : (ps ++ qs).length = n + m := by simp [hl, hm]
    have ee : ∀ k, k ≤ 4096 → encE k = 0 := fun k hk => by unfold encE; rw [if_neg (by omega)]
    have ex : ∀ k ps, k ≤ 4096 → encX k ps = ps.flatMap encI := fun k ps hk => by unfold encX; rw [if_neg (by omega)]
    refine ifP_f rfl ((copyInsns_spec h (by omega)).mono ?_)
    rintro v w1 ⟨A1, c1, rfl, o1, l1, b1, x1⟩
    have f1 := (Fr.refl W).ext x1
    refine ⟨A1, _, c1, rfl, (encode_spec (o1.rdM l1) hok (by omega)).mono ?_⟩
    intro v w2 r2
    obtain ⟨A2, n2, c2, rfl, o2, l2, b2, x2⟩ := EncOf.res l1 r2
    have f2 := f1.ext x2
    rw [ex n ps (by omega)] at o2 l2
    refine ⟨A2, _, c2, _, rfl, (copyInsns_spec (hq.fr f2) (by omega)).mono ?_⟩
    rintro v w3 ⟨A3, c3, rfl, o3, l3, b3, x3⟩
    have f3 := f2.ext x3
    refine ⟨A3, _, c3, rfl, (encode_spec (o3.rdM l3) hqk (by omega)).mono ?_⟩
    intro v w4 r4
    obtain ⟨A4, n4, c4, rfl, o4, l4, b4, x4⟩ := EncOf.res l3 r4
    have f4 := f3.ext x4
    rw [ex m qs (by omega)] at o4 l4
    refine ⟨A4, _, c4, _, rfl, (copyInsns_spec (h.fr f4) (by omega)).mono ?_⟩
    rintro v w5 ⟨A5, c5, rfl, o5, l5, b5, x5⟩
    have f5 := f4.ext x5
    obtain ⟨A6, c6, w6, r6, o6, k6, n6⟩ := behind (d := d) o5 l5 (hq.fr f5) (by omega)
    have f6 := f5.blk k6 fun k hk => by have := b5 k hk; have := f4.size; omega
    have x46 : Ext w4 w6 := x5.fresh k6 fun k hk => b5 k hk
    refine ⟨A5, _, c5, rfl, _, w6, r6, A6, _, c6, rfl, (encode_spec (o6.rdM hl2) hok2 (by omega)).mono ?_⟩
    intro v w7 r7
    obtain ⟨A7, n7, c7, rfl, o7, l7, b7, x7⟩ := EncOf.res hl2 r7
    have f7 := f6.ext x7
    rw [ex (n + m) _ (by omega), List.flatMap_append] at o7 l7
    have ln2 : n2 = 8 * n := by rw [← l2, encL_length, hl]
    have ln4 : n4 = 8 * m := by rw [← l4, encL_length, hm]
    have ln7 : n7 = 8 * n + 8 * m := by rw [← l7, List.length_append, l2, l4]; omega
    have x47 := x46.trans x7
    have x27 := (x3.trans x4).trans x47
    refine ⟨A7, _, c7, _, rfl, letA fun w8 h8 x8 s8 => ?_⟩
    have f8 := f7.ext x8
    have i8 : Rd Part.v w8 (some (newA w7)) 2 [⟨A2, n2, c2, ps.flatMap encI⟩, ⟨A4, n4, c4, qs.flatMap encI⟩] := lit_rd h8 rfl
    refine (join_two i8 ((o2.ext (x27.trans x8)).rd l2) ((o4.ext (x47.trans x8)).rd l4) (by show n2 + n4 ≤ _; omega)).mono ?_
    rintro v w9 ⟨A9, c9, rfl, o9, l9, b9, x9⟩
    dsimp only at o9 l9
    have f9 := f8.ext x9
    refine ⟨A9, _, c9, rfl, (decode_spec (n := n2 + n4) (o9.rd l9) (o9.len (by omega) (by rw [List.length_map, l9]; omega)) (by omega)).mono ?_⟩
    intro v w10 r10
    obtain ⟨A10, n10, c10, rfl, o10, l10, b10, x10⟩ := r10.res
    have f10 := f9.ext x10
    have e10 : decE (n2 + n4) = 0 := by unfold decE; rw [if_neg (by omega), if_neg (by omega)]
    have d10 : decX (n2 + n4) (ps.flatMap encI ++ qs.flatMap encI) = ps ++ qs := by
      rw [← List.flatMap_append, show n2 + n4 = 8 * (n + m) by omega]
      exact decX_encX (by omega) hl2 hok2
    rw [d10] at o10 l10
    refine ⟨A10, _, c10, _, rfl, ifP_eq (ee n (by omega)) (ifP_eq (ee m (by omega)) (ifP_eq (ee (n + m) (by omega)) (ifP_eq e10 (letA fun w11 h11 x11 s11 => ?_))))⟩
    have f11 := f10.ext x11
    have x711 := ((x8.trans x9).trans x10).trans x11
    have i11 : Rd Part.v w11 (some (newA w10)) 2 [⟨A2, n2, c2, ps.flatMap encI⟩, ⟨A4, n4, c4, qs.flatMap encI⟩] := lit_rd h11 rfl
    refine (join_two i11 ((o2.ext (x27.trans x711)).rd l2) ((o4.ext (x47.trans x711)).rd l4) (by show n2 + n4 ≤ _; omega)).mono ?_
    rintro v w12 ⟨A12, c12, rfl, o12, l12, b12, x12⟩
    dsimp only at o12 l12
    have f12 := f11.ext x12
    refine ⟨A12, _, c12, rfl, (sameBytes_spec ((o7.ext (x711.trans x12)).rd l7) (o12.rd l12) (by omega)).mono ?_⟩
    rintro v w13 ⟨rfl, x13⟩
    have f13 := f12.ext x13
    refine ⟨_, rfl, ifP_t (by simp) ((copyInsns_spec (h.fr f13) (by omega)).mono ?_)⟩
    rintro v w14 ⟨A14, c14, rfl, o14, l14, b14, x14⟩
    have f14 := f13.ext x14
    obtain ⟨A15, c15, w15, r15, o15, k15, n15⟩ := behind (d := d) o14 l14 (hq.fr f14) (by omega)
    have f15 := f14.blk k15 fun k hk => by have := b14 k hk; have := f13.size; omega
    have x1015 : Ext w10 w15 := (((x11.trans x12).trans x13).trans x14).fresh k15 fun k hk => by have := b14 k hk; have := ((x11.trans x12).trans x13).size; omega
    refine ⟨A14, _, c14, rfl, _, w15, r15, A15, _, c15, rfl, (sameInsns_spec ((o10.ext x1015).rdM l10) (o15.rdM hl2) (by rw [← l10, hl2]; omega)).mono ?_⟩
    rintro v w16 ⟨rfl, x16⟩
    refine ⟨_, rfl, ifP_t (by simp) (awake_spec.mono ?_)⟩
    rintro v w17 ⟨rfl, x17⟩
    exact ⟨_, rfl, rfl, (f15.ext x16).ext x17⟩
  refine law2_InsnJoins.ok (ifP_decide.2 ⟨fun _ => ?_, fun hn2 => ?_⟩)
  · exact ifP_t rfl (last W (Fr.refl W) true rfl)
  · by_cases hm2 : ((m : Nat) : Int) > 2048
    · rw [decide_eq_true hm2]
      exact ifP_t rfl (last W (Fr.refl W) true rfl)
    · rw [decide_eq_false hm2]
      exact main (by omega) (by omega)
end Go.Proofs.Ytbbhjnhcdjjjeaa
