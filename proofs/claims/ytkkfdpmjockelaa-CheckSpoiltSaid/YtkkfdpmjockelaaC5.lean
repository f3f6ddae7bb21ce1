/- The statements over programs that are taken: with others ahead or behind, spoilt. -/
import Derived.Test.YtkkfdpmjockelaaC4
import Derived.Test.YtkkfdpmjockelaaLow
namespace Go.Proofs.Ytkkfdpmjockelaa
open Go.Rd Go.RowKit
set_option linter.unusedVariables false
set_option linter.unusedSimpArgs false

theorem jumpBad_mono {i : Ins} {a b : Int} (h : jumpBad i a = false) (hab : a ≤ b) : jumpBad i b = false := by
  unfold jumpBad at h ⊢
  split
  · rename_i h5
    rw [if_pos h5] at h
    split
    · rename_i hc
      rw [if_pos hc] at h
      have := of_decide_eq_false h
      exact decide_eq_false (by omega)
    · rename_i hc
      rw [if_neg hc] at h
      simp only [Bool.or_eq_false_iff, decide_eq_false_iff_not] at h ⊢
      omega
  · rfl
theorem endsRet_append {xs ys : List Ins} (h : endsRet ys = true) : endsRet (xs ++ ys) = true := by
  unfold endsRet at h ⊢
  cases hy : ys.getLast? with
  | none => rw [hy] at h; cases h
  | some y => rw [hy] at h; rw [List.getLast?_append, hy]; exact h

theorem Taken.append {xs ys : List Ins} (hx : ∀ (k : Nat) (x : Ins), xs[k]? = some x → faultOf x = 0 ∧ jumpBad x ((xs.length : Int) - 1 - k) = false) (hy : Taken ys) (hl : xs.length + ys.length ≤ 4096) : Taken (xs ++ ys) := by
  refine ⟨by rw [List.length_append]; have := hy.pos; omega, by rw [List.length_append]; exact hl, fun k x hk => ?_, endsRet_append hy.ret⟩
  rw [List.length_append]
  by_cases h : k < xs.length
  · rw [List.getElem?_append_left h] at hk
    exact ⟨(hx k x hk).1, jumpBad_mono (hx k x hk).2 (by omega)⟩
  · rw [List.getElem?_append_right (by omega)] at hk
    have := hy.at_ _ x hk
    refine ⟨this.1, ?_⟩
    rw [show (((xs.length + ys.length : Nat) : Int) - 1 - k) = (ys.length : Int) - 1 - ((k - xs.length : Nat) : Int) by omega]
    exact this.2

/-- The four instructions that are laid ahead. -/
def aheadL (k : Int) : List Ins := [⟨0, 0, 0, k⟩, ⟨7, 0, 0, 0⟩, ⟨2, 0, 0, andI .u32 k 15⟩, ⟨12, 0, 0, 0⟩]
theorem and15 (k : Int) : andI .u32 k 15 = k % 16 := by
  unfold andI
  have e : (BitVec.ofInt IntKind.u32.bits k &&& BitVec.ofInt IntKind.u32.bits 15).toNat = (k % 4294967296).toNat % 16 := by
    rw [BitVec.toNat_and, toNat_ofInt, toNat_ofInt]
    exact Nat.and_two_pow_sub_one_eq_mod (n := 4) _
  rw [e, wrap_u32 (by omega) (by omega)]
  omega
theorem Ins.ok_of {c t f k : Int} (h : (0 ≤ c ∧ c ≤ 65535) ∧ (0 ≤ t ∧ t ≤ 255) ∧ (0 ≤ f ∧ f ≤ 255)) (h0 : 0 ≤ k) (h1 : k ≤ 4294967295) : Ins.ok ⟨c, t, f, k⟩ := ⟨h.1, h.2.1, h.2.2, h0, h1⟩
theorem aheadL_ok {k : Int} (h0 : 0 ≤ k) (h1 : k ≤ 4294967295) : Inss (aheadL k) := by
  intro i hi
  unfold aheadL at hi
  rw [and15] at hi
  simp only [List.mem_cons, List.not_mem_nil, or_false] at hi
  rcases hi with rfl | rfl | rfl | rfl
  · exact Ins.ok_of (by decide) h0 h1
  · simp [Ins.ok]
  · exact Ins.ok_of (by decide) (by omega) (by omega)
  · simp [Ins.ok]
theorem aheadL_at {k : Int} : ∀ (j : Nat) (x : Ins), (aheadL k)[j]? = some x → faultOf x = 0 ∧ jumpBad x (((aheadL k).length : Int) - 1 - j) = false := by
  intro j x hx
  have hb : ∀ l, classOf x.c ≠ 5 → jumpBad x l = false := fun l h => by unfold jumpBad; rw [if_neg h]
  unfold aheadL at hx
  rw [and15] at hx
  match j, hx with
  | 0, hx =>
    obtain rfl : _ = x := by simpa using hx
    refine ⟨?_, hb _ (by show classOf 0 ≠ 5; decide +kernel)⟩
    unfold faultOf
    rw [if_pos (by show isKnown 0 = true; decide +kernel), if_neg (by simp [wordsL]), if_neg (by simp), if_neg (by simp)]
  | 1, hx =>
    obtain rfl : _ = x := by simpa using hx
    exact ⟨by decide +kernel, hb _ (by show classOf 7 ≠ 5; decide +kernel)⟩
  | 2, hx =>
    obtain rfl : _ = x := by simpa using hx
    refine ⟨?_, hb _ (by show classOf 2 ≠ 5; decide +kernel)⟩
    unfold faultOf
    rw [if_pos (by show isKnown 2 = true; decide +kernel), if_neg (by show ¬ (_ ∧ 16 ≤ k % 16); omega), if_neg (by simp), if_neg (by simp)]
  | 3, hx =>
    obtain rfl : _ = x := by simpa using hx
    exact ⟨by decide +kernel, hb _ (by show classOf 12 ≠ 5; decide +kernel)⟩
  | (j + 4), hx => simp at hx

theorem CheckAhead_main {W : World} {A B : Option Addr} {n m c d : Nat} {xs ys : List Ins} {k : Int} (h : IInsns W A n xs) (hi : Inss xs) (hn : n * 8 ≤ 140737488351232) (g : IInsns W B m ys) (gi : Inss ys) (hm : m * 8 ≤ 140737488351232) (k0 : 0 ≤ k) (k1 : k ≤ 4294967295) :
    Run Try.prog 6 #[.slice A n c, .slice B m d, .int .u32 k] W (Good W) := by
  have hl := h.len
  have gl := g.len
  refine law4_CheckAhead.ok ((copyInsns_spec h (by omega)).mono ?_)
  rintro v w1 ⟨A1, c1, rfl, o1, l1, b1, x1⟩
  have f1 := Fr.of_ext x1
  refine ⟨_, _, _, rfl, (check_spec (o1.rdM l1) hi (by omega)).mono ?_⟩
  rintro v w2 ⟨rfl, x2⟩
  have f2 := f1.ext x2
  refine ⟨_, _, rfl, (copyInsns_spec (g.fr f2) (by omega)).mono ?_⟩
  rintro v w3 ⟨A3, c3, rfl, o3, l3, b3, x3⟩
  have f3 := f2.ext x3
  refine ⟨_, _, _, rfl, (check_spec (o3.rdM l3) gi (by omega)).mono ?_⟩
  rintro v w4 ⟨rfl, x4⟩
  have f4 := f3.ext x4
  have yes : law4_CheckAhead.J0 (Good W) A n c B m d k true w4 := by
    refine ifP_t rfl (awake_spec.mono ?_)
    rintro v w5 ⟨rfl, x5⟩
    exact ⟨_, rfl, rfl, f4.ext x5⟩
  refine ⟨_, _, rfl, ifP_bne.2 ⟨fun _ => yes, fun e1 => ifP_bne.2 ⟨fun _ => yes, fun e2 => ?_⟩⟩⟩
  obtain ⟨T1, _⟩ := taken_of e1
  obtain ⟨T2, _⟩ := taken_of e2
  have p1 := T1.le
  have p2 := T2.le
  rw [wrap_i64 (by omega) (by omega)]
  by_cases hlong : (n : Int) + m > 4092
  · rw [decide_eq_true hlong]; exact yes
  rw [decide_eq_false hlong]
  refine ifP_f rfl (letA fun w5 h5 x5 s5 => ?_)
  have f5 := f4.ext x5
  have o5 : OInsns w5 (some (newA w4)) 4 (aheadL k) := lit_insns (xs := aheadL k) h5 rfl
  obtain ⟨A6, c6, w6, hr6, o6, hc6, k6, b6⟩ := append_own slInsns (ty := 22) (n := 4) (d := c) o5 rfl ((h.fr f5).2) (m := n) (by rw [flat_len Ins.len, hl]) (Ins.isCell xs) (by omega) (by omega)
  have f6 : Fr W w6 := f5.blk k6 fun k hk => by rw [blk_some.1 hk]; exact f4.size
  have o6 : OInsns w6 A6 c6 (aheadL k ++ xs) := by rw [OInsns, List.flatMap_append]; exact o6
  have i6 : Inss (aheadL k ++ xs) := fun i hi' => (List.mem_append.1 hi').elim (aheadL_ok k0 k1 i) (hi i)
  refine ⟨_, w6, hr6, _, _, _, rfl, (check_spec (o6.rdM (by rw [List.length_append, hl]; rfl)) i6 (by omega)).mono ?_⟩
  rintro v w7 ⟨rfl, x7⟩
  have f7 := f6.ext x7
  refine ⟨_, _, rfl, (copyInsns_spec (h.fr f7) (by omega)).mono ?_⟩
  rintro v w8 ⟨A8, c8, rfl, o8, l8, b8, x8⟩
  have f8 := f7.ext x8
  obtain ⟨A9, c9, w9, hr9, o9, hc9, k9, b9⟩ := append_own slInsns (ty := 22) (n := n) (d := d) o8 (by rw [flat_len Ins.len, hl]) ((g.fr f8).2) (m := m) (by rw [flat_len Ins.len, gl]) (Ins.isCell ys) (by omega) (by omega)
  have f9 : Fr W w9 := f8.blk k9 fun k hk => by have := b8 k hk; have := f7.size; omega
  have o9 : OInsns w9 A9 c9 (xs ++ ys) := by rw [OInsns, List.flatMap_append]; exact o9
  have i9 : Inss (xs ++ ys) := fun i hi' => (List.mem_append.1 hi').elim (hi i) (gi i)
  refine ⟨_, _, _, rfl, _, w9, hr9, _, _, _, rfl, (check_spec (o9.rdM (by rw [List.length_append, hl, gl])) i9 (by omega)).mono ?_⟩
  rintro v w10 ⟨rfl, x10⟩
  have e3 : checkV (aheadL k ++ xs) = (0, 0) := (Taken.append aheadL_at T1 (by show 4 + _ ≤ _; omega)).check
  have e4 : checkV (xs ++ ys) = (0, 0) := (Taken.append (fun j x hx => T1.at_ j x hx) T2 (by omega)).check
  rw [e3, e4]
  refine ⟨_, _, rfl, ifP_eq rfl (ifP_eq rfl (awake_spec.mono ?_))⟩
  rintro v w11 ⟨rfl, x11⟩
  exact ⟨_, rfl, rfl, (f9.ext x10).ext x11⟩

/-! ## Spoilt -/

/-- The instructions that spoil a program of n. -/
def badL (n : Nat) (k : Int) : List Ins := [⟨8, 0, 0, k⟩, ⟨3, 0, 0, maxI k 16⟩, ⟨148, 0, 0, 0⟩, ⟨116, 0, 0, maxI k 32⟩, ⟨5, 0, 0, maxI k (IntKind.u32.wrap n)⟩, ⟨77, 0, 255, 0⟩]
def codesL : List Int := [42, 43, 44, 45, 46, 46]

theorem maxI_ge (a b : Int) : a ≤ maxI a b ∧ b ≤ maxI a b ∧ (maxI a b = a ∨ maxI a b = b) := by unfold maxI; split <;> omega

theorem OInsns.rdM' {w : World} {A : Option Addr} {n c : Nat} {xs : List Ins} (h : Own 39 4 w A c (xs.flatMap Ins.v)) (hn : xs.length = n) : IInsns w A n xs := h.rdM hn

theorem bad_wrong {n i : Nat} {k : Int} (hi : i < n) (hn : n ≤ 4096) {j : Nat} {x : Ins} {e : Int} (hx : (badL n k)[j]? = some x) (he : codesL[j]? = some e) (h5 : j = 5 → n ≤ 200) : wrongAt n i x = e := by
  have m16 := maxI_ge k 16
  have m32 := maxI_ge k 32
  have mn := maxI_ge k (IntKind.u32.wrap n)
  have ew : IntKind.u32.wrap (n : Int) = n := wrap_u32 (by omega) (by omega)
  unfold badL at hx
  unfold codesL at he
  match j, hx, he with
  | 0, hx, he =>
    obtain rfl : _ = x := by simpa using hx
    obtain rfl : _ = e := by simpa using he
    have : faultOf ⟨8, 0, 0, k⟩ = 42 := by unfold faultOf; rw [if_neg (by show ¬ isKnown 8 = true; decide +kernel)]
    unfold wrongAt; rw [this, if_pos (by decide)]
  | 1, hx, he =>
    obtain rfl : _ = x := by simpa using hx
    obtain rfl : _ = e := by simpa using he
    have : faultOf ⟨3, 0, 0, maxI k 16⟩ = 43 := by unfold faultOf; rw [if_pos (by show isKnown 3 = true; decide +kernel), if_pos ⟨by show (3 : Int) ∈ wordsL; decide, m16.2.1⟩]
    unfold wrongAt; rw [this, if_pos (by decide)]
  | 2, hx, he =>
    obtain rfl : _ = x := by simpa using hx
    obtain rfl : _ = e := by simpa using he
    have : faultOf ⟨148, 0, 0, 0⟩ = 44 := by decide +kernel
    unfold wrongAt; rw [this, if_pos (by decide)]
  | 3, hx, he =>
    obtain rfl : _ = x := by simpa using hx
    obtain rfl : _ = e := by simpa using he
    have : faultOf ⟨116, 0, 0, maxI k 32⟩ = 45 := by
      unfold faultOf; rw [if_pos (by show isKnown 116 = true; decide +kernel), if_neg (fun h => by have : (116 : Int) ∈ wordsL := h.1; revert this; decide), if_neg (fun h => by have : (116 : Int) = 52 ∨ (116 : Int) = 148 := h.1; revert this; decide), if_pos ⟨.inr rfl, by show 31 < maxI k 32; omega⟩]
    unfold wrongAt; rw [this, if_pos (by decide)]
  | 4, hx, he =>
    obtain rfl : _ = x := by simpa using hx
    obtain rfl : _ = e := by simpa using he
    have h0 : faultOf ⟨5, 0, 0, maxI k (IntKind.u32.wrap n)⟩ = 0 := by
      unfold faultOf; rw [if_pos (by show isKnown 5 = true; decide +kernel), if_neg (fun h => by have : (5 : Int) ∈ wordsL := h.1; revert this; decide), if_neg (fun h => by have : (5 : Int) = 52 ∨ (5 : Int) = 148 := h.1; revert this; decide), if_neg (fun h => by have : (5 : Int) = 100 ∨ (5 : Int) = 116 := h.1; revert this; decide)]
    unfold wrongAt
    rw [if_neg (by rw [h0]; decide), if_pos]
    unfold jumpBad
    rw [if_pos (by show classOf 5 = 5; decide +kernel), if_pos rfl, decide_eq_true_eq]
    show _ ≤ maxI k (IntKind.u32.wrap n)
    omega
  | 5, hx, he =>
    obtain rfl : _ = x := by simpa using hx
    obtain rfl : _ = e := by simpa using he
    have := h5 rfl
    have h0 : faultOf ⟨77, 0, 255, 0⟩ = 0 := by decide +kernel
    unfold wrongAt
    rw [if_neg (by rw [h0]; decide), if_pos]
    unfold jumpBad
    rw [if_pos (by show classOf 77 = 5; decide +kernel), if_neg (by decide), Bool.or_eq_true, decide_eq_true_eq, decide_eq_true_eq]
    exact .inr (by show _ ≤ (255 : Int); omega)
  | (j + 6), hx, he => simp at hx
theorem badL_ok {n : Nat} {k : Int} (h0 : 0 ≤ k) (h1 : k ≤ 4294967295) (hn : n ≤ 4096) : Inss (badL n k) := by
  have m16 := maxI_ge k 16
  have m32 := maxI_ge k 32
  have mn := maxI_ge k (IntKind.u32.wrap n)
  have ew : IntKind.u32.wrap (n : Int) = n := wrap_u32 (by omega) (by omega)
  intro i hi
  unfold badL at hi
  simp only [List.mem_cons, List.not_mem_nil, or_false] at hi
  rcases hi with rfl | rfl | rfl | rfl | rfl | rfl
  · exact Ins.ok_of (by decide) h0 h1
  · exact Ins.ok_of (by decide) (by omega) (by omega)
  · simp [Ins.ok]
  · exact Ins.ok_of (by decide) (by omega) (by omega)
  · exact Ins.ok_of (by decide) (by omega) (by omega)
  · simp [Ins.ok]

/-- With one instruction spoilt: the place and the error. -/
theorem Taken.spoilt {xs : List Ins} (T : Taken xs) {i : Nat} (hi : i < xs.length) {x : Ins} {e : Int} (hw : wrongAt xs.length i x = e) (he : e ≠ 0) : checkV (xs.set i x) = ((i : Int), e) := by
  have h0 := T.pos
  have h1 := T.le
  have key : wrongFrom (xs.set i x).length 0 (xs.set i x) = some (0 + (i : Int), wrongAt (xs.set i x).length (0 + i) x) := by
    refine wrongFrom_some (by rw [List.getElem?_set_self hi]) (by rw [List.length_set, Int.zero_add, hw]; exact he) fun j y hj hy => ?_
    rw [List.getElem?_set_ne (by omega)] at hy
    rw [List.length_set, Int.zero_add]
    exact wrongAt_of (T.at_ j y hy).1 (T.at_ j y hy).2
  unfold checkV
  rw [if_neg (by rw [List.length_set]; omega), if_neg (by rw [List.length_set]; omega), key, List.length_set, Int.zero_add, hw]
theorem Taken.endless {xs : List Ins} (T : Taken xs) : checkV (xs.set (xs.length - 1) ⟨132, 0, 0, 0⟩) = ((xs.length : Int) - 1, 47) := by
  have h0 := T.pos
  have h1 := T.le
  have hl : (xs.set (xs.length - 1) (⟨132, 0, 0, 0⟩ : Ins)).length = xs.length := List.length_set
  have key : wrongFrom (xs.set (xs.length - 1) ⟨132, 0, 0, 0⟩).length 0 (xs.set (xs.length - 1) ⟨132, 0, 0, 0⟩) = none := by
    refine wrongFrom_of fun j y hy => ?_
    rw [Int.zero_add, hl]
    by_cases hj : xs.length - 1 = j
    · subst hj
      rw [List.getElem?_set_self (by omega)] at hy
      obtain rfl := Option.some.inj hy
      exact wrongAt_of (by decide +kernel) (by unfold jumpBad; rw [if_neg (by show classOf 132 ≠ 5; decide +kernel)])
    · rw [List.getElem?_set_ne hj] at hy
      exact wrongAt_of (T.at_ j y hy).1 (T.at_ j y hy).2
  have hlast : endsRet (xs.set (xs.length - 1) ⟨132, 0, 0, 0⟩) = false := by
    unfold endsRet
    rw [getLast_at hl (x := ⟨132, 0, 0, 0⟩) (by rw [List.getElem?_set_self (by omega)])]
    decide +kernel
  unfold checkV
  rw [if_neg (by omega), if_neg (by omega), key, hlast, hl]
  rfl

theorem CheckSpoilt_main {W : World} {A : Option Addr} {n c : Nat} {xs : List Ins} {at_ k : Int} (h : IInsns W A n xs) (hi : Inss xs) (hn : n * 8 ≤ 140737488351232) (k0 : 0 ≤ k) (k1 : k ≤ 4294967295) :
    Run Try.prog 7 #[.slice A n c, .int .i64 at_, .int .u32 k] W (Good W) := by
  have hl := h.len
  refine law4_CheckSpoilt.ok ((copyInsns_spec h (by omega)).mono ?_)
  rintro v w1 ⟨A1, c1, rfl, o1, l1, b1, x1⟩
  have f1 := Fr.of_ext x1
  refine ⟨_, _, _, rfl, (check_spec (o1.rdM l1) hi (by omega)).mono ?_⟩
  rintro v w2 ⟨rfl, x2⟩
  have f2 := f1.ext x2
  refine ⟨_, _, rfl, ifP_bne.2 ⟨fun _ => awake_spec.mono ?_, fun e1 => low_spec.mono ?_⟩⟩
  · rintro v w3 ⟨rfl, x3⟩
    exact ⟨_, rfl, rfl, f2.ext x3⟩
  obtain ⟨T, _⟩ := taken_of e1
  have hp := T.pos
  have hle := T.le
  rintro v w3 ⟨rfl, rfl⟩
  have l0 := lowV_ge at_
  obtain ⟨i, hi0, hilt⟩ : ∃ i : Nat, Int.tmod (lowV at_) (n : Int) = i ∧ i < n := by
    rw [tmod_pos l0]
    have a1 := Int.emod_nonneg (lowV at_) (show (n : Int) ≠ 0 by omega)
    have a2 := Int.emod_lt_of_pos (lowV at_) (show (0 : Int) < n by omega)
    exact ⟨(lowV at_ % n).toNat, by omega, by omega⟩
  refine ⟨_, rfl, by omega, letA fun w4 h4 x4 s4 => letA fun w5 h5 x5 s5 => ?_⟩
  rw [hi0]
  have f5 := (f2.ext x4).ext x5
  have i5 : IInsns w5 (some (newA w3)) 6 (badL n k) := ((lit_insns (xs := badL n k) h4 rfl : OInsns w4 (some (newA w3)) 6 (badL n k)).ext x5).rdM rfl
  have c5 : Rd (Value.int .i64) w5 (some (newA w4)) 6 codesL := by
    have : Own 23 1 w5 (some (newA w4)) 6 (codesL.map (Value.int .i64)) := .inr ⟨_, [], rfl, h5, rfl⟩
    exact this.rd rfl
  have loop : ∀ (d j : Nat), 6 - j = d → j ≤ 6 → ∀ w, Fr w5 w → law4_CheckSpoilt.L0 (Good W) A n c i (some (newA w3)) 6 6 (some (newA w4)) 6 6 j w := by
    intro d
    induction d with
    | zero =>
      intro j hd hj w f
      have fw : Fr W w := f5.ext ((Keep.of_below f).mono fun k hk hs => by have : w5.heap.size ≤ k := hs; omega)
      refine law4_CheckSpoilt.L0_step (ifP_no (by omega) ((copyInsns_spec (h.fr fw) (by omega)).mono ?_))
      rintro v w6 ⟨A6, c6, rfl, o6, l6, b6, x6⟩
      have f6 := fw.ext x6
      refine ⟨_, _, _, rfl, ?_⟩
      rw [wrap_i64 (x := (n : Int) - 1) (by omega) (by omega)]
      refine ⟨by omega, by omega, ?_⟩
      refine Own.putM (f := Ins.v) (sz := 4) (by decide) Ins.len (xs := xs) o6 (i := n - 1) (j := (n : Int) - 1) (by omega) (by omega) (y := ⟨132, 0, 0, 0⟩) rfl ?_
      intro w7 o7 k7
      have f7 := f6.blk k7 fun k hk => by have := b6 k hk; have := fw.size; omega
      have ok7 : Inss (xs.set (n - 1) ⟨132, 0, 0, 0⟩) := fun y hy => by
        rcases List.mem_or_eq_of_mem_set hy with hy | rfl
        · exact hi y hy
        · simp [Ins.ok]
      refine (check_spec (OInsns.rdM' o7 (by rw [List.length_set, hl])) ok7 (by omega)).mono ?_
      rintro v w8 ⟨rfl, x8⟩
      have e := T.endless
      rw [hl] at e
      rw [e]
      refine ⟨_, _, rfl, ifP_eq rfl (ifP_eq rfl (awake_spec.mono ?_))⟩
      rintro v w9 ⟨rfl, x9⟩
      exact ⟨_, rfl, rfl, (f7.ext x8).ext x9⟩
    | succ d ih =>
      intro j hd hj w f
      have fw : Fr W w := f5.ext ((Keep.of_below f).mono fun k hk hs => by have : w5.heap.size ≤ k := hs; omega)
      have next : ∀ w', Fr w5 w' → law4_CheckSpoilt.J1 (Good W) A n c i (some (newA w3)) 6 6 (some (newA w4)) 6 6 j w' := by
        intro w' f'
        show law4_CheckSpoilt.L0 _ _ _ _ _ _ _ _ _ _ _ _ _
        rw [wrap_i64 (by omega) (by omega)]
        exact ih (j + 1) (by omega) (by omega) w' f'
      have go : (j = 5 → n ≤ 200) → law4_CheckSpoilt.J0 (Good W) A n c i (some (newA w3)) 6 6 (some (newA w4)) 6 6 j false w := by
        intro hj5
        refine ifP_f rfl ((copyInsns_spec (h.fr fw) (by omega)).mono ?_)
        rintro v w6 ⟨A6, c6, rfl, o6, l6, b6, x6⟩
        have f6 := f.ext x6
        obtain ⟨b, x, hb, hx, hc⟩ := IInsns.at4 (i5.fr f6) (i := j) (by omega)
        have xok := badL_ok (n := n) k0 k1 (by omega) x (List.mem_of_getElem? hx)
        refine ⟨_, _, _, rfl, by omega, by omega, b, hb, _, hc.c, _, hc.t, _, hc.f, _, hc.k, by omega, by omega, ?_⟩
        refine Own.putM (f := Ins.v) (sz := 4) (by decide) Ins.len (xs := xs) o6 (i := i) (j := i) rfl (by omega) (y := x) rfl ?_
        intro w7 o7 k7
        have f7 := f6.blk k7 fun k hk => by have := b6 k hk; have := f.size; omega
        have ok7 : Inss (xs.set i x) := fun y hy => by
          rcases List.mem_or_eq_of_mem_set hy with hy | rfl
          · exact hi y hy
          · exact xok
        refine (check_spec (OInsns.rdM' o7 (by rw [List.length_set, hl])) ok7 (by omega)).mono ?_
        rintro v w8 ⟨rfl, x8⟩
        have f8 := f7.ext x8
        have hce : codesL[j]? = some (codesL[j]'(by show j < 6; omega)) := List.getElem?_eq_getElem _
        obtain ⟨q, hq, hcell⟩ := (c5.fr f8).at (i := j) (by omega)
        have e0 : codesL[j]'(by show j < 6; omega) ≠ 0 := by
          have : ∀ z ∈ codesL, z ≠ 0 := by decide
          exact this _ (List.getElem_mem ..)
        have e := T.spoilt (i := i) (by omega) (by rw [hl]; exact bad_wrong (k := k) hilt (by omega) hx hce hj5) e0
        rw [e]
        exact ⟨_, _, rfl, ifP_nne rfl ⟨by omega, by omega, q, hq, _, hcell, ifP_f (by simp) (next w8 f8)⟩⟩
      refine law4_CheckSpoilt.L0_step (ifP_yes (by omega) (ifP_beq.2 ⟨fun h5 => ?_, fun h5 => go fun h => absurd (by omega) h5⟩))
      by_cases h200 : n > 200
      · rw [decide_eq_true (by omega)]
        exact ifP_t rfl (next w f)
      · rw [decide_eq_false (by omega)]
        exact go fun _ => by omega
  exact loop 6 0 (by omega) (by omega) w5 (Fr.refl w5)
end Go.Proofs.Ytkkfdpmjockelaa
