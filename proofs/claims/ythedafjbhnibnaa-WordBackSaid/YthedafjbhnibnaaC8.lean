/- The statement over Get of Put. -/
import Derived.Test.YthedafjbhnibnaaC4
import Derived.Test.YthedafjbhnibnaaNum
namespace Go.Proofs.Ythedafjbhnibnaa
open Go.Rd Go.RowKit
set_option linter.unusedVariables false
set_option linter.unusedSimpArgs false

theorem be_digs (k : Nat) (hk : k = 1 ∨ k = 2 ∨ k = 4) (v : Int) : be 0 (digs k v) = v % 256 ^ k := by
  rcases hk with rfl | rfl | rfl
  · show be 0 [v % 256] = v % 256
    exact be_one (by omega)
  · show be 0 [v / 256 % 256, v % 256] = v % 65536
    rw [be_two (by omega) (by omega)]; omega
  · show be 0 [v / 256 / 256 / 256 % 256, v / 256 / 256 % 256, v / 256 % 256, v % 256] = v % 4294967296
    rw [be_four (by omega) (by omega) (by omega) (by omega)]; omega
theorem digs_be : ∀ {xs : List Int}, (xs.length = 1 ∨ xs.length = 2 ∨ xs.length = 4) → Bytes xs → digs xs.length (be 0 xs) = xs
  | [a], _, h => by
    have ha := h a (by simp)
    rw [be_one ha]
    show [a % 256] = [a]
    congr 1; omega
  | [a, b], _, h => by
    have ha := h a (by simp)
    have hb := h b (by simp)
    rw [be_two ha hb]
    show [(256 * a + b) / 256 % 256, (256 * a + b) % 256] = [a, b]
    congr 1
    · omega
    · congr 1; omega
  | [a, b, c, d], _, h => by
    have ha := h a (by simp)
    have hb := h b (by simp)
    have hc := h c (by simp)
    have hd := h d (by simp)
    rw [be_four ha hb hc hd]
    have e1 : (16777216 * a + 65536 * b + 256 * c + d) / 256 / 256 / 256 % 256 = a := by omega
    have e2 : (16777216 * a + 65536 * b + 256 * c + d) / 256 / 256 % 256 = b := by omega
    have e3 : (16777216 * a + 65536 * b + 256 * c + d) / 256 % 256 = c := by omega
    have e4 : (16777216 * a + 65536 * b + 256 * c + d) % 256 = d := by omega
    show [(16777216 * a + 65536 * b + 256 * c + d) / 256 / 256 / 256 % 256, (16777216 * a + 65536 * b + 256 * c + d) / 256 / 256 % 256, (16777216 * a + 65536 * b + 256 * c + d) / 256 % 256, (16777216 * a + 65536 * b + 256 * c + d) % 256] = _
    rw [e1, e2, e3, e4]
  | [], h, _ => by simp at h
  | [_, _, _], h, _ => by simp at h
  | _ :: _ :: _ :: _ :: _ :: _, h, _ => by simp at h

section
variable {xs : List Int} {i k : Nat} {v : Int}
theorem put_drop (hi : i + k ≤ xs.length) : (putL k xs i v).drop i = digs k v ++ xs.drop (i + k) := by
  rw [putL_eq k xs i v hi, List.drop_left' (by rw [List.length_take]; omega)]
theorem get_put (hk : k = 1 ∨ k = 2 ∨ k = 4) (hi : i + k ≤ xs.length) : getV (putL k xs i v) (i : Int) (k : Int) = v % 256 ^ k := by
  rw [getV_at (ys := digs k v) (zs := xs.drop (i + k)) (put_drop hi) (by rw [digs_length]; rfl), be_digs k hk]
theorem put_high (hk : k = 1 ∨ k = 2 ∨ k = 4) (hi : i + k ≤ xs.length) : getV (putL k xs i v) (i : Int) 1 = v % 256 ^ k / 256 ^ (k - 1) := by
  have h := put_drop (v := v) hi
  rcases hk with rfl | rfl | rfl
  · rw [getV_at (ys := [v % 256]) (zs := xs.drop (i + 1)) h rfl, be_one (by omega)]
    show v % 256 = v % 256 / 1
    omega
  · rw [getV_at (ys := [v / 256 % 256]) (zs := [v % 256] ++ xs.drop (i + 2)) h rfl, be_one (by omega)]
    show v / 256 % 256 = v % 65536 / 256
    omega
  · rw [getV_at (ys := [v / 256 / 256 / 256 % 256]) (zs := [v / 256 / 256 % 256, v / 256 % 256, v % 256] ++ xs.drop (i + 4)) h rfl, be_one (by omega)]
    show v / 256 / 256 / 256 % 256 = v % 4294967296 / 16777216
    omega
theorem put_back (hk : k = 1 ∨ k = 2 ∨ k = 4) (hi : i + k ≤ xs.length) (hb : Bytes xs) : putL k (putL k xs i v) i (getV xs (i : Int) (k : Int)) = xs := by
  have hd : xs.drop i = (xs.drop i).take k ++ xs.drop (i + k) := by rw [← List.drop_drop, List.take_append_drop]
  have hl : ((xs.drop i).take k).length = k := by rw [List.length_take, List.length_drop]; omega
  rw [getV_at hd (by rw [hl]; rfl), putL_eq k _ i _ (by rw [putL_length]; exact hi)]
  have e1 : digs k (be 0 ((xs.drop i).take k)) = (xs.drop i).take k := by
    have := digs_be (xs := (xs.drop i).take k) (by rw [hl]; exact hk) fun x hx => hb x (List.mem_of_mem_drop (List.mem_of_mem_take hx))
    rwa [hl] at this
  have e2 : (putL k xs i v).take i = xs.take i := by rw [putL_eq k xs i v hi, List.take_left' (by rw [List.length_take]; omega)]
  have e3 : (putL k xs i v).drop (i + k) = xs.drop (i + k) := by
    rw [← List.drop_drop, put_drop hi, List.drop_left' (digs_length k v)]
  rw [e1, e2, e3, ← hd, List.take_append_drop]
theorem put_else (hi : i + k ≤ xs.length) {j : Nat} (hj : j < i ∨ i + k ≤ j) : (putL k xs i v)[j]? = xs[j]? := by
  rw [putL_eq k xs i v hi]
  rcases hj with h | h
  · rw [List.getElem?_append_left (by rw [List.length_take]; omega), List.getElem?_take_of_lt h]
  · rw [List.getElem?_append_right (by rw [List.length_take]; omega), List.getElem?_append_right (by rw [digs_length, List.length_take]; omega), digs_length, List.length_take, List.getElem?_drop]
    congr 1
    omega
end

theorem WordBack_main {W : World} {A : Option Addr} {n c : Nat} {xs : List Int} {at_ v : Int} (h : IBytes W A n xs) (hb : Bytes xs) (hc : n ≤ c) (hn : n ≤ 140737488351232) (hv : 0 ≤ v ∧ v ≤ 4294967295) :
    Run Try.prog 5 #[.slice A n c, .int .i64 at_, .int .u32 v] W (Good W) := by
  have hl := h.len
  have step : ∀ (k : Nat) (s : Int), s = k → (k = 1 ∨ k = 2 ∨ k = 4) → (∀ w, Fr W w → law1_WordBack.L0 (Good W) A n c at_ v (2 * s) w) → ∀ w, Fr W w → law1_WordBack.L0 (Good W) A n c at_ v s w := by
    intro k s hs hk next w f
    have e2s : IntKind.i64.wrap (2 * s) = 2 * s := wrap_i64 (by omega) (by omega)
    have next' : ∀ w, Fr W w → law1_WordBack.J1 (Good W) A n c at_ v s w := by
      intro w f
      show law1_WordBack.L0 _ _ _ _ _ _ _ _
      rw [e2s]
      exact next w f
    refine law1_WordBack.L0_step (ifP_yes (by omega) ((copyBytes_spec (h.fr f) (by omega)).mono ?_))
    rintro u w1 ⟨A1, c1, rfl, o1, l1, b1, x1⟩
    have f1 := f.ext x1
    refine ⟨A1, _, c1, rfl, (put_spec (size := s) (o1.rd l1) (by omega)).mono ?_⟩
    intro u w2 p2
    by_cases hf : fitsB n at_ s = true
    · unfold PutOf at p2
      rw [if_pos hf] at p2
      obtain ⟨A2, c2, rfl, o2, _, b2, x2⟩ := p2
      obtain ⟨_, ha, hle⟩ := fitsB_iff.1 hf
      obtain ⟨i, rfl⟩ := Int.eq_ofNat_of_zero_le ha
      subst hs
      have hik : i + k ≤ xs.length := by omega
      simp only [Int.toNat_natCast] at o2
      have f2 := f1.ext x2
      have hpl : (putL k xs i v).length = n := by rw [putL_length, hl]
      have i2 : ∀ {u}, Ext w2 u → IBytes u A2 n (putL k xs i v) := fun xu => (o2.ext xu).rd hpl
      have hc2 : n ≤ c2 := o2.len (by omega) (by rw [List.length_map, hpl]; omega)
      have low : ∀ w, Fr W w → Ext w2 w → law1_WordBack.J2 (Good W) A n c i v k A2 n c2 (v % 256 ^ k) w := by
        intro w f x
        refine (copyBytes_spec (i2 x) (by omega)).mono ?_
        rintro u w3 ⟨A3, c3, rfl, o3, l3, b3, x3⟩
        have f3 := f.ext x3
        refine ⟨A3, _, c3, rfl, (get_spec (size := (k : Int)) (o3.rd l3) (o3.len (by omega) (by rw [List.length_map, l3]; omega)) (by omega)).mono ?_⟩
        rintro u w4 ⟨rfl, rfl⟩
        rw [if_pos hf, get_put hk hik]
        refine ⟨_, _, rfl, (copyBytes_spec (i2 (x.trans x3)) (by omega)).mono ?_⟩
        rintro u w5 ⟨A5, c5, rfl, o5, l5, b5, x5⟩
        have f5 := f3.ext x5
        have hf1 : fitsB n (i : Int) 1 = true := fitsB_iff.2 ⟨.inl rfl, by omega, by omega⟩
        refine ⟨A5, _, c5, rfl, (get_spec (size := 1) (o5.rd l5) (o5.len (by omega) (by rw [List.length_map, l5]; omega)) (by omega)).mono ?_⟩
        rintro u w6 ⟨rfl, rfl⟩
        rw [if_pos hf1, put_high hk hik]
        refine ⟨_, _, rfl, (copyBytes_spec (h.fr f5) (by omega)).mono ?_⟩
        rintro u w7 ⟨A7, c7, rfl, o7, l7, b7, x7⟩
        have f7 := f5.ext x7
        refine ⟨A7, _, c7, rfl, (get_spec (size := (k : Int)) (o7.rd l7) (o7.len (by omega) (by rw [List.length_map, l7]; omega)) (by omega)).mono ?_⟩
        rintro u w8 ⟨rfl, rfl⟩
        rw [if_pos hf]
        have x28 := ((x.trans x3).trans x5).trans x7
        refine ⟨_, _, rfl, (copyBytes_spec (i2 x28) (by omega)).mono ?_⟩
        rintro u w9 ⟨A9, c9, rfl, o9, l9, b9, x9⟩
        have f9 := f7.ext x9
        refine ⟨A9, _, c9, rfl, (put_spec (size := (k : Int)) (o9.rd l9) (by omega)).mono ?_⟩
        intro u w10 p10
        unfold PutOf at p10
        rw [if_pos hf] at p10
        obtain ⟨A10, c10, rfl, o10, _, b10, x10⟩ := p10
        simp only [Int.toNat_natCast] at o10
        rw [put_back hk hik hb] at o10
        have f10 := f9.ext x10
        have x210 := (x28.trans x9).trans x10
        have e8 : IntKind.i64.wrap (IntKind.i64.wrap (8 * (k : Int)) - 8) = ((8 * (k - 1) : Nat) : Int) := by
          rw [wrap_i64 (x := 8 * (k : Int)) (by omega) (by omega), wrap_i64 (by omega) (by omega)]; omega
        refine ⟨A10, _, c10, _, rfl, ifP_f rfl (ifP_nne rfl (ifP_nne rfl ?_))⟩
        rw [e8]
        have e9 : Int.fdiv (v % 256 ^ k) (2 ^ (min (Int.toNat ((8 * (k - 1) : Nat) : Int)) (IntKind.bits .u32))) = v % 256 ^ k / 256 ^ (k - 1) := by
          rw [Int.fdiv_eq_ediv_of_nonneg _ (Int.pow_nonneg (by omega))]
          rcases hk with rfl | rfl | rfl <;> rfl
        refine ⟨by omega, ?_⟩
        rw [e9]
        refine ifP_nne rfl ((sameBytes_spec (o10.rd hl) (h.fr f10) (by omega)).mono ?_)
        rintro u w11 ⟨rfl, x11⟩
        have f11 := f10.ext x11
        have x211 := x210.trans x11
        refine ⟨_, rfl, ?_⟩
        have e10 : (!decide (xs = xs)) = false := by simp
        rw [e10]
        refine ifP_f rfl ?_
        have inner : ∀ (d j : Nat), n - j = d → j ≤ n → ∀ w, Fr W w → Ext w2 w → law1_WordBack.L2 (Good W) A n c i v k A2 n c2 j w := by
          intro d
          induction d with
          | zero =>
            intro j hd hj w f x
            exact law1_WordBack.L2_step (ifP_no (by omega) (next' w f))
          | succ d ih =>
            intro j hd hj w f x
            obtain ⟨a, rfl, ca⟩ := (h.fr f).at (i := j) (by omega)
            obtain ⟨a2, rfl, ca2⟩ := (i2 x).at (i := j) (by omega)
            have hjn : law1_WordBack.L2 (Good W) (some a) n c i v k (some a2) n c2 ((j + 1 : Nat) : Int) w.drew := ih (j + 1) (by omega) (by omega) w.drew (f.ext (Ext.drew w)) (x.trans (Ext.drew w))
            have go : law1_WordBack.J4 (Good W) (some a) n c i v k (some a2) n c2 j false w.drew := by
              refine ifP_f rfl ?_
              rw [wrap_i64 (by omega) (by omega)]
              exact hjn
            have cmp : (j < i ∨ i + k ≤ j) → (0 ≤ (j : Int) ∧ (j : Int) < ((n : Nat) : Int) ∧ ∃ p : Addr, some a2 = some p ∧ ∃ t : Int, w.drew.cell? (p.add (Int.toNat (j : Int) * 1)) = some (.int .u8 t) ∧ 0 ≤ (j : Int) ∧ (j : Int) < ((n : Nat) : Int) ∧ ∃ q : Addr, some a = some q ∧ ∃ t2 : Int, w.drew.cell? (q.add (Int.toNat (j : Int) * 1)) = some (.int .u8 t2) ∧ law1_WordBack.J4 (Good W) (some a) n c i v k (some a2) n c2 j ((t : Int) != t2) w.drew) := by
              intro hj
              refine ⟨by omega, by omega, a2, rfl, _, (Ext.drew w).cell ca2, by omega, by omega, a, rfl, _, (Ext.drew w).cell ca, ?_⟩
              have e := put_else (v := v) hik hj
              rw [List.getElem?_eq_getElem (by omega), List.getElem?_eq_getElem (by omega)] at e
              have e := Option.some.inj e
              rw [e]
              have e11 : (xs[j]'(by omega) != xs[j]'(by omega)) = false := by simp
              rw [e11]
              exact go
            refine law1_WordBack.L2_step (ifP_yes (by omega) ?_)
            refine ifP_decide.2 ⟨fun h1 => cmp (.inl (by omega)), fun h1 => ifP_decide.2 ⟨fun h2 => cmp (.inr ?_), fun h2 => go⟩⟩
            rw [wrap_i64 (by omega) (by omega)] at h2
            omega
        exact inner n 0 (by omega) (by omega) w11 f11 x211
      refine ⟨A2, _, c2, _, rfl, ifP_yes (by omega) ?_⟩
      rw [wrap_i64 (x := (n : Int) - k) (by omega) (by omega), decide_eq_true hle]
      refine ifP_f rfl (ifP_f rfl (ifP_decide.2 ⟨fun h4 => ?_, fun h4 => ?_⟩))
      · rw [wrap_i64 (x := 8 * (k : Int)) (by omega) (by omega)]
        refine ⟨by omega, ?_⟩
        have e : andI .u32 v (IntKind.u32.wrap (IntKind.u32.wrap (1 * 2 ^ (min (Int.toNat (8 * (k : Int))) (IntKind.bits .u32))) - 1)) = v % 256 ^ k := by
          have low32 : ∀ m : Nat, m ≤ 31 → andI .u32 v ((2 ^ m - 1 : Nat) : Int) = v % ((2 ^ m : Nat) : Int) := by
            intro m hm
            obtain ⟨y, rfl⟩ := Int.eq_ofNat_of_zero_le hv.1
            have hp : 0 < 2 ^ m := Nat.pow_pos (by omega)
            have hp2 : 2 ^ m ≤ 2 ^ 31 := Nat.pow_le_pow_right (by omega) hm
            unfold andI
            have e2 : (BitVec.ofInt IntKind.u32.bits (y : Int) &&& BitVec.ofInt IntKind.u32.bits ((2 ^ m - 1 : Nat) : Int)).toNat = y % 2 ^ m := by
              rw [BitVec.toNat_and, toNat_ofInt, toNat_ofInt, ← Int.natCast_emod, ← Int.natCast_emod, Int.toNat_natCast, Int.toNat_natCast]
              have hb : 2 ^ IntKind.u32.bits = 4294967296 := rfl
              rw [Nat.mod_eq_of_lt (by omega), Nat.mod_eq_of_lt (by omega), Nat.and_two_pow_sub_one_eq_mod]
            have := Nat.mod_lt y hp
            rw [e2, wrap_u32 (by omega) (by omega)]
            rfl
          rcases hk with rfl | rfl | rfl
          · exact low32 8 (by omega)
          · exact low32 16 (by omega)
          · exfalso; omega
        rw [e]
        exact low w2 f2 (Ext.refl w2)
      · have h4 : k = 4 := by omega
        have e : v % 256 ^ k = v := by
          subst h4
          show v % 4294967296 = v
          omega
        have := low w2 f2 (Ext.refl w2)
        rwa [e] at this
    · unfold PutOf at p2
      rw [if_neg hf] at p2
      obtain ⟨rfl, rfl⟩ := p2
      have hs1 : s = 1 ∨ s = 2 ∨ s = 4 := by omega
      refine ⟨_, _, _, _, rfl, ifP_decide.2 ⟨fun h0 => ?_, fun h0 => ifP_f rfl (ifP_t rfl (next' w2 f1))⟩⟩
      rw [wrap_i64 (by omega) (by omega)]
      have : ¬ (at_ ≤ (n : Int) - s) := fun hle => hf (fitsB_iff.2 ⟨hs1, h0, hle⟩)
      rw [decide_eq_false this]
      exact ifP_f rfl (ifP_t rfl (next' w2 f1))
  have last : ∀ w, Fr W w → law1_WordBack.L0 (Good W) A n c at_ v 8 w := by
    intro w f
    refine law1_WordBack.L0_step (ifP_no (by omega) (awake_spec.mono ?_))
    rintro u w' ⟨rfl, x⟩
    exact ⟨_, rfl, rfl, f.ext x⟩
  exact law1_WordBack.ok (step 1 1 rfl (.inl rfl) (step 2 2 rfl (.inr (.inl rfl)) (step 4 4 rfl (.inr (.inr rfl)) last)) W (Fr.refl W))
end Go.Proofs.Ythedafjbhnibnaa
