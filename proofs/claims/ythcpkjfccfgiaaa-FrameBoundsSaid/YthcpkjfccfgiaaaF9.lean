/- What a well formed frame's view says; what stands behind a frame is no matter. -/
import Derived.Test.YthcpkjfccfgiaaaF8
namespace Go.Proofs.Ythcpkjfccfgiaaa
open Go.Rd Go.RowKit
set_option linter.unusedVariables false
set_option linter.unusedSimpArgs false

theorem getD_app {xs ys : List Int} {i : Nat} (h : i < xs.length) : (xs ++ ys).getD i 0 = xs.getD i 0 := by
  rw [List.getD_eq_getElem?_getD, List.getD_eq_getElem?_getD, List.getElem?_append_left h]

section
variable {k : Lnk} {xs ys : List Int}

theorem protoX_grow {a : Int} {s : Int × Int} (h0 : 0 ≤ a) (h : protoX k xs a = .ok s) : protoX k (xs ++ ys) a = .ok s := by
  unfold protoX at h ⊢
  have hl : (xs ++ ys).length = xs.length + ys.length := List.length_append
  by_cases h1 : (xs.length : Int) ≤ a
  · rw [if_pos h1] at h; cases h
  rw [if_neg h1] at h
  rw [if_neg (by omega), getD_app (by omega)]
  by_cases h2 : xs.getD a.toNat 0 % 2 = 1
  · rw [if_pos h2] at h ⊢; exact h
  rw [if_neg h2] at h ⊢
  by_cases h3 : (xs.length : Int) ≤ a + 1
  · rw [if_pos h3] at h; cases h
  rw [if_neg h3] at h
  rw [if_neg (by omega), getD_app (by omega)]
  exact h
theorem headX_grow {a : Int} {s : Bool × Bool × Int × Int} (h0 : 0 ≤ a) (h : headX k xs a = .ok s) : headX k (xs ++ ys) a = .ok s := by
  unfold headX at h ⊢
  have hl : (xs ++ ys).length = xs.length + ys.length := List.length_append
  by_cases h1 : (xs.length : Int) < a + pieceSize k
  · rw [if_pos h1] at h; cases h
  rw [if_neg h1] at h
  have e : getV (xs ++ ys) a (pieceSize k) = getV xs a (pieceSize k) := by
    unfold getV
    rw [List.drop_append_of_le_length (by omega), List.take_append_of_le_length (by rw [List.length_drop]; omega)]
  rw [if_neg (by omega), e]
  exact h
theorem plainX_grow (h : 2 ≤ xs.length ∨ (xs.length = 1 ∧ xs.getD 0 0 ≠ 255)) {a : Int} (hp : plainX k xs = .ok a) : plainX k (xs ++ ys) = .ok a := by
  unfold plainX at hp ⊢
  have hl : (xs ++ ys).length = xs.length + ys.length := List.length_append
  rw [getD_app (by omega)]
  rcases h with h | ⟨h, h1⟩
  · rw [getD_app (by omega)]
    by_cases h2 : 2 ≤ xs.length ∧ xs.getD 0 0 = 255 ∧ xs.getD 1 0 = 3
    · rw [if_pos h2] at hp
      rw [if_pos ⟨by omega, h2.2⟩]; exact hp
    · rw [if_neg h2] at hp
      rw [if_neg (fun h3 => h2 ⟨h, h3.2⟩)]
      by_cases h4 : k.ac = true
      · rw [if_pos h4] at hp ⊢; exact hp
      · rw [if_neg h4] at hp
        split at hp <;> cases hp
  · rw [if_neg (by omega)] at hp
    rw [if_neg (fun h3 => h1 h3.2.1)]
    by_cases h4 : k.ac = true
    · rw [if_pos h4] at hp ⊢; exact hp
    · rw [if_neg h4] at hp
      split at hp <;> cases hp
theorem ipX_grow {v v' : Vw} (h0 : 0 ≤ v.a) (h : ipX v xs = .ok v') : ipX v (xs ++ ys) = .ok v' := by
  unfold ipX at h ⊢
  have hl : (xs ++ ys).length = xs.length + ys.length := List.length_append
  simp only at h ⊢
  by_cases hp : v.p = 87
  · rw [if_pos hp] at h ⊢
    by_cases h1 : (xs.length : Int) < v.a + 40
    · rw [if_pos h1] at h; cases h
    rw [if_neg h1] at h
    rw [if_neg (by omega), getD_app (by omega), getD_app (by omega)]
    exact h
  · rw [if_neg hp] at h ⊢
    by_cases h1 : (xs.length : Int) < v.a + 20
    · rw [if_pos h1] at h; cases h
    rw [if_neg h1] at h
    rw [if_neg (by omega), getD_app (by omega), getD_app (by omega), getD_app (by omega), getD_app (by omega)]
    by_cases h2 : ¬ (xs.getD v.a.toNat 0 / 16 = 4 ∧ 5 ≤ xs.getD v.a.toNat 0 % 16)
    · rw [if_pos h2] at h; cases h
    rw [if_neg h2] at h ⊢
    by_cases h3 : (xs.length : Int) < v.a + 4 * (xs.getD v.a.toNat 0 % 16)
    · rw [if_pos h3] at h; cases h
    rw [if_neg h3] at h
    rw [if_neg (by omega)]
    exact h

/-! ## What a view says -/

def spaceOf (k : Lnk) : Int := if k.mp = 2 then 16777216 else 4096
structure PieceOk (k : Lnk) (xs : List Int) (v : Vw) : Prop where
  a0 : 0 < v.a
  a1 : v.a ≤ xs.length
  p0 : 0 ≤ v.p
  p1 : v.p ≤ 65535
  odd : v.p % 2 = 1
  nm : v.m = false → v.b = false ∧ v.e = false ∧ v.s = 0
  ms : v.m = true → k.mp ≠ 0 ∧ v.s < spaceOf k
  z : v.n = 0 ∧ v.x = 0 ∧ v.l = 0

theorem protoX_odd {a : Int} {s : Int × Int} (h : protoX k xs a = .ok s) : s.1 % 2 = 1 := by
  unfold protoX at h
  split at h
  · cases h
  · split at h
    · rename_i ho
      split at h
      · obtain rfl := Except.ok.inj h; exact ho
      · cases h
    · split at h
      · cases h
      · split at h
        · rename_i ho
          obtain rfl := Except.ok.inj h
          simp only
          omega
        · cases h
theorem and_lt {x M : Int} (h0 : 0 ≤ M) (h1 : M < 4294967295) : andI .u32 x M ≤ M := by
  obtain ⟨m, rfl⟩ := Int.eq_ofNat_of_zero_le h0
  unfold andI
  have e : (BitVec.ofInt IntKind.u32.bits x &&& BitVec.ofInt IntKind.u32.bits (m : Int)).toNat ≤ m := by
    rw [BitVec.toNat_and]
    refine Nat.le_trans Nat.and_le_right ?_
    rw [toNat_ofInt, ← Int.natCast_emod, Int.toNat_natCast]
    exact Nat.mod_le _ _
  rw [wrap_u32 (by omega) (by omega)]
  omega
theorem headX_seq {a : Int} {s : Bool × Bool × Int × Int} (h : headX k xs a = .ok s) : s.2.2.1 < spaceOf k := by
  unfold headX at h
  split at h
  · cases h
  · simp only at h
    split at h
    · obtain rfl := Except.ok.inj h
      simp only
      have := and_lt (x := getV xs a (pieceSize k)) (M := seqMask k) (by unfold seqMask; split <;> decide) (by unfold seqMask; split <;> decide)
      have : seqMask k < spaceOf k := by unfold seqMask spaceOf; split <;> decide
      omega
    · cases h
theorem pieceX_ok (hx : ∀ x ∈ xs, 0 ≤ x ∧ x ≤ 255) {v : Vw} (h : pieceX k xs = .ok v) : PieceOk k xs v := by
  unfold pieceX at h
  split at h
  · cases h
  · rename_i a1 hpl
    have r1 := plainX_range hpl
    split at h
    · cases h
    · rename_i p a2 hpr
      have r2 := protocol_range hx r1.1 hpr
      have r2' := protoX_odd hpr
      simp only at r2 r2'
      split at h
      · obtain rfl := Except.ok.inj h
        exact { a0 := by show 0 < a2; omega, a1 := by show a2 ≤ _; omega, p0 := r2.2.2.1, p1 := r2.2.2.2, odd := r2', nm := fun _ => ⟨rfl, rfl, rfl⟩, ms := fun h => (by cases h), z := ⟨rfl, rfl, rfl⟩ }
      · rename_i hm
        split at h
        · cases h
        · rename_i b e q a3 hh
          have r3 := head_range hh
          have r3' := headX_seq hh
          simp only at r3 r3'
          obtain rfl := Except.ok.inj h
          exact { a0 := by show 0 < a3; omega, a1 := by show a3 ≤ _; omega, p0 := r2.2.2.1, p1 := r2.2.2.2, odd := r2', nm := fun h => (by cases h), ms := fun _ => ⟨fun h => hm (.inl h), r3'⟩, z := ⟨rfl, rfl, rfl⟩ }
theorem innerX_ok (hx : ∀ x ∈ xs, 0 ≤ x ∧ x ≤ 255) {v v' : Vw} (hv : PieceOk k xs v) (h : innerX k xs v = .ok v') : PieceOk k xs v' := by
  unfold innerX at h
  split at h
  · split at h
    · split at h
      · cases h
      · rename_i p a2 hpr
        have r2 := protocol_range hx (by have := hv.a0; omega) hpr
        have r2' := protoX_odd hpr
        simp only at r2 r2'
        obtain rfl := Except.ok.inj h
        exact { a0 := by show 0 < a2; have := hv.a0; omega, a1 := by show a2 ≤ _; omega, p0 := r2.2.2.1, p1 := r2.2.2.2, odd := r2', nm := hv.nm, ms := hv.ms, z := hv.z }
    · obtain rfl := Except.ok.inj h; exact hv
  · obtain rfl := Except.ok.inj h; exact hv

def netNo (v : Vw) : Int := if v.m = true ∧ v.b = false then 0 else if v.p = 87 then 6 else if v.p = 33 then 4 else 0
structure ViewOk (k : Lnk) (xs : List Int) (v : Vw) : Prop where
  a0 : 0 < v.a
  a1 : v.a ≤ xs.length
  l0 : 0 ≤ v.l
  l1 : v.l ≤ xs.length
  l2 : v.l ≠ 0 → v.a + 20 ≤ v.l
  p1 : v.p ≤ 65535
  p0 : 0 ≤ v.p
  odd : v.p % 2 = 1
  net : v.n = netNo v
  x0 : 0 ≤ v.x
  x1 : v.x ≤ 255
  nz : netNo v = 0 → v.x = 0 ∧ v.l = 0
  nm : v.m = false → v.b = false ∧ v.e = false ∧ v.s = 0
  ms : v.m = true → k.mp ≠ 0 ∧ v.s < spaceOf k
theorem netX_ok (hx : ∀ x ∈ xs, 0 ≤ x ∧ x ≤ 255) {v v' : Vw} (hv : PieceOk k xs v) (h : netX xs v = .ok v') : ViewOk k xs v' := by
  have same : netNo v = 0 → ViewOk k xs v := fun hn =>
    { a0 := hv.a0, a1 := hv.a1, l0 := by rw [hv.z.2.2]; decide, l1 := by rw [hv.z.2.2]; omega, l2 := fun h => absurd hv.z.2.2 h, p0 := hv.p0, p1 := hv.p1, odd := hv.odd, net := by rw [hv.z.1, hn], x0 := by rw [hv.z.2.1]; decide, x1 := by rw [hv.z.2.1]; decide, nz := fun _ => ⟨hv.z.2.1, hv.z.2.2⟩, nm := hv.nm, ms := hv.ms }
  unfold netX at h
  split at h
  · rename_i hmb
    obtain rfl := Except.ok.inj h
    exact same (by rw [netNo, if_pos hmb])
  · rename_i hmb
    split at h
    · rename_i hp
      have a0 := hv.a0
      unfold ipX at h
      simp only at h
      split at h
      · rename_i h87
        split at h
        · cases h
        · split at h
          · obtain rfl := Except.ok.inj h
            have g := getD_byte hx (v.a + 6).toNat
            have hn : netNo { v with n := 6, x := xs.getD (v.a + 6).toNat 0, l := v.a + 40 } = 6 := by
              unfold netNo
              rw [if_neg hmb, if_pos h87]
            exact { a0 := hv.a0, a1 := hv.a1, l0 := by show 0 ≤ v.a + 40; omega, l1 := by show v.a + 40 ≤ _; omega, l2 := fun _ => by show v.a + 20 ≤ v.a + 40; omega, p0 := hv.p0, p1 := hv.p1, odd := hv.odd, net := hn.symm, x0 := g.1, x1 := g.2, nz := fun h => (by rw [hn] at h; cases h), nm := hv.nm, ms := hv.ms }
          · cases h
      · rename_i h87
        have h33 : v.p = 33 := hp.resolve_right h87
        split at h
        · cases h
        · split at h
          · cases h
          · rename_i hver
            split at h
            · cases h
            · have g := getD_byte hx (v.a + 9).toNat
              have hver : 5 ≤ xs.getD v.a.toNat 0 % 16 := by
                by_cases hh : xs.getD v.a.toNat 0 / 16 = 4 ∧ 5 ≤ xs.getD v.a.toNat 0 % 16
                · exact hh.2
                · exact absurd hh hver
              split at h
              · obtain rfl := Except.ok.inj h
                have hn : netNo { v with n := 4, x := xs.getD (v.a + 9).toNat 0, l := v.a + 4 * (xs.getD v.a.toNat 0 % 16) } = 4 := by
                  unfold netNo
                  rw [if_neg hmb, if_neg h87, if_pos h33]
                exact { a0 := hv.a0, a1 := hv.a1, l0 := by show 0 ≤ v.a + 4 * (xs.getD v.a.toNat 0 % 16); omega, l1 := by show v.a + 4 * (xs.getD v.a.toNat 0 % 16) ≤ _; omega, l2 := fun _ => by show v.a + 20 ≤ v.a + 4 * (xs.getD v.a.toNat 0 % 16); omega, p0 := hv.p0, p1 := hv.p1, odd := hv.odd, net := hn.symm, x0 := g.1, x1 := g.2, nz := fun h => (by rw [hn] at h; cases h), nm := hv.nm, ms := hv.ms }
              · obtain rfl := Except.ok.inj h
                have hn : netNo { v with n := 4, x := xs.getD (v.a + 9).toNat 0 } = 4 := by
                  unfold netNo
                  rw [if_neg hmb, if_neg h87, if_pos h33]
                have z : ({ v with n := 4, x := xs.getD (v.a + 9).toNat 0 } : Vw).l = 0 := hv.z.2.2
                exact { a0 := hv.a0, a1 := hv.a1, l0 := by rw [z]; decide, l1 := by rw [z]; omega, l2 := fun h => absurd z h, p0 := hv.p0, p1 := hv.p1, odd := hv.odd, net := hn.symm, x0 := g.1, x1 := g.2, nz := fun h => (by rw [hn] at h; cases h), nm := hv.nm, ms := hv.ms }
    · rename_i hp
      obtain rfl := Except.ok.inj h
      exact same (by unfold netNo; rw [if_neg hmb, if_neg (fun h => hp (.inr h)), if_neg (fun h => hp (.inl h))])

theorem lookX_parts {v : Vw} (h : lookX k xs = .ok v) : linkOk k = true ∧ xs.length ≤ 65535 ∧ ∃ v1 v2, pieceX k xs = .ok v1 ∧ innerX k xs v1 = .ok v2 ∧ netX xs v2 = .ok v := by
  unfold lookX at h
  split at h
  · cases h
  · rename_i hk
    split at h
    · cases h
    · split at h
      · cases h
      · rename_i v1 h1
        split at h
        · cases h
        · rename_i v2 h2
          refine ⟨?_, by omega, v1, v2, h1, h2, h⟩
          cases hh : linkOk k with
          | true => rfl
          | false => exact absurd hh hk
theorem lookX_ok (hx : ∀ x ∈ xs, 0 ≤ x ∧ x ≤ 255) {v : Vw} (h : lookX k xs = .ok v) : ViewOk k xs v := by
  obtain ⟨_, _, v1, v2, h1, h2, h3⟩ := lookX_parts h
  exact netX_ok hx (innerX_ok hx (pieceX_ok hx h1) h2) h3

theorem look_grow (hx : ∀ x ∈ xs, 0 ≤ x ∧ x ≤ 255) (hl : 2 ≤ xs.length ∨ (xs.length = 1 ∧ xs.getD 0 0 ≠ 255)) (ht : xs.length + ys.length ≤ 65535) {v : Vw} (h : lookX k xs = .ok v) : lookX k (xs ++ ys) = .ok v := by
  obtain ⟨hk, _, v1, v2, h1, h2, h3⟩ := lookX_parts h
  have ok1 := pieceX_ok hx h1
  have ok2 := innerX_ok hx ok1 h2
  have e1 : pieceX k (xs ++ ys) = .ok v1 := by
    unfold pieceX at h1 ⊢
    split at h1
    · cases h1
    · rename_i a hpl
      rw [plainX_grow hl hpl]
      simp only []
      have r1 := plainX_range hpl
      split at h1
      · cases h1
      · rename_i p a2 hpr
        have r2 := protocol_range hx r1.1 hpr
        simp only at r2
        rw [protoX_grow r1.1 hpr]
        simp only []
        split at h1
        · rename_i hc; rw [if_pos hc]; exact h1
        · rename_i hc
          rw [if_neg hc]
          split at h1
          · cases h1
          · rename_i b e q a3 hh
            rw [headX_grow (by omega) hh]
            exact h1
  have e2 : innerX k (xs ++ ys) v1 = .ok v2 := by
    unfold innerX at h2 ⊢
    split at h2
    · rename_i hm
      rw [if_pos hm]
      split at h2
      · rename_i hb
        rw [if_pos hb]
        split at h2
        · cases h2
        · rename_i p a2 hpr
          rw [protoX_grow (by have := ok1.a0; omega) hpr]
          exact h2
      · rename_i hb; rw [if_neg hb]; exact h2
    · rename_i hm; rw [if_neg hm]; exact h2
  have e3 : netX (xs ++ ys) v2 = .ok v := by
    unfold netX at h3 ⊢
    split at h3
    · rename_i hm; rw [if_pos hm]; exact h3
    · rename_i hm
      rw [if_neg hm]
      split at h3
      · rename_i hp
        rw [if_pos hp]
        exact ipX_grow (by have := ok2.a0; omega) h3
      · rename_i hp; rw [if_neg hp]; exact h3
  unfold lookX
  rw [if_neg (by rw [hk]; decide), if_neg (by rw [List.length_append]; omega), e1]
  simp only []
  rw [e2]
  exact e3

/-- What lacks a byte ahead of its load is refused, but the one byte ff. -/
theorem look_short (hx : ∀ x ∈ xs, 0 ≤ x ∧ x ≤ 255) {v v' : Vw} (h : lookX k xs = .ok v) {m : Nat} (hm : (m : Int) < if v.l ≠ 0 then v.l else v.a) (h' : lookX k (xs.take m) = .ok v') : m = 1 ∧ xs.getD 0 0 = 255 := by
  have ok := lookX_ok hx h
  have hx' : ∀ x ∈ xs.take m, 0 ≤ x ∧ x ≤ 255 := fun x h => hx x (List.mem_of_mem_take h)
  have ok' := lookX_ok hx' h'
  have hlt : m < xs.length := by
    have := ok.a1
    have := ok.l1
    split at hm <;> omega
  have hlen : (xs.take m).length = m := by rw [List.length_take]; omega
  have a0 := ok'.a0
  have a1 := ok'.a1
  rw [hlen] at a1
  have hml := (lookX_parts h).2.1
  by_cases hg : 2 ≤ (xs.take m).length ∨ ((xs.take m).length = 1 ∧ (xs.take m).getD 0 0 ≠ 255)
  · exfalso
    have := look_grow (ys := xs.drop m) hx' hg (by rw [List.length_drop]; omega) h'
    rw [List.take_append_drop, h] at this
    obtain rfl := Except.ok.inj this
    have l1 := ok'.l1
    rw [hlen] at l1
    split at hm <;> omega
  · have h1 : m = 1 := by rw [hlen] at hg; omega
    refine ⟨h1, ?_⟩
    subst h1
    have e : (xs.take 1).getD 0 0 = xs.getD 0 0 := by
      conv => rhs; rw [← List.take_append_drop 1 xs]
      rw [getD_app (by omega)]
    by_cases h255 : xs.getD 0 0 = 255
    · exact h255
    · exact absurd (.inr ⟨hlen, by rw [e]; exact h255⟩) hg
end
end Go.Proofs.Ythcpkjfccfgiaaa
