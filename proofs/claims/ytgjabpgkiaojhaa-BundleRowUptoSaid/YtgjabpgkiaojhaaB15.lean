/- The plain law of BundleLost: pieces in any order. -/
import Derived.Test.YtgjabpgkiaojhaaB14
namespace Go.Proofs.Ytgjabpgkiaojhaa
open Go.Rd Go.RowKit
set_option linter.unusedVariables false
set_option linter.unusedSimpArgs false

/-! ## Which load, which piece of it -/

section
variable (cnt : Nat → Nat)
def baseC : Nat → Nat
  | 0 => 0
  | i + 1 => baseC i + cnt i
def cellC : Nat → List (Nat × Nat)
  | 0 => []
  | i + 1 => cellC i ++ (List.range (cnt i)).map fun j => (i, j)
end
section
variable {cnt : Nat → Nat}
theorem cell_len : ∀ i, (cellC cnt i).length = baseC cnt i
  | 0 => rfl
  | i + 1 => by rw [cellC, baseC, List.length_append, cell_len i, List.length_map, List.length_range]
theorem cell_put_at : ∀ {n l j : Nat}, l < n → j < cnt l → (cellC cnt n)[baseC cnt l + j]? = some (l, j)
  | n + 1, l, j, hl, hj => by
    rw [cellC]
    by_cases h : l < n
    · have := cell_put_at (n := n) h hj
      rw [List.getElem?_append_left (List.getElem?_eq_some_iff.1 this).1]
      exact this
    · obtain rfl : l = n := by omega
      rw [List.getElem?_append_right (by rw [cell_len]; omega), cell_len, Nat.add_sub_cancel_left, List.getElem?_map, List.getElem?_range hj]
      rfl
theorem cell_get : ∀ {n g l j : Nat}, (cellC cnt n)[g]? = some (l, j) → l < n ∧ j < cnt l ∧ g = baseC cnt l + j
  | 0, g, l, j, h => by simp [cellC] at h
  | n + 1, g, l, j, h => by
    rw [cellC] at h
    by_cases hg : g < baseC cnt n
    · rw [List.getElem?_append_left (by rw [cell_len]; exact hg)] at h
      have := cell_get h
      exact ⟨by omega, this.2⟩
    · rw [List.getElem?_append_right (by rw [cell_len]; omega), cell_len, List.getElem?_map] at h
      cases hr : (List.range (cnt n))[g - baseC cnt n]? with
      | none => rw [hr] at h; cases h
      | some q =>
        rw [hr] at h
        have e := Option.some.inj h
        simp only [Prod.mk.injEq] at e
        obtain ⟨rfl, rfl⟩ := e
        obtain ⟨h1, h2⟩ := List.getElem?_eq_some_iff.1 hr
        rw [List.length_range] at h1
        rw [List.getElem_range] at h2
        omega
end

/-! ## A piece of any of them -/

section
variable {k : Lnk} {m : Nat} {f : Int} {xs : Nat → List Int} {n : Nat}
def cntX (m : Nat) (xs : Nat → List Int) (l : Nat) : Nat := countP m (xs l).length
def pcX (k : Lnk) (m : Nat) (f : Int) (xs : Nat → List Int) (p : Nat × Nat) : List Int := pieceAt k m ((f + baseC (cntX m xs) p.1) % spaceK k) (xs p.1) p.2
/-- What is gathered is a load's beginning, up to the piece that came last. -/
def Gath (k : Lnk) (m : Nat) (f : Int) (xs : Nat → List Int) (n : Nat) (s : BSt) : Prop :=
  s.k = k ∧ s.ok ∧ (s.un = true → ∃ l j, l < n ∧ j + 1 < cntX m xs l ∧ s.nx = (f + ((baseC (cntX m xs) l + j + 1 : Nat) : Int)) % spaceK k ∧ s.has = (xs l).take ((j + 1) * m))
theorem seq_of {a b : Nat} : ((f + (a : Int)) % spaceK k + (b : Int)) % spaceK k = (f + ((a + b : Nat) : Int)) % spaceK k := by
  rw [Int.emod_add_emod, show f + (a : Int) + (b : Int) = f + ((a + b : Nat) : Int) by omega]
theorem mod_inj {a b : Nat} {N : Int} (hN : 0 < N) (ha : (a : Int) < N) (hb : (b : Int) < N) (h : (f + (a : Int)) % N = (f + (b : Int)) % N) : a = b := by
  have h1 := Int.emod_emod_of_dvd (f + a) (Int.dvd_refl N)
  have e : (f + (a : Int) - (f + (b : Int))) % N = 0 := Int.emod_eq_emod_iff_emod_sub_eq_zero.1 h
  have e : ((a : Int) - (b : Int)) % N = 0 := by
    rw [show f + (a : Int) - (f + (b : Int)) = (a : Int) - (b : Int) by omega] at e
    exact e
  have d := Int.dvd_of_emod_eq_zero e
  obtain ⟨q, hq⟩ := d
  have : q = 0 := by
    rcases Int.lt_trichotomy q 0 with h | h | h
    · have : N * q ≤ N * (-1) := Int.mul_le_mul_of_nonneg_left (by omega) (by omega)
      omega
    · exact h
    · have : N * 1 ≤ N * q := Int.mul_le_mul_of_nonneg_left (by omega) (by omega)
      omega
  subst this
  omega

theorem lost_feed {s : BSt} {g l j : Nat} (hk : goodK k) (hm : 1 ≤ m) (hm2 : m ≤ 65527) (hx : ∀ l, l < n → (xs l).length ≤ 65535) (hN : (baseC (cntX m xs) n : Int) ≤ spaceK k) (hs : Gath k m f xs n s) (hc : (cellC (cntX m xs) n)[g]? = some (l, j)) :
    Gath k m f xs n (feedX s (pcX k m f xs (l, j))).2 ∧ (feedX s (pcX k m f xs (l, j))).1.1 = 0 ∧ ((feedX s (pcX k m f xs (l, j))).1.2 = none ∨ (j + 1 = cntX m xs l ∧ (feedX s (pcX k m f xs (l, j))).1.2 = some (xs l))) := by
  obtain ⟨hsk, hok, hun⟩ := hs
  obtain ⟨hl, hj, hg⟩ := cell_get hc
  have hgl : g < baseC (cntX m xs) n := by
    have := (List.getElem?_eq_some_iff.1 hc).1
    rwa [cell_len] at this
  have hxl := hx l hl
  have okx := feedX_ok hok (pcX k m f xs (l, j))
  have kx : (feedX s (pcX k m f xs (l, j))).2.k = k := by rw [feedX_k, hsk]
  have next : (j = 0 ∨ s = stAt k m ((f + baseC (cntX m xs) l) % spaceK k) (xs l) j) → Gath k m f xs n (feedX s (pcX k m f xs (l, j))).2 ∧ (feedX s (pcX k m f xs (l, j))).1.1 = 0 ∧ ((feedX s (pcX k m f xs (l, j))).1.2 = none ∨ (j + 1 = cntX m xs l ∧ (feedX s (pcX k m f xs (l, j))).1.2 = some (xs l))) := by
    intro hst
    have e : feedX s (pcX k m f xs (l, j)) = _ := feed_next (s := s) (k := k) (m := m) (first := (f + baseC (cntX m xs) l) % spaceK k) (xs := xs l) (i := j) hsk hk hm hm2 hxl hj hst
    rw [e] at okx kx ⊢
    by_cases hlast : j + 1 = countP m (xs l).length
    · rw [if_pos hlast] at okx kx ⊢
      exact ⟨⟨kx, okx, fun h => (by cases h)⟩, rfl, .inr ⟨hlast, rfl⟩⟩
    · rw [if_neg hlast] at okx kx ⊢
      refine ⟨⟨kx, okx, fun _ => ⟨l, j, hl, by have : j < countP m (xs l).length := hj; show j + 1 < countP m (xs l).length; omega, ?_, rfl⟩⟩, rfl, .inl rfl⟩
      show ((f + baseC (cntX m xs) l) % spaceK k + ((j + 1 : Nat) : Int)) % spaceK k = _
      rw [seq_of, Nat.add_assoc]
  by_cases h0 : j = 0
  · exact next (.inl h0)
  by_cases hgo : s.un = true ∧ s.nx = ((f + baseC (cntX m xs) l) % spaceK k + (j : Int)) % spaceK k
  · obtain ⟨hu, hnx⟩ := hgo
    obtain ⟨l2, j2, hl2, hj2, e1, e2⟩ := hun hu
    have c2 := cell_put_at (cnt := cntX m xs) (n := n) (l := l2) (j := j2 + 1) hl2 hj2
    have hb2 : baseC (cntX m xs) l2 + (j2 + 1) < baseC (cntX m xs) n := by
      have := (List.getElem?_eq_some_iff.1 c2).1
      rwa [cell_len] at this
    have hnx2 := hnx
    rw [e1, seq_of] at hnx
    have := mod_inj (space_pos k) (by omega) (by omega) hnx
    rw [show baseC (cntX m xs) l2 + (j2 + 1) = g by omega, hc] at c2
    have e := Option.some.inj c2
    simp only [Prod.mk.injEq] at e
    obtain ⟨rfl, rfl⟩ := e
    refine next (.inr ?_)
    cases s with
    | mk sk snx sun shas =>
      simp only at hsk hu hnx2 e2
      subst hsk hu e2
      rw [hnx2]
      rfl
  · have e : feedX s (pcX k m f xs (l, j)) = _ := feed_piece (s := s) (k := k) (m := m) (first := (f + baseC (cntX m xs) l) % spaceK k) (xs := xs l) (i := j) hsk hk hm2
    have e3 : feedS s (decide (j = 0)) (((f + baseC (cntX m xs) l) % spaceK k + j) % spaceK k) = ⟨s.k, ((((f + baseC (cntX m xs) l) % spaceK k + j) % spaceK k) + 1) % spaceK s.k, false, []⟩ := by
      unfold feedS
      rw [if_neg (by rw [decide_eq_false h0]; decide), if_neg (fun h => hgo ⟨h.1, h.2.symm⟩)]
    rw [e3, feedE] at e
    simp only [if_true] at e
    rw [e] at okx kx ⊢
    exact ⟨⟨kx, okx, fun h => (by cases h)⟩, rfl, .inl rfl⟩
/-- Behind a load's last piece none of its own stands. -/
theorem last_of {g l j : Nat} (hc : (cellC (cntX m xs) n)[g]? = some (l, j)) (hlast : j + 1 = cntX m xs l) {l2 j2 : Nat} (h2 : (cellC (cntX m xs) n)[g + 1]? = some (l2, j2)) : l2 ≠ l := by
  rintro rfl
  have a := cell_get hc
  have b := cell_get h2
  omega
end
end Go.Proofs.Ytgjabpgkiaojhaa
