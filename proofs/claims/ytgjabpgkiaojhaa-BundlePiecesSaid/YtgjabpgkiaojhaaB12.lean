/- The plain laws of bundles: what a piece makes of a bundle. -/
import Derived.Test.YtgjabpgkiaojhaaB11
namespace Go.Proofs.Ytgjabpgkiaojhaa
open Go.Rd Go.RowKit
set_option linter.unusedVariables false
set_option linter.unusedSimpArgs false

section
variable {k : Lnk} {m : Nat} {first : Int} {xs : List Int} {i : Nat} {s : BSt}
theorem space_pos (k : Lnk) : 0 < spaceK k := by have := spaceK_two (k := k); omega
theorem piece_drop : (pieceAt k m first xs i).drop (4 + (headSize k).toNat) = (xs.drop (i * m)).take m := by
  unfold pieceAt
  rw [show 4 + (headSize k).toNat = ([255, 3, 0, 61] : List Int).length + (headSize k).toNat from rfl, ← List.drop_drop, List.drop_left]
  exact List.drop_left' (by rw [headB, fieldB_length])
/-- What is read of a piece. -/
theorem read_made (hk : goodK k) (hm2 : m ≤ 65527) : readX k (pieceAt k m first xs i) = .ok (decide (i = 0), decide (xs.length ≤ (i + 1) * m), (first + i) % spaceK k, ((4 + (headSize k).toNat : Nat) : Int)) := by
  obtain ⟨l1, l2⟩ := piece_length (k := k) (m := m) (first := first) (xs := xs) (i := i)
  have hs := headSize_two (k := k)
  have hsp := spaceK_two (k := k)
  have q0 := Int.emod_nonneg (first + i) (show spaceK k ≠ 0 by omega)
  have q1 := Int.emod_lt_of_pos (first + i) (space_pos k)
  have hh := hs
  have l4 : 4 ≤ (pieceAt k m first xs i).length := by omega
  have e1 : plainX k (pieceAt k m first xs i) = .ok 2 := by
    unfold plainX
    rw [if_pos ⟨by omega, rfl, rfl⟩]
  have e2 : protoX k (pieceAt k m first xs i) 2 = .ok (61, 4) := by
    unfold protoX
    rw [if_neg (by omega), if_neg (show ¬ (pieceAt k m first xs i).getD (Int.toNat 2) 0 % 2 = 1 from by show ¬ (0 : Int) % 2 = 1; decide), if_neg (by omega), if_pos (show (pieceAt k m first xs i).getD (Int.toNat (2 + 1)) 0 % 2 = 1 from by show (61 : Int) % 2 = 1; decide)]
    rfl
  have hd : (pieceAt k m first xs i).drop 4 = headB k (decide (i = 0)) (decide (xs.length ≤ (i + 1) * m)) ((first + i) % spaceK k) ++ (xs.drop (i * m)).take m := rfl
  have hq : (first + i) % spaceK k ≤ seqMask k := by
    have : spaceK k = seqMask k + 1 := by unfold spaceK seqMask; split <;> rfl
    omega
  have e3 := head_made (k := k) (a := 4) q0 hq hd
  rw [headB, fieldB_length] at e3
  have e3 : headX k (pieceAt k m first xs i) 4 = .ok (decide (i = 0), decide (xs.length ≤ (i + 1) * m), (first + i) % spaceK k, ((4 + (headSize k).toNat : Nat) : Int)) := e3
  rw [readX, pastX, if_neg (by rcases hh with h | h <;> omega), e1]
  simp only
  rw [e2]
  simp only [if_true]
  exact e3
theorem feed_piece (hs : s.k = k) (hk : goodK k) (hm2 : m ≤ 65527) : feedX s (pieceAt k m first xs i) = feedE (feedS s (decide (i = 0)) ((first + i) % spaceK k)) (decide (xs.length ≤ (i + 1) * m)) ((xs.drop (i * m)).take m) := by
  subst hs
  rw [feedX_eq (read_made hk hm2), Int.toNat_natCast, piece_drop]
theorem take_next : xs.take (i * m) ++ (xs.drop (i * m)).take m = xs.take ((i + 1) * m) := by
  rw [Nat.add_mul, Nat.one_mul, List.take_add]
def stAt (k : Lnk) (m : Nat) (first : Int) (xs : List Int) (i : Nat) : BSt := ⟨k, (first + i) % spaceK k, true, xs.take (i * m)⟩
def stEnd (k : Lnk) (first : Int) (i : Nat) : BSt := ⟨k, (first + i) % spaceK k, false, []⟩
theorem next_seq : ((first + i) % spaceK k + 1) % spaceK k = (first + ((i + 1 : Nat) : Int)) % spaceK k := by
  rw [Int.emod_add_emod, show first + (i : Int) + 1 = first + ((i + 1 : Nat) : Int) by omega]
/-- The piece that is waited for. -/
theorem feed_next (hs : s.k = k) (hk : goodK k) (hm : 1 ≤ m) (hm2 : m ≤ 65527) (hx : xs.length ≤ 65535) (hi : i < countP m xs.length) (hst : i = 0 ∨ s = stAt k m first xs i) :
    feedX s (pieceAt k m first xs i) = if i + 1 = countP m xs.length then ((0, some xs), stEnd k first (i + 1)) else ((0, none), stAt k m first xs (i + 1)) := by
  have hc := count_lt (m := m) (n := xs.length) (i := i + 1) hm
  have e3 : feedS s (decide (i = 0)) ((first + i) % spaceK k) = ⟨k, (first + ((i + 1 : Nat) : Int)) % spaceK k, true, xs.take (i * m)⟩ := by
    unfold feedS
    by_cases h0 : i = 0
    · rw [if_pos (decide_eq_true h0), hs, next_seq, h0]
      simp
    · have hst := hst.resolve_left h0
      rw [if_neg (by rw [decide_eq_false h0]; decide), hst, if_pos ⟨rfl, rfl⟩]
      simp only [stAt]
      rw [next_seq]
  rw [feed_piece hs hk hm2, e3, feedE]
  simp only [take_next, if_false, Bool.true_eq_false]
  have hlen : ¬ 65535 < (xs.take ((i + 1) * m)).length := by rw [List.length_take]; omega
  rw [if_neg hlen]
  by_cases hl : i + 1 = countP m xs.length
  · have h2 : xs.length ≤ (i + 1) * m := by
      by_cases h3 : xs.length ≤ (i + 1) * m
      · exact h3
      · have := hc.2 (.inr (by omega)); omega
    rw [if_pos hl, decide_eq_true h2, if_neg (by decide), List.take_of_length_le h2]
    rfl
  · have h2 : ¬ xs.length ≤ (i + 1) * m := by
      have := hc.1 (by omega)
      omega
    rw [if_neg hl, decide_eq_false h2, if_pos rfl]
    rfl
theorem stAt_ok (hk : goodK k) (hx : xs.length ≤ 65535) : (stAt k m first xs i).ok := by
  have := spaceK_two (k := k)
  refine ⟨hk, ⟨Int.emod_nonneg _ (show spaceK k ≠ 0 by omega), Int.emod_lt_of_pos _ (space_pos k)⟩, fun h => (by cases h), ?_⟩
  simp only [stAt, List.length_take]
  omega
end
end Go.Proofs.Ytgjabpgkiaojhaa
