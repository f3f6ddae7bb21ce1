/- Decode of Encode, Encode of Decode: plain laws. -/
import Derived.Test.YtbbhjnhcdjjjeaaNum
import Derived.Test.YtbbhjnhcdjjjeaaEnc
import Derived.Test.YtbbhjnhcdjjjeaaDec
namespace Go.Proofs.Ytbbhjnhcdjjjeaa
open Go.Rd Go.RowKit
set_option linter.unusedVariables false
set_option linter.unusedSimpArgs false

theorem encI_list (p : Ins) : encI p = [p.c / 256 % 256, p.c % 256, p.t % 256, p.f % 256, p.k / 256 / 256 / 256 % 256, p.k / 256 / 256 % 256, p.k / 256 % 256, p.k % 256] := rfl

theorem decAt_of {xs r : List Int} {i : Nat} {b0 b1 b2 b3 b4 b5 b6 b7 : Int} (h : xs.drop i = [b0, b1, b2, b3, b4, b5, b6, b7] ++ r) (hb : Bytes [b0, b1, b2, b3, b4, b5, b6, b7]) :
    decAt xs i = ⟨256 * b0 + b1, b2, b3, 16777216 * b4 + 65536 * b5 + 256 * b6 + b7⟩ := by
  have h0 := hb b0 (by simp)
  have h1 := hb b1 (by simp)
  have h4 := hb b4 (by simp)
  have h5 := hb b5 (by simp)
  have h6 := hb b6 (by simp)
  have h7 := hb b7 (by simp)
  have e1 : getV xs (i : Int) 2 = 256 * b0 + b1 := by
    rw [getV_at (ys := [b0, b1]) (zs := [b2, b3, b4, b5, b6, b7] ++ r) h rfl, be_two h0 h1]
  have d4 : xs.drop (i + 4) = [b4, b5, b6, b7] ++ r := by rw [← List.drop_drop, h]; rfl
  have e2 : getV xs ((i + 4 : Nat) : Int) 4 = 16777216 * b4 + 65536 * b5 + 256 * b6 + b7 := by
    rw [getV_at (ys := [b4, b5, b6, b7]) (zs := r) d4 rfl, be_four h4 h5 h6 h7]
  have e3 : ∀ j, xs.getD (i + j) 0 = (xs.drop i).getD j 0 := fun j => by rw [List.getD_eq_getElem?_getD, List.getD_eq_getElem?_getD, List.getElem?_drop]
  unfold decAt
  rw [e1, e2, e3 2, e3 3, h, wrap_u16 (by omega) (by omega)]
  rfl

theorem eight : ∀ {l : List Int}, 8 ≤ l.length → ∃ b0 b1 b2 b3 b4 b5 b6 b7 r, l = [b0, b1, b2, b3, b4, b5, b6, b7] ++ r
  | b0 :: b1 :: b2 :: b3 :: b4 :: b5 :: b6 :: b7 :: r, _ => ⟨b0, b1, b2, b3, b4, b5, b6, b7, r, rfl⟩
  | [], h | [_], h | [_, _], h | [_, _, _], h | [_, _, _, _], h | [_, _, _, _, _], h | [_, _, _, _, _, _], h | [_, _, _, _, _, _, _], h => by simp at h

theorem enc_dec {xs : List Int} {i : Nat} (hb : Bytes xs) (h : i + 8 ≤ xs.length) : encI (decAt xs i) = (xs.drop i).take 8 ∧ (decAt xs i).ok := by
  obtain ⟨b0, b1, b2, b3, b4, b5, b6, b7, r, e⟩ := eight (l := xs.drop i) (by rw [List.length_drop]; omega)
  have hm : ∀ x ∈ [b0, b1, b2, b3, b4, b5, b6, b7] ++ r, 0 ≤ x ∧ x ≤ 255 := fun x hx => hb x (List.mem_of_mem_drop (e ▸ hx))
  have hB : Bytes [b0, b1, b2, b3, b4, b5, b6, b7] := fun x hx => hm x (List.mem_append_left _ hx)
  have h0 := hB b0 (by simp)
  have h1 := hB b1 (by simp)
  have h2 := hB b2 (by simp)
  have h3 := hB b3 (by simp)
  have h4 := hB b4 (by simp)
  have h5 := hB b5 (by simp)
  have h6 := hB b6 (by simp)
  have h7 := hB b7 (by simp)
  have et : ([b0, b1, b2, b3, b4, b5, b6, b7] ++ r).take 8 = [b0, b1, b2, b3, b4, b5, b6, b7] := rfl
  rw [decAt_of e hB, e, encI_list, et]
  refine ⟨?_, ⟨by dsimp only; omega, by dsimp only; omega⟩, h2, h3, by dsimp only; omega, by dsimp only; omega⟩
  have e1 : (256 * b0 + b1) / 256 % 256 = b0 := by omega
  have e2 : (256 * b0 + b1) % 256 = b1 := by omega
  have e3 : b2 % 256 = b2 := by omega
  have e4 : b3 % 256 = b3 := by omega
  have e5 : (16777216 * b4 + 65536 * b5 + 256 * b6 + b7) / 256 / 256 / 256 % 256 = b4 := by omega
  have e6 : (16777216 * b4 + 65536 * b5 + 256 * b6 + b7) / 256 / 256 % 256 = b5 := by omega
  have e7 : (16777216 * b4 + 65536 * b5 + 256 * b6 + b7) / 256 % 256 = b6 := by omega
  have e8 : (16777216 * b4 + 65536 * b5 + 256 * b6 + b7) % 256 = b7 := by omega
  dsimp only
  rw [e1, e2, e3, e4, e5, e6, e7, e8]

theorem encL_decL {xs : List Int} (hb : Bytes xs) : ∀ k : Nat, 8 * k ≤ xs.length → (decL xs k).flatMap encI = xs.take (8 * k)
  | 0, _ => by simp [decL]
  | k + 1, h => by
    rw [decL_succ, List.flatMap_append, encL_decL hb k (by omega)]
    have := (enc_dec hb (i := 8 * k) (by omega)).1
    rw [List.flatMap_cons, List.flatMap_nil, List.append_nil, this, show 8 * (k + 1) = 8 * k + 8 by omega, List.take_add]
theorem decL_ok {xs : List Int} (hb : Bytes xs) {k : Nat} (h : 8 * k ≤ xs.length) : ∀ p ∈ decL xs k, p.ok := by
  intro p hp
  obtain ⟨i, hi, rfl⟩ := List.mem_map.1 hp
  have := List.mem_range.1 hi
  exact (enc_dec hb (i := 8 * i) (by omega)).2

theorem decL_encL {ps : List Ins} (hok : ∀ p ∈ ps, p.ok) : decL (ps.flatMap encI) ps.length = ps := by
  apply List.ext_getElem
  · rw [decL_length]
  · intro i h1 h2
    have e : (ps.flatMap encI).drop (8 * i) = encI ps[i] ++ (ps.drop (i + 1)).flatMap encI := by
      rw [Nat.mul_comm, ← flat_drop encI_length, List.drop_eq_getElem_cons h2, List.flatMap_cons]
    obtain ⟨⟨c0, c1⟩, ⟨t0, t1⟩, ⟨f0, f1⟩, k0, k1⟩ := hok ps[i] (List.getElem_mem h2)
    rw [encI_list] at e
    have := decAt_of e (by
      intro x hx
      simp only [List.mem_cons, List.not_mem_nil, or_false] at hx
      rcases hx with rfl | rfl | rfl | rfl | rfl | rfl | rfl | rfl <;> omega)
    simp only [decL, List.getElem_map, List.getElem_range]
    rw [this]
    generalize ps[i] = p at *
    obtain ⟨c, t, f, k⟩ := p
    dsimp only at *
    congr 1 <;> omega
end Go.Proofs.Ytbbhjnhcdjjjeaa
