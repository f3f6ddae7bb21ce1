/- Lists of Bytes: alike, copied, lent, spoilt. -/
import Derived.Test.YthhfipjmjnfjlaaV
import Derived.Test.YthhfipjmjnfjlaaM3
namespace Go.Proofs.Ythhfipjmjnfjlaa
open Go.Rd Go.RowKit
set_option linter.unusedVariables false

theorem slBytes : SliceOf Try.prog 35 5 1 1 (.int .u8 0) := ⟨by kernel_rfl, by kernel_rfl, rfl, by decide⟩
abbrev IBytes (w : World) (A : Option Addr) (n : Nat) (xs : List Int) : Prop := Rd (Value.int .u8) w A n xs
abbrev OBytes (w : World) (A : Option Addr) (c : Nat) (xs : List Int) : Prop := Own 5 1 w A c (xs.map (Value.int .u8))
theorem cellsBytes (xs : List Int) : (xs.map (Value.int .u8)).all isCell = true := by simp [isCell]

theorem sameBytes_loop {w₀ : World} {A B : Option Addr} {n c d : Nat} {xs ys : List Int} {R : Value → World → Prop} (hx : IBytes w₀ A n xs) (hy : IBytes w₀ B n ys) (hn : n ≤ 281474976710656)
    (hR : ∀ w, Ext w₀ w → R (.bool (decide (xs = ys))) w) :
    ∀ (k i : Nat), n - i = k → i ≤ n → xs.take i = ys.take i → ∀ w, Ext w₀ w → law0_SameBytes.L0 R A n c B n d i w := by
  intro k
  induction k with
  | zero =>
    intro i hk hi he w hw
    have e : xs = ys := by
      rw [List.take_of_length_le (by rw [hx.len]; omega), List.take_of_length_le (by rw [hy.len]; omega)] at he; exact he
    have := hR w hw
    rw [decide_eq_true e] at this
    exact law0_SameBytes.L0_step (ifP_no (by omega) this)
  | succ k ih =>
    intro i hk hi he w hw
    have hlt : i < n := by omega
    obtain ⟨a, rfl, ha⟩ := (hx.ext hw).at hlt
    obtain ⟨b, rfl, hb⟩ := (hy.ext hw).at hlt
    refine law0_SameBytes.L0_step (ifP_yes (by omega) (letD fun w1 h1 x1 => ⟨by omega, by omega, a, rfl, _, x1.cell ha, by omega, by omega, b, rfl, _, x1.cell hb, ifP_bne.2 ⟨fun hne => ?_, fun heq => ?_⟩⟩))
    · have := hR w1 (hw.trans x1)
      rwa [decide_eq_false] at this
      intro e
      subst e
      exact hne rfl
    · rw [wrap_i64 (by omega) (by omega)]
      refine ih (i + 1) (by omega) (by omega) ?_ w1 (hw.trans x1)
      rw [List.take_add_one, List.take_add_one, he, List.getElem?_eq_getElem (by rw [hx.len]; exact hlt), List.getElem?_eq_getElem (by rw [hy.len]; exact hlt), heq]

theorem sameBytes_spec {w : World} {A B : Option Addr} {n m c d : Nat} {xs ys : List Int} (hx : IBytes w A n xs) (hy : IBytes w B m ys) (hn : n ≤ 281474976710656) :
    Run Try.prog 19 #[.slice A n c, .slice B m d] w fun v w' => v = .bool (decide (xs = ys)) ∧ Ext w w' := by
  refine law0_SameBytes.ok (ifP_bne.2 ⟨fun hne => ?_, fun heq => ?_⟩)
  · refine ⟨?_, Ext.refl w⟩
    rw [decide_eq_false]
    intro e
    exact hne (by rw [← hx.len, ← hy.len, e])
  · have : n = m := by omega
    subst this
    exact sameBytes_loop hx hy hn (fun w' h => ⟨rfl, h⟩) n 0 (by omega) (by omega) rfl w (Ext.refl w)

/-- New memory that reads 'xs', and what else stood stands. -/
def NewBytes (w w' : World) (v : Value) (n : Nat) (xs : List Int) : Prop :=
  ∃ A c, v = .slice A n c ∧ OBytes w' A c xs ∧ xs.length = n ∧ (∀ k, blk A k → w.heap.size ≤ k) ∧ Ext w w'

theorem copyBytes_spec {w : World} {A : Option Addr} {n c : Nat} {xs : List Int} (hx : IBytes w A n xs) (hn : n * 1 ≤ 140737488355328) :
    Run Try.prog 38 #[.slice A n c] w fun v w' => NewBytes w w' v n xs := by
  refine law0_CopyBytes.ok (letA fun w1 h1 x1 s1 => ?_)
  have hO : Own 5 1 w1 (some (newA w)) 0 [] := .inr ⟨_, [], rfl, h1, rfl⟩
  obtain ⟨A', c', w2, hr, hO', hc', hk, hb⟩ := append_own slBytes (ty := 35) (n := 0) (d := c) hO rfl (hx.cells.ext x1) (m := n) (by simp [hx.len]) (cellsBytes xs) (by omega) (by omega)
  refine ⟨_, w2, hr, _, _, _, rfl, A', c', by simp, by simpa using hO', hx.len, ?_, ?_⟩
  · intro k hk'
    rcases hb k hk' with h | h
    · rw [blk_some.1 h]; exact Nat.le_refl _
    · omega
  · exact x1.fresh hk fun k h => by rw [blk_some.1 h]; exact Nat.le_refl _

theorem lendBytes_spec {w : World} {A : Option Addr} {n c : Nat} {xs : List Int} (hx : IBytes w A n xs) (hn : n * 1 ≤ 140737488351232) :
    Run Try.prog 32 #[.slice A n c] w fun v w' => ∃ A' c', v = .slice A' n c' ∧ OBytes w' A' c' (xs ++ [201, 201, 201]) ∧ (∀ k, blk A' k → w.heap.size ≤ k) ∧ Ext w w' := by
  refine law0_LendBytes.ok ((copyBytes_spec hx (by omega)).mono ?_)
  rintro v w1 ⟨A1, c1, rfl, hO, hc, hb1, x1⟩
  refine ⟨_, _, _, rfl, letA fun w2 h2 x2 s2 => ?_⟩
  have hB : RdC w2 (some (newA w1)) ([201, 201, 201].map (Value.int .u8)) := by
    have : Own 5 1 w2 (some (newA w1)) 3 ([201, 201, 201].map (Value.int .u8)) := .inr ⟨_, [], rfl, h2, rfl⟩
    exact this.cells
  obtain ⟨A', c', w3, hr, hO', hc', hk, hb⟩ := append_own slBytes (ty := 35) (n := n) (d := 3) (hO.ext x2) (by simp [hx.len]) hB (m := 3) rfl (cellsBytes _) (by omega) (by omega)
  refine ⟨_, w3, hr, _, _, _, rfl, by omega, by omega, by omega, A', c', ?_, ?_, ?_, ?_⟩
  · rw [subA_zero]; simp
  · rw [OBytes, List.map_append]; exact hO'
  · intro k hk'
    rcases hb k hk' with h | h
    · exact hb1 k h
    · have := x1.size; omega
  · exact (x1.trans x2).fresh hk fun k h => hb1 k h

theorem spoilBytes_two {w₀ : World} {A : Option Addr} {n c : Nat} {R : Value → World → Prop} (hn : n ≤ 281474976710656)
    (hR : ∀ w, Keep (blk A) w₀ w → R (.tuple #[]) w) :
    ∀ (k i : Nat), n - i = k → i ≤ n → ∀ (w : World), Wr 5 1 w A n → Keep (blk A) w₀ w → law0_SpoilBytes.L2 R A n c i w := by
  intro k
  induction k with
  | zero => intro i hk hi w hO hw; exact law0_SpoilBytes.L2_step (ifP_no (by omega) (hR w hw))
  | succ k ih =>
    intro i hk hi w hO hw
    obtain ⟨b, cs, rfl, hb, hl⟩ := hO i (by omega)
    have e : (Addr.mk b 0 none).add (Int.toNat (i : Int) * 1) = ⟨b, i, none⟩ := by rw [add_mk]; simp
    refine law0_SpoilBytes.L2_step (ifP_yes (by omega) ⟨by omega, by omega, _, rfl, ?_⟩)
    rw [e]
    refine ⟨st_cell hb (by omega), frozen_of hb, letS hb fun w1 h1 k1 s1 => ?_⟩
    rw [wrap_i64 (by omega) (by omega)]
    exact ih (i + 1) (by omega) (by omega) w1 (hO.set hb h1 (by simp) k1) (hw.trans' (k1.mono fun k _ h => blk_some.2 h))

theorem spoilBytes_one {w₀ : World} {A F : Option Addr} {n c m fc : Nat} {R : Value → World → Prop} (hn : n ≤ 281474976710656) (hm : m ≤ 281474976710656)
    (hR : ∀ w, Keep (blk A) w₀ w → R (.tuple #[]) w) (hF : ∀ k, blk F k → blk A k ∨ w₀.heap.size ≤ k) :
    ∀ (k i : Nat), m - i = k → i ≤ m → ∀ (w : World), Wr 5 1 w F m → Wr 5 1 w A n → Keep (blk A) w₀ w → law0_SpoilBytes.L0 R A n c F m fc i w := by
  intro k
  induction k with
  | zero => intro i hk hi w hO hA hw; exact law0_SpoilBytes.L0_step (ifP_no (by omega) (spoilBytes_two hn hR n 0 (by omega) (by omega) w hA hw))
  | succ k ih =>
    intro i hk hi w hO hA hw
    obtain ⟨b, cs, rfl, hb, hl⟩ := hO i (by omega)
    have e : (Addr.mk b 0 none).add (Int.toNat (i : Int) * 1) = ⟨b, i, none⟩ := by rw [add_mk]; simp
    refine law0_SpoilBytes.L0_step (ifP_yes (by omega) ⟨by omega, by omega, _, rfl, ?_⟩)
    rw [e]
    refine ⟨st_cell hb (by omega), frozen_of hb, letS hb fun w1 h1 k1 s1 => ?_⟩
    rw [wrap_i64 (by omega) (by omega)]
    refine ih (i + 1) (by omega) (by omega) w1 (hO.set hb h1 (by simp) k1) (hA.set hb h1 (by simp) k1) (hw.trans k1 (fun _ _ h => h) fun k hk hs => ?_)
    have hs : k = b := hs
    subst hs
    rcases hF k (blk_some.2 rfl) with h | h
    · exact h
    · omega

theorem spoilBytes_spec {w : World} {A : Option Addr} {n c : Nat} {cs : List Value} (hO : Own 5 1 w A c cs) (hl : cs.length = n) (hn : n * 1 ≤ 140737488353280) :
    Run Try.prog 26 #[.slice A n c] w fun v w' => v = .tuple #[] ∧ Keep (blk A) w w' := by
  refine law0_SpoilBytes.ok (letA fun w1 h1 x1 s1 => ?_)
  have hB : RdC w1 (some (newA w)) [.int .u8 201] := by
    have : Own 5 1 w1 (some (newA w)) 1 [.int .u8 201] := .inr ⟨_, [], rfl, h1, rfl⟩
    exact this.cells
  have hA1 : Wr 5 1 w1 A n := (hO.ext x1).wr (by omega) (by omega)
  rcases append_cases slBytes (ty := 35) (n := n) (d := 1) (hO.ext x1) (by omega) hB (m := 1) rfl rfl (by omega) (by omega) with ⟨hroom, w2, hr, hO2, hk, hs⟩ | ⟨hroom, c2, w2, hr, hO2, hc2, hx, hs⟩
  · refine ⟨_, w2, hr, _, _, _, rfl, ?_⟩
    have hF : Wr 5 1 w2 A (n + 1) := hO2.wr (by omega) (by simp; omega)
    exact spoilBytes_one (by omega) (by omega) (fun w h => ⟨rfl, h⟩) (fun k h => .inl h) (n + 1) 0 (by omega) (by omega) w2 hF (fun i hi => hF i (by omega)) ((Keep.ext x1).trans' hk)
  · refine ⟨_, w2, hr, _, _, _, rfl, ?_⟩
    have hF : Wr 5 1 w2 (some ⟨w1.heap.size, 0, none⟩) (n + 1) := hO2.wr (by omega) (by simp; omega)
    exact spoilBytes_one (by omega) (by omega) (fun w h => ⟨rfl, h⟩) (fun k h => .inr (by rw [blk_some.1 h]; omega)) (n + 1) 0 (by omega) (by omega) w2 hF (hA1.keep hx fun _ _ h => h) (Keep.ext (x1.trans hx))

theorem keptBytes_spec {w : World} {A B : Option Addr} {n c d : Nat} {xs : List Int} (hO : OBytes w A c (xs ++ [201, 201, 201])) (hx : IBytes w B n xs) (hn : n * 1 ≤ 140737488351232) :
    Run Try.prog 34 #[.slice A n c, .slice B n d] w fun v w' => v = .bool true ∧ Keep (blk A) w w' := by
  have hlen : xs.length = n := hx.len
  have hc : n + 3 ≤ c := by have := hO.len (n := n + 3) (by omega) (by simp [hlen]); exact this
  have e3 : IntKind.i64.wrap ((n : Int) + 3) = ((n + 3 : Nat) : Int) := by rw [wrap_i64 (by omega) (by omega)]; rfl
  have hA : IBytes w A n xs := by
    have := (hO.cells).take n
    rw [← List.map_take, List.take_left' hlen] at this
    exact this.rd hlen
  refine law0_KeptBytes.ok ?_
  rw [law0_KeptBytes.vc, e3]
  refine ⟨by omega, by omega, by omega, (sameBytes_spec hA hx (by omega)).mono ?_⟩
  rintro v w1 ⟨rfl, x1⟩
  refine ⟨_, rfl, ifP_t (by simp) ⟨by omega, by omega, by omega, letA fun w2 h2 x2 s2 => ?_⟩⟩
  have hO2 : OBytes w2 A c (xs ++ [201, 201, 201]) := (hO.ext x1).ext x2
  have hB : IBytes w2 (some (newA w1)) 3 [201, 201, 201] := by
    have : OBytes w2 (some (newA w1)) 3 [201, 201, 201] := .inr ⟨_, [], rfl, h2, rfl⟩
    exact this.rd rfl
  rw [subA_zero]
  have hS : IBytes w2 (subA A (c - 0) (Int.toNat (n : Int)) 1) (Int.toNat ((n + 3 : Nat) : Int) - 0 - Int.toNat (n : Int)) [201, 201, 201] := by
    have h := hO2.cells.drop n (c := c - 0) (by omega)
    rw [← List.map_drop, List.drop_left' hlen] at h
    rw [show Int.toNat (n : Int) = n by omega, show Int.toNat ((n + 3 : Nat) : Int) - 0 - n = 3 by omega]
    exact h.rd rfl
  refine (sameBytes_spec hS hB (by omega)).mono ?_
  rintro v w3 ⟨rfl, x3⟩
  refine ⟨_, rfl, ?_⟩
  refine (spoilBytes_spec (hO2.ext x3) (n := n + 3) (by simp [hlen]) (by omega) (c := c)).mono ?_
  rintro v w4 ⟨rfl, k4⟩
  exact ⟨rfl, by simp, (Keep.ext ((x1.trans x2).trans x3)).trans' k4⟩

end Go.Proofs.Ythhfipjmjnfjlaa
