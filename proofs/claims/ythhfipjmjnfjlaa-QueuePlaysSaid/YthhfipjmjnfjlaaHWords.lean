/- Lists of Words: alike, copied, lent, spoilt. -/
import Derived.Test.YthhfipjmjnfjlaaV
import Derived.Test.YthhfipjmjnfjlaaM3
namespace Go.Proofs.Ythhfipjmjnfjlaa
open Go.Rd Go.RowKit
set_option linter.unusedVariables false

theorem slWords : SliceOf Try.prog 54 61 1 4 (.int .u32 0) := ⟨by kernel_rfl, by kernel_rfl, rfl, by decide⟩
abbrev IWords (w : World) (A : Option Addr) (n : Nat) (xs : List Int) : Prop := Rd (Value.int .u32) w A n xs
abbrev OWords (w : World) (A : Option Addr) (c : Nat) (xs : List Int) : Prop := Own 61 1 w A c (xs.map (Value.int .u32))
theorem cellsWords (xs : List Int) : (xs.map (Value.int .u32)).all isCell = true := by simp [isCell]

theorem sameWords_loop {w₀ : World} {A B : Option Addr} {n c d : Nat} {xs ys : List Int} {R : Value → World → Prop} (hx : IWords w₀ A n xs) (hy : IWords w₀ B n ys) (hn : n ≤ 281474976710656)
    (hR : ∀ w, Ext w₀ w → R (.bool (decide (xs = ys))) w) :
    ∀ (k i : Nat), n - i = k → i ≤ n → xs.take i = ys.take i → ∀ w, Ext w₀ w → law0_SameWords.L0 R A n c B n d i w := by
  intro k
  induction k with
  | zero =>
    intro i hk hi he w hw
    have e : xs = ys := by
      rw [List.take_of_length_le (by rw [hx.len]; omega), List.take_of_length_le (by rw [hy.len]; omega)] at he; exact he
    have := hR w hw
    rw [decide_eq_true e] at this
    exact law0_SameWords.L0_step (ifP_no (by omega) this)
  | succ k ih =>
    intro i hk hi he w hw
    have hlt : i < n := by omega
    obtain ⟨a, rfl, ha⟩ := (hx.ext hw).at hlt
    obtain ⟨b, rfl, hb⟩ := (hy.ext hw).at hlt
    refine law0_SameWords.L0_step (ifP_yes (by omega) (letD fun w1 h1 x1 => ⟨by omega, by omega, a, rfl, _, x1.cell ha, by omega, by omega, b, rfl, _, x1.cell hb, ifP_bne.2 ⟨fun hne => ?_, fun heq => ?_⟩⟩))
    · have := hR w1 (hw.trans x1)
      rwa [decide_eq_false] at this
      intro e
      subst e
      exact hne rfl
    · rw [wrap_i64 (by omega) (by omega)]
      refine ih (i + 1) (by omega) (by omega) ?_ w1 (hw.trans x1)
      rw [List.take_add_one, List.take_add_one, he, List.getElem?_eq_getElem (by rw [hx.len]; exact hlt), List.getElem?_eq_getElem (by rw [hy.len]; exact hlt), heq]

theorem sameWords_spec {w : World} {A B : Option Addr} {n m c d : Nat} {xs ys : List Int} (hx : IWords w A n xs) (hy : IWords w B m ys) (hn : n ≤ 281474976710656) :
    Run Try.prog 23 #[.slice A n c, .slice B m d] w fun v w' => v = .bool (decide (xs = ys)) ∧ Ext w w' := by
  refine law0_SameWords.ok (ifP_bne.2 ⟨fun hne => ?_, fun heq => ?_⟩)
  · refine ⟨?_, Ext.refl w⟩
    rw [decide_eq_false]
    intro e
    exact hne (by rw [← hx.len, ← hy.len, e])
  · have : n = m := by omega
    subst this
    exact sameWords_loop hx hy hn (fun w' h => ⟨rfl, h⟩) n 0 (by omega) (by omega) rfl w (Ext.refl w)

/-- New memory that reads 'xs', and what else stood stands. -/
def NewWords (w w' : World) (v : Value) (n : Nat) (xs : List Int) : Prop :=
  ∃ A c, v = .slice A n c ∧ OWords w' A c xs ∧ xs.length = n ∧ (∀ k, blk A k → w.heap.size ≤ k) ∧ Ext w w'

theorem spoilWords_two {w₀ : World} {A : Option Addr} {n c : Nat} {R : Value → World → Prop} (hn : n ≤ 281474976710656)
    (hR : ∀ w, Keep (blk A) w₀ w → R (.tuple #[]) w) :
    ∀ (k i : Nat), n - i = k → i ≤ n → ∀ (w : World), Wr 61 1 w A n → Keep (blk A) w₀ w → law0_SpoilWords.L2 R A n c i w := by
  intro k
  induction k with
  | zero => intro i hk hi w hO hw; exact law0_SpoilWords.L2_step (ifP_no (by omega) (hR w hw))
  | succ k ih =>
    intro i hk hi w hO hw
    obtain ⟨b, cs, rfl, hb, hl⟩ := hO i (by omega)
    have e : (Addr.mk b 0 none).add (Int.toNat (i : Int) * 1) = ⟨b, i, none⟩ := by rw [add_mk]; simp
    refine law0_SpoilWords.L2_step (ifP_yes (by omega) ⟨by omega, by omega, _, rfl, ?_⟩)
    rw [e]
    refine ⟨st_cell hb (by omega), frozen_of hb, letS hb fun w1 h1 k1 s1 => ?_⟩
    rw [wrap_i64 (by omega) (by omega)]
    exact ih (i + 1) (by omega) (by omega) w1 (hO.set hb h1 (by simp) k1) (hw.trans' (k1.mono fun k _ h => blk_some.2 h))

theorem spoilWords_one {w₀ : World} {A F : Option Addr} {n c m fc : Nat} {R : Value → World → Prop} (hn : n ≤ 281474976710656) (hm : m ≤ 281474976710656)
    (hR : ∀ w, Keep (blk A) w₀ w → R (.tuple #[]) w) (hF : ∀ k, blk F k → blk A k ∨ w₀.heap.size ≤ k) :
    ∀ (k i : Nat), m - i = k → i ≤ m → ∀ (w : World), Wr 61 1 w F m → Wr 61 1 w A n → Keep (blk A) w₀ w → law0_SpoilWords.L0 R A n c F m fc i w := by
  intro k
  induction k with
  | zero => intro i hk hi w hO hA hw; exact law0_SpoilWords.L0_step (ifP_no (by omega) (spoilWords_two hn hR n 0 (by omega) (by omega) w hA hw))
  | succ k ih =>
    intro i hk hi w hO hA hw
    obtain ⟨b, cs, rfl, hb, hl⟩ := hO i (by omega)
    have e : (Addr.mk b 0 none).add (Int.toNat (i : Int) * 1) = ⟨b, i, none⟩ := by rw [add_mk]; simp
    refine law0_SpoilWords.L0_step (ifP_yes (by omega) ⟨by omega, by omega, _, rfl, ?_⟩)
    rw [e]
    refine ⟨st_cell hb (by omega), frozen_of hb, letS hb fun w1 h1 k1 s1 => ?_⟩
    rw [wrap_i64 (by omega) (by omega)]
    refine ih (i + 1) (by omega) (by omega) w1 (hO.set hb h1 (by simp) k1) (hA.set hb h1 (by simp) k1) (hw.trans k1 (fun _ _ h => h) fun k hk hs => ?_)
    have hs : k = b := hs
    subst hs
    rcases hF k (blk_some.2 rfl) with h | h
    · exact h
    · omega

theorem spoilWords_spec {w : World} {A : Option Addr} {n c : Nat} {cs : List Value} (hO : Own 61 1 w A c cs) (hl : cs.length = n) (hn : n * 4 ≤ 140737488353280) :
    Run Try.prog 31 #[.slice A n c] w fun v w' => v = .tuple #[] ∧ Keep (blk A) w w' := by
  refine law0_SpoilWords.ok (letA fun w1 h1 x1 s1 => ?_)
  have hB : RdC w1 (some (newA w)) [.int .u32 77] := by
    have : Own 61 1 w1 (some (newA w)) 1 [.int .u32 77] := .inr ⟨_, [], rfl, h1, rfl⟩
    exact this.cells
  have hA1 : Wr 61 1 w1 A n := (hO.ext x1).wr (by omega) (by omega)
  rcases append_cases slWords (ty := 54) (n := n) (d := 1) (hO.ext x1) (by omega) hB (m := 1) rfl rfl (by omega) (by omega) with ⟨hroom, w2, hr, hO2, hk, hs⟩ | ⟨hroom, c2, w2, hr, hO2, hc2, hx, hs⟩
  · refine ⟨_, w2, hr, _, _, _, rfl, ?_⟩
    have hF : Wr 61 1 w2 A (n + 1) := hO2.wr (by omega) (by simp; omega)
    exact spoilWords_one (by omega) (by omega) (fun w h => ⟨rfl, h⟩) (fun k h => .inl h) (n + 1) 0 (by omega) (by omega) w2 hF (fun i hi => hF i (by omega)) ((Keep.ext x1).trans' hk)
  · refine ⟨_, w2, hr, _, _, _, rfl, ?_⟩
    have hF : Wr 61 1 w2 (some ⟨w1.heap.size, 0, none⟩) (n + 1) := hO2.wr (by omega) (by simp; omega)
    exact spoilWords_one (by omega) (by omega) (fun w h => ⟨rfl, h⟩) (fun k h => .inr (by rw [blk_some.1 h]; omega)) (n + 1) 0 (by omega) (by omega) w2 hF (hA1.keep hx fun _ _ h => h) (Keep.ext (x1.trans hx))

end Go.Proofs.Ythhfipjmjnfjlaa
