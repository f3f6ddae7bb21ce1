/- The statements over Check and Reach of any program. -/
import Derived.Test.YtkkfdpmjockelaaC3
import Derived.Test.YtkkfdpmjockelaaIDecode
namespace Go.Proofs.Ytkkfdpmjockelaa
open Go.Rd Go.RowKit
set_option linter.unusedVariables false
set_option linter.unusedSimpArgs false

/-- The call returns true, and what stood stands. -/
def Good (W : World) (v : Value) (w' : World) : Prop := v = .bool true ∧ Fr W w'

theorem lit_insns {w w1 : World} {xs : List Ins} {cs : Array Value} (h : w1.heap[w.heap.size]? = some (.cells cs 39 (0, 0))) (hx : cs = (xs.flatMap Ins.v).toArray) : OInsns w1 (some (newA w)) xs.length xs :=
  .inr ⟨_, [], rfl, by rw [List.append_nil, ← hx]; exact h, by rw [List.append_nil, flat_len Ins.len]⟩

theorem awake_spec {w : World} : Run Try.prog 13 #[] w fun v w' => v = .bool true ∧ Ext w w' := by
  refine law4_awake.ok (letA fun w1 h1 x1 s1 => ?_)
  have i1 : IInsns w1 (some (newA w)) 2 [⟨7, 0, 0, 0⟩, ⟨135, 0, 0, 0⟩] := (lit_insns h1 rfl).rdM rfl
  refine (check_spec i1 (by intro i hi; simp at hi; rcases hi with rfl | rfl <;> simp [Ins.ok]) (by omega)).mono ?_
  rintro v w2 ⟨rfl, x2⟩
  refine ⟨_, _, rfl, letA fun w3 h3 x3 s3 => ?_⟩
  have i3 : IInsns w3 (some (newA w2)) 1 [⟨22, 0, 0, 0⟩] := (lit_insns h3 rfl).rdM rfl
  refine (check_spec i3 (by intro i hi; simp at hi; rcases hi with rfl; simp [Ins.ok]) (by omega)).mono ?_
  rintro v w4 ⟨rfl, x4⟩
  refine ⟨_, _, rfl, letA fun w5 h5 x5 s5 => ?_⟩
  have i5 : IInsns w5 (some (newA w4)) 3 [⟨5, 0, 0, 1⟩, ⟨7, 0, 0, 0⟩, ⟨6, 0, 0, 0⟩] := (lit_insns h5 rfl).rdM rfl
  refine (reach_spec i5 (by intro i hi; simp at hi; rcases hi with rfl | rfl | rfl <;> simp [Ins.ok]) (by omega)).mono ?_
  rintro v w6 ⟨O, oc, rfl, o6, b6, x6⟩
  have e1 : checkV [⟨7, 0, 0, 0⟩, ⟨135, 0, 0, 0⟩] = (1, 47) := by decide +kernel
  have e3 : checkV [⟨22, 0, 0, 0⟩] = (0, 0) := by decide +kernel
  have e5 : checkV [⟨5, 0, 0, 1⟩, ⟨7, 0, 0, 0⟩, ⟨6, 0, 0, 0⟩] = (0, 0) := by decide +kernel
  have e6 : reachR [⟨5, 0, 0, 1⟩, ⟨7, 0, 0, 0⟩, ⟨6, 0, 0, 0⟩] = [true, false, true] := by decide +kernel
  rw [e1, e3, e5, e6]
  rw [e6] at o6
  refine ⟨_, _, _, _, rfl, ifP_eq rfl (ifP_eq rfl (ifP_eq rfl (ifP_eq rfl (letA fun w7 h7 x7 s7 => ?_))))⟩
  have o7 : OBools w7 (some (newA w6)) 3 [true, false, true] := .inr ⟨_, [], rfl, h7, rfl⟩
  refine (sameBools_spec ((o6.ext x7).rd rfl) (o7.rd rfl) (by decide)).mono ?_
  rintro v w8 ⟨rfl, x8⟩
  exact ⟨_, rfl, rfl, ((((((x1.trans x2).trans x3).trans x4).trans x5).trans x6).trans x7).trans x8⟩

theorem lent_read {w : World} {A : Option Addr} {n c : Nat} {xs : List Ins} (h : OInsns w A c (xs ++ [bad, bad, bad])) (hl : xs.length = n) : IInsns w A n xs := by
  have := (h.rdM (n := n + 3) (by simp [hl])).take Ins.len (k := n) (by omega)
  rwa [List.take_left' hl] at this

theorem CheckChecks_main {W : World} {A : Option Addr} {n c : Nat} {xs : List Ins} (h : IInsns W A n xs) (hi : Inss xs) (hn : n * 8 ≤ 140737488351232) :
    Run Try.prog 3 #[.slice A n c] W (Good W) := by
  have hl := h.len
  refine law4_CheckChecks.ok ((rcheck_spec h hi (by omega)).mono ?_)
  rintro v w1 ⟨rfl, x1⟩
  have f1 := Fr.of_ext x1
  refine ⟨_, _, rfl, (lendInsns_spec (h.fr f1) (by omega)).mono ?_⟩
  rintro v w2 ⟨A2, c2, rfl, o2, b2, x2⟩
  have f2 := f1.ext x2
  refine ⟨_, _, _, rfl, (check_spec (lent_read o2 hl) hi (by omega)).mono ?_⟩
  rintro v w3 ⟨rfl, x3⟩
  have f3 := f2.ext x3
  refine ⟨_, _, rfl, (keptInsns_spec (o2.ext x3) (h.fr f3) (by omega)).mono ?_⟩
  rintro v w4 ⟨rfl, k4⟩
  have f4 := f3.blk k4 fun k hk => by have := b2 k hk; have := f1.size; omega
  refine ⟨_, rfl, ifP_t rfl (ifP_eq rfl (ifP_eq rfl (awake_spec.mono ?_)))⟩
  rintro v w5 ⟨rfl, x5⟩
  exact ⟨_, rfl, rfl, f4.ext x5⟩

theorem CheckReaches_main {W : World} {A : Option Addr} {n c : Nat} {xs : List Ins} (h : IInsns W A n xs) (hi : Inss xs) (hn : n * 8 ≤ 140737488351232) :
    Run Try.prog 4 #[.slice A n c] W (Good W) := by
  have hl := h.len
  have m1 := reachR_small (xs := xs)
  refine law4_CheckReaches.ok ((rreach_spec h hi (by omega)).mono ?_)
  rintro v w1 ⟨A1, c1, rfl, o1, b1, x1⟩
  have f1 := Fr.of_ext x1
  refine ⟨_, _, _, _, rfl, (lendInsns_spec (h.fr f1) (by omega)).mono ?_⟩
  rintro v w2 ⟨A2, c2, rfl, o2, b2, x2⟩
  have f2 := f1.ext x2
  refine ⟨_, _, _, rfl, (reach_spec (lent_read o2 hl) hi (by omega)).mono ?_⟩
  rintro v w3 ⟨A3, c3, rfl, o3, b3, x3⟩
  have f3 := f2.ext x3
  refine ⟨_, _, _, _, rfl, (keptInsns_spec (o2.ext x3) (h.fr f3) (by omega)).mono ?_⟩
  rintro v w4 ⟨rfl, k4⟩
  have f4 := f3.blk k4 fun k hk => by have := b2 k hk; have := f1.size; omega
  have L1 := o1.lt
  have L2 := o2.lt
  have L3 := o3.lt
  have o1 := ((o1.ext x2).ext x3).keep k4 fun k hk hk2 => by have := L1 k hk; have := b2 k hk2; omega
  have o3 := o3.keep k4 fun k hk hk2 => by have := b3 k hk; have := L2 k hk2; omega
  refine ⟨_, rfl, ifP_f rfl ((copyInsns_spec (h.fr f4) (by omega)).mono ?_)⟩
  rintro v w5 ⟨A5, c5, rfl, o5, l5, b5, x5⟩
  have f5 := f4.ext x5
  refine ⟨_, _, _, rfl, (reach_spec (o5.rdM l5) hi (by omega)).mono ?_⟩
  rintro v w6 ⟨A6, c6, rfl, o6, b6, x6⟩
  have f6 := f5.ext x6
  have o1 := (o1.ext x5).ext x6
  have o3 := (o3.ext x5).ext x6
  refine ⟨_, _, _, _, rfl, ifP_nne rfl (ifP_nne rfl ((sameBools_spec (o3.rd rfl) (o1.rd rfl) (by omega)).mono ?_))⟩
  rintro v w7 ⟨rfl, x7⟩
  have f7 := f6.ext x7
  refine ⟨_, rfl, ifP_f (by simp) ((spoilBools_spec (o3.ext x7) (by rw [List.length_map]) (by omega)).mono ?_)⟩
  rintro v w8 ⟨rfl, k8⟩
  have s4 : w3.heap.size ≤ w4.heap.size := k4.size
  have s5 := x5.size
  have s2 := x2.size
  have f8 := f7.blk k8 fun k hk => by have := b3 k hk; have := f2.size; omega
  have o6 := (o6.ext x7).keep k8 fun k hk hk2 => by have := b6 k hk; have := L3 k hk2; omega
  have o1 := (o1.ext x7).keep k8 fun k hk hk2 => by have := L1 k hk; have := b3 k hk2; omega
  refine ⟨rfl, (sameBools_spec (o6.rd rfl) (o1.rd rfl) (by omega)).mono ?_⟩
  rintro v w9 ⟨rfl, x9⟩
  refine ⟨_, rfl, ifP_t (by simp) (awake_spec.mono ?_)⟩
  rintro v w10 ⟨rfl, x10⟩
  exact ⟨_, rfl, rfl, (f8.ext x9).ext x10⟩

/-! ## Out of bytes -/

theorem be_range : ∀ (xs : List Int) {v : Int}, 0 ≤ v → v ≤ 4294967295 → 0 ≤ be v xs ∧ be v xs ≤ 4294967295
  | [], v, h0, h1 => ⟨h0, h1⟩
  | x :: xs, v, h0, h1 => by
    have e : be v (x :: xs) = be (orI .u32 (IntKind.u32.wrap (v * 2 ^ 8)) (IntKind.u32.wrap x)) xs := rfl
    rw [e]
    have r : ∀ z : Int, 0 ≤ IntKind.u32.wrap z ∧ IntKind.u32.wrap z ≤ 4294967295 := fun z => by rw [wrap_u32_mod]; omega
    exact be_range xs (r _).1 (r _).2
theorem decAt_ok {xs : List Int} (hx : ∀ x ∈ xs, 0 ≤ x ∧ x ≤ 255) (i : Nat) : (decAt xs i).ok := by
  have g : ∀ j : Nat, 0 ≤ xs.getD j 0 ∧ xs.getD j 0 ≤ 255 := fun j => by
    rw [List.getD_eq_getElem?_getD]
    cases hj : xs[j]? with
    | none => exact ⟨by decide, by decide⟩
    | some y => exact hx y (List.mem_of_getElem? hj)
  refine ⟨?_, g _, g _, be_range _ (by decide) (by decide)⟩
  have : ∀ z : Int, 0 ≤ IntKind.u16.wrap z ∧ IntKind.u16.wrap z ≤ 65535 := fun z => by
    simp only [IntKind.wrap, IntKind.bits, IntKind.signed]; simp; omega
  exact this _
theorem decL_ok {xs : List Int} (hx : ∀ x ∈ xs, 0 ≤ x ∧ x ≤ 255) (k : Nat) : Inss (decL xs k) := by
  intro i hi
  unfold decL at hi
  rw [List.mem_map] at hi
  obtain ⟨j, _, rfl⟩ := hi
  exact decAt_ok hx _

theorem CheckBytes_main {W : World} {A : Option Addr} {n c : Nat} {xs : List Int} (h : IBytes W A n xs) (hx : ∀ x ∈ xs, 0 ≤ x ∧ x ≤ 255) (hn : n ≤ 140737488351232) :
    Run Try.prog 8 #[.slice A n c] W (Good W) := by
  have hl := h.len
  refine law4_CheckBytes.ok ((copyBytes_spec h (by omega)).mono ?_)
  rintro v w1 ⟨A1, c1, rfl, o1, l1, b1, x1⟩
  have f1 := Fr.of_ext x1
  refine ⟨_, _, _, rfl, (decode_spec (o1.rd l1) (o1.len (by omega) (by simp [l1])) (by omega)).mono ?_⟩
  intro v w2 d
  have wrong : ∀ e : Int, e ≠ 0 → v = .tuple #[.slice none 0 0, .int .i64 e] ∧ w2 = w1 → ∃ (t120A : Option Addr) (t120n t120c : Nat), ∃ t121 : Int, v = (.tuple #[(.slice t120A t120n t120c), (.int .i64 t121)]) ∧ ifP ((t121 : Int) != 0)
    (Run Try.prog 13 #[] w2 fun v_3 w_4 => ∃ t17 : Bool, v_3 = (.bool t17) ∧ Good W (.bool t17) w_4)
    (Run Try.prog 9 #[(.slice t120A t120n t120c)] w2 fun v_4 w_5 => ∃ t200 : Int, ∃ t201 : Int, v_4 = (.tuple #[(.int .i64 t200), (.int .i64 t201)]) ∧ Run Try.prog 11 #[(.slice t120A t120n t120c)] w_5 fun v_5 w_6 => ∃ t250 : Int, ∃ t251 : Int, v_5 = (.tuple #[(.int .i64 t250), (.int .i64 t251)]) ∧ ifP ((t250 : Int) == t200) (ifP ((t251 : Int) == t201) (Run Try.prog 13 #[] w_6 fun v_6 w_7 => ∃ t37 : Bool, v_6 = (.bool t37) ∧ law4_CheckBytes.J0 (Good W) t37 w_7) (law4_CheckBytes.J0 (Good W) false w_6)) (law4_CheckBytes.J0 (Good W) false w_6)) := by
    rintro e he ⟨rfl, rfl⟩
    refine ⟨_, _, _, _, rfl, ifP_ne he (awake_spec.mono ?_)⟩
    rintro v w3 ⟨rfl, x3⟩
    exact ⟨_, rfl, rfl, f1.ext x3⟩
  unfold DecOf at d
  split at d
  · exact wrong 20 (by decide) d
  · split at d
    · exact wrong 21 (by decide) d
    · obtain ⟨A2, c2, rfl, o2, b2, x2⟩ := d
      have f2 := f1.ext x2
      have i2 : IInsns w2 A2 (n / 8) (decL xs (n / 8)) := o2.rdM (decL_length ..)
      refine ⟨_, _, _, _, rfl, ifP_nne rfl ((rcheck_spec i2 (decL_ok hx _) (by omega)).mono ?_)⟩
      rintro v w3 ⟨rfl, x3⟩
      refine ⟨_, _, rfl, (check_spec (i2.ext x3) (decL_ok hx _) (by omega)).mono ?_⟩
      rintro v w4 ⟨rfl, x4⟩
      refine ⟨_, _, rfl, ifP_eq rfl (ifP_eq rfl (awake_spec.mono ?_))⟩
      rintro v w5 ⟨rfl, x5⟩
      exact ⟨_, rfl, rfl, ((f2.ext x3).ext x4).ext x5⟩
end Go.Proofs.Ytkkfdpmjockelaa
