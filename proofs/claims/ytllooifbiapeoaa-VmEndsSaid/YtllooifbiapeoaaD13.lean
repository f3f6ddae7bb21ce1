/- The statement over any bytes, as a program. -/
import Derived.Test.YtllooifbiapeoaaD12
import Derived.Test.YtllooifbiapeoaaIDecode
namespace Go.Proofs.Ytllooifbiapeoaa
open Go.Rd Go.RowKit
set_option linter.unusedVariables false
set_option linter.unusedSimpArgs false
set_option maxRecDepth 100000
theorem be_range : ∀ (xs : List Int) {v : Int}, 0 ≤ v → v ≤ 4294967295 → 0 ≤ be v xs ∧ be v xs ≤ 4294967295
  | [], v, h0, h1 => ⟨h0, h1⟩
  | x :: xs, v, h0, h1 => by
    have e : be v (x :: xs) = be (orI .u32 (IntKind.u32.wrap (v * 2 ^ 8)) (IntKind.u32.wrap x)) xs := rfl
    rw [e]
    have r : ∀ z : Int, 0 ≤ IntKind.u32.wrap z ∧ IntKind.u32.wrap z ≤ 4294967295 := fun z => by rw [wrap_u32_mod]; omega
    exact be_range xs (r _).1 (r _).2
theorem decAt_ok {xs : List Int} (hx : ∀ x ∈ xs, 0 ≤ x ∧ x ≤ 255) (i : Nat) : (decAt xs i).ok := by
  have g : ∀ j : Nat, 0 ≤ xs.getD j 0 ∧ xs.getD j 0 ≤ 255 := getD_byte hx
  refine ⟨?_, g _, g _, be_range _ (by decide) (by decide)⟩
  have : ∀ z : Int, 0 ≤ IntKind.u16.wrap z ∧ IntKind.u16.wrap z ≤ 65535 := fun z => by
    simp only [IntKind.wrap, IntKind.bits, IntKind.signed]; simp; omega
  exact this _
theorem decL_ok {xs : List Int} (hx : ∀ x ∈ xs, 0 ≤ x ∧ x ≤ 255) (k : Nat) : Inss (decL xs k) := by
  intro i hi
  unfold decL at hi
  rw [List.mem_map] at hi
  obtain ⟨j, _, rfl⟩ := hi
  exact decAt_ok hx _

theorem VmEnds_main {W : World} {A P : Option Addr} {n c pn pc : Nat} {xs pkt : List Int} (h : IBytes W A n xs) (hx : ∀ x ∈ xs, 0 ≤ x ∧ x ≤ 255) (hn : n ≤ 140737488351232) (hp : IBytes W P pn pkt) :
    Run Try.prog 10 #[.slice A n c, .slice P pn pc] W (Good W) := by
  have hl := h.len
  refine law5_VmEnds.ok ((copyBytes_spec h (by omega)).mono ?_)
  rintro v w1 ⟨A1, c1, rfl, o1, l1, b1, x1⟩
  refine ⟨_, _, _, rfl, (decode_spec (o1.rd l1) (o1.len (by omega) (by simp [l1])) (by omega)).mono ?_⟩
  intro v w2 d
  have idle : ∀ {w2 : World} {B : Option Addr} {m bc : Nat}, Go.Rd.Ext W w2 → law5_VmEnds.J0 (Good W) P pn pc B m bc true w2 := by
    intro w2 B m bc x2
    refine ifP_t rfl (awake_spec.mono ?_)
    rintro v w3 ⟨rfl, x3⟩
    exact ⟨_, rfl, rfl, Fr.of_ext (x2.trans x3)⟩
  unfold DecOf at d
  split at d
  · obtain ⟨rfl, rfl⟩ := d
    exact ⟨_, _, _, _, rfl, ifP_ne (by decide) (idle x1)⟩
  · split at d
    · obtain ⟨rfl, rfl⟩ := d
      exact ⟨_, _, _, _, rfl, ifP_ne (by decide) (idle x1)⟩
    · obtain ⟨A2, c2, rfl, o2, b2, x2⟩ := d
      have i2 : IInsns w2 A2 (n / 8) (decL xs (n / 8)) := o2.rdM (decL_length ..)
      have x02 := x1.trans x2
      refine ⟨_, _, _, _, rfl, ifP_nne rfl ?_⟩
      by_cases hb : pn ≤ 65536
      · refine ifP_no (by omega) ((ends_spec i2 (decL_ok hx _) (by omega) (hp.ext x02) hb).mono ?_)
        rintro v w3 ⟨rfl, x3⟩
        refine ⟨_, rfl, ifP_t rfl (awake_spec.mono ?_)⟩
        rintro v w4 ⟨rfl, x4⟩
        exact ⟨_, rfl, rfl, Fr.of_ext ((x02.trans x3).trans x4)⟩
      · rw [show decide (((pn : Nat) : Int) > 65536) = true by rw [decide_eq_true_eq]; omega]
        exact idle x02
end Go.Proofs.Ytllooifbiapeoaa
