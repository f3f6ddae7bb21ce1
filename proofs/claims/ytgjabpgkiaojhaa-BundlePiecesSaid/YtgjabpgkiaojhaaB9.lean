/- The statements over bundles: feeding a copy; awake. -/
import Derived.Test.YtgjabpgkiaojhaaB8
namespace Go.Proofs.Ytgjabpgkiaojhaa
open Go.Rd Go.RowKit
set_option linter.unusedVariables false
set_option linter.unusedSimpArgs false

/-- A copy is fed. -/
theorem copy_feed {w : World} {u : Nat} {F : Nat → Prop} {s : BSt} {A : Option Addr} {n c : Nat} {xs : List Int} (h : BOk w u F s) (ok : s.ok) (hp : IBytes w A n xs) (hx : ∀ x ∈ xs, 0 ≤ x ∧ x ≤ 255) (hn : n ≤ 140737488351232) {φ : Value → World → Prop}
    (hφ : ∀ v w2, FeedOf w (feedX s xs).1 v w2 → BStep w u F (feedX s xs).2 w2 → φ v w2) :
    Run Try.prog 14 #[.slice A n c] w fun v w1 => ∃ (A1 : Option Addr) (n1 c1 : Nat), v = .slice A1 n1 c1 ∧ Run Try.prog 22 #[.pointer (some ⟨u, 0, none⟩), .slice A1 n1 c1] w1 φ := by
  refine (copyBytes_spec hp (by omega)).mono ?_
  rintro v w1 ⟨A1, c1, rfl, o1, l1, b1, x1⟩
  have cap : n ≤ c1 := by
    by_cases h0 : 0 < n
    · exact Own.len (n := n) (by omega) o1 (by rw [List.length_map]; omega)
    · omega
  refine ⟨A1, n, c1, rfl, (feed_spec (h.ext x1) ok (o1.rd l1) hx cap (by omega) (fun _ k hk hF => ?_) (fun _ k hk => o1.lt k hk)).mono ?_⟩
  · have := b1 k hk
    have := h.lt hF
    omega
  · rintro v w2 ⟨⟨A2, c2, e2, o2, b2⟩, st⟩
    exact hφ v w2 ⟨A2, c2, e2, o2, fun k hk => Nat.le_trans x1.size (b2 k hk)⟩ (BStep.more x1 st.step)

def k1 : Lnk := ⟨false, false, 1⟩
def pA : List Int := [255, 3, 0, 61, 143, 255, 1, 2]
def pB : List Int := [255, 3, 0, 61, 64, 0, 3]
theorem awake_split : splitX k1 2 4095 [1, 2, 3] = .ok [pA, pB] := by kernel_rfl
theorem awake_one : feedX ⟨k1, 4095, false, []⟩ pA = ((0, none), ⟨k1, 0, true, [1, 2]⟩) := by kernel_rfl
theorem awake_two : feedX ⟨k1, 0, true, [1, 2]⟩ pB = ((0, some [1, 2, 3]), ⟨k1, 1, false, []⟩) := by kernel_rfl
theorem bawake_spec {w : World} : Run Try.prog 18 #[] w fun v w' => v = .bool true ∧ Go.Rd.Ext w w' := by
  refine law9_awake.ok (letA fun w1 h1 x1 s1 => st_lnk (k := k1) h1 rfl fun w2 h2 k2 => ?_)
  have x02 : Go.Rd.Ext w w2 := x1.fresh k2 fun i hi => by rw [hi]; exact Nat.le_refl _
  refine h2.rd (letA fun w3 h3 x3 s3 => ?_)
  have i3 : IBytes w3 (some (newA w2)) 3 [1, 2, 3] := lit_rd (f := Value.int .u8) (xs := [1, 2, 3]) h3 rfl
  refine (split_spec (k := k1) (most := 2) (first := 4095) i3 (Nat.le_refl 3) (by decide) (by decide) (by decide) (by decide)).mono ?_
  intro v w4 hv
  rw [awake_split] at hv
  obtain ⟨A, c, rfl, m4⟩ := hv
  have x4 := m4.x
  have hk4 := (h2.ext x3).ext x4
  refine ⟨_, _, _, _, rfl, hk4.rd ((new_spec (k := k1) (nx := 4095) (by decide)).mono ?_)⟩
  rintro v w5 ⟨x5, hv⟩
  rcases hv with ⟨hg, _⟩ | ⟨_, hg, _⟩ | ⟨_, _, b, rfl, hb, ok5⟩
  · exact absurd (show goodK k1 from .inl rfl) hg
  · exact absurd hg (by decide)
  have r4 := m4.rd
  obtain ⟨p1a, p1, hA1, c1, i1, e1⟩ := (r4.ext x5).at (i := 1) (by decide)
  have e1 : pB = p1.xs := Option.some.inj e1
  rw [← e1] at i1
  have n1 : p1.n = 7 := i1.len.symm
  refine ⟨_, _, rfl, ifP_nne rfl (ifP_nne rfl (ifP_f rfl (ifP_nne rfl ⟨by decide, by decide, p1a, hA1, _, _, p1.c, c1, letA fun w6 h6 x6 s6 => ?_⟩)))⟩
  have i6 : IBytes w6 (some (newA w5)) 7 pB := lit_rd (f := Value.int .u8) (xs := pB) h6 rfl
  refine (sameBytes_spec (i1.ext x6) i6 (by omega)).mono ?_
  rintro v w7 ⟨rfl, x7⟩
  have x57 := x6.trans x7
  have x47 := x5.trans x57
  obtain ⟨p0a, p0, hA0, c0, i0, e0⟩ := (r4.ext x47).at (i := 0) (by decide)
  have e0 : pA = p0.xs := Option.some.inj e0
  rw [← e0] at i0
  have n0 : p0.n = 8 := i0.len.symm
  have okk : (BSt.mk k1 4095 false []).ok := ⟨.inl rfl, ⟨by decide, by decide⟩, fun _ => rfl, by decide⟩
  refine ⟨_, rfl, ifP_f (by simp) ⟨by decide, by decide, p0a, hA0, _, _, p0.c, c0, copy_feed (ok5.ext x57) okk i0 (by decide) (by omega) ?_⟩⟩
  intro v w8 hf st
  rw [awake_one] at hf st
  obtain ⟨J, jc, rfl, o8, b8⟩ := hf
  obtain ⟨F8, ok8, k8, n8⟩ := st
  have z4 := x4.size
  have x58 : Go.Rd.Ext w4 w8 := x47.fresh k8 fun i hi => by rw [hi]; exact hb
  obtain ⟨p2a, p2, hA2, c2, i2, e2⟩ := (r4.ext x58).at (i := 1) (by decide)
  have e2 : pB = p2.xs := Option.some.inj e2
  rw [← e2] at i2
  have n2 : p2.n = 7 := i2.len.symm
  have okk2 : (BSt.mk k1 0 true [1, 2]).ok := ⟨.inl rfl, ⟨by decide, by decide⟩, fun h => (by cases h), by decide⟩
  have nF8 : ∀ k, F8 k → w4.heap.size ≤ k := fun k hk => by
    rcases n8 k hk with h | h
    · rw [h]; exact hb
    · exact Nat.le_trans x47.size h
  refine ⟨_, _, _, _, _, rfl, by decide, by decide, p2a, hA2, _, _, p2.c, c2, copy_feed ok8 okk2 i2 (by decide) (by omega) ?_⟩
  intro v w9 hf st
  rw [awake_two] at hf st
  obtain ⟨J9, jc9, rfl, o9, b9⟩ := hf
  obtain ⟨F9, ok9, k9, n9⟩ := st
  have x49 : Go.Rd.Ext w4 w9 := x58.fresh k9 nF8
  refine ⟨_, _, _, _, _, rfl, (waits_spec ok9).mono ?_⟩
  rintro v w10 ⟨rfl, x10⟩
  refine ⟨_, _, rfl, ifP_t rfl (ifP_t rfl (ifP_eq rfl (letA fun w11 h11 x11 s11 => ?_)))⟩
  have i11 : IBytes w11 (some (newA w10)) 3 [1, 2, 3] := lit_rd (f := Value.int .u8) (xs := [1, 2, 3]) h11 rfl
  refine (sameBytes_spec (((o9.ext x10).ext x11).rd rfl) i11 (by decide)).mono ?_
  rintro v w12 ⟨rfl, x12⟩
  exact ⟨_, rfl, ifP_t rfl (ifP_eq rfl ⟨rfl, (((((x02.trans x3).trans x4).trans x49).trans x10).trans x11).trans x12⟩)⟩
end Go.Proofs.Ytgjabpgkiaojhaa
