/- The statement on the limit of all ticks. -/
import Derived.Test.YtbhfcpilhiojaaaC3
namespace Go.Proofs.Ytbhfcpilhiojaaa
open Go.Rd Go.RowKit
set_option linter.unusedVariables false
set_option linter.unusedSimpArgs false

theorem sat_succ {k : Int} (h : k < 4294967295) : sat k = k + 1 := by unfold sat; split <;> omega
theorem overB_zero (n : Int) : overB n 0 = false := by simp [overB]
theorem overB_pos {n l : Int} (h : 0 < l) : overB n l = decide (n ≥ l) := by
  have : (l != 0) = true := bne_iff_ne.2 (by omega)
  simp [overB, this]

theorem why_a {n k t : Int} (hk : 0 ≤ k) (ht : k < t) (h2 : t ≤ 200) : (Ck.mk n 0 k t true).why = if k + 1 = t then 2 else 0 := by
  simp only [Ck.why, overB_zero, sat_succ (k := k) (by omega), overB_pos (l := t) (by omega)]
  by_cases h : k + 1 = t
  · have : k + 1 ≥ t := by omega
    simp [h, this]
  · have : ¬ (k + 1 ≥ t) := by omega
    simp [h, this]
theorem tick_a {n k t : Int} (hk : 0 ≤ k) (ht : k < t) (h2 : t ≤ 200) : (Ck.mk n 0 k t true).tick = if k + 1 = t then Ck.mk 0 0 0 t false else Ck.mk (sat n) 0 (k + 1) t true := by
  have hw := why_a (n := n) hk ht h2
  unfold Ck.tick
  by_cases h : k + 1 = t
  · simp [hw, h, Ck.grown, Ck.stop]
  · simp [hw, h, Ck.grown, sat_succ (k := k) (by omega)]
theorem why_b {n k t : Int} (hn : 0 ≤ n) (hnk : n ≤ k) (ht : k < t) (h2 : t ≤ 200) : (Ck.mk n t k t true).why = if n + 1 = t then 1 else if k + 1 = t then 2 else 0 := by
  simp only [Ck.why, sat_succ (k := k) (by omega), sat_succ (k := n) (by omega), overB_pos (l := t) (by omega)]
  by_cases h : n + 1 = t
  · have : n + 1 ≥ t := by omega
    simp [h, this]
  · have : ¬ (n + 1 ≥ t) := by omega
    by_cases h' : k + 1 = t
    · have h'' : k + 1 ≥ t := by omega
      simp [h, this, h', h'']
    · have h'' : ¬ (k + 1 ≥ t) := by omega
      simp [h, this, h', h'']
theorem tick_b {n k t : Int} (hn : 0 ≤ n) (hnk : n ≤ k) (ht : k < t) (h2 : t ≤ 200) (hne : k + 1 ≠ t) : (Ck.mk n t k t true).tick = Ck.mk (n + 1) t (k + 1) t true := by
  have hw := why_b hn hnk ht h2
  have h1 : n + 1 ≠ t := by omega
  unfold Ck.tick
  simp [hw, h1, hne, Ck.grown, sat_succ (k := k) (by omega), sat_succ (k := n) (by omega)]
theorem why_c {k : Int} : (Ck.mk k 0 k 0 true).why = 0 := by simp [Ck.why, overB_zero]
theorem tick_c {k : Int} (h : 0 ≤ k) (h2 : k ≤ 200) : (Ck.mk k 0 k 0 true).tick = Ck.mk (k + 1) 0 (k + 1) 0 true := by
  simp [Ck.tick, why_c, Ck.grown, sat_succ (k := k) (by omega)]

theorem ClockMosts_main {W : World} {most : Int} (hm0 : 0 ≤ most) {touch : Bool} : Run Try.prog 5 #[.int .u32 most, .bool touch] W (Good W) := by
  have et : IntKind.i64.wrap (IntKind.i64.wrap (Int.tmod most 200) + 1) = most % 200 + 1 := by
    rw [tmod_pos hm0, wrap_i64 (x := most % 200) (by omega) (by omega), wrap_i64 (by omega) (by omega)]
  have eu : IntKind.u32.wrap (most % 200 + 1) = most % 200 + 1 := wrap_u32 (by omega) (by omega)
  have ht0 : 0 < most % 200 + 1 := by omega
  have ht : most % 200 + 1 ≤ 200 := by omega
  refine law22_ClockMosts.ok ?_
  rw [law22_ClockMosts.vc, et, eu]
  clear et
  generalize most % 200 + 1 = t at *
  refine new_spec.mono ?_
  rintro v w1 ⟨rfl, a1, x1, s1⟩
  refine ⟨_, rfl, new_spec.mono ?_⟩
  rintro v w2 ⟨rfl, b1, x2, s2⟩
  refine ⟨_, rfl, new_spec.mono ?_⟩
  rintro v w3 ⟨rfl, c1, x3, s3⟩
  refine ⟨_, rfl, ifP_f rfl (ifP_f rfl (ifP_f rfl ?_))⟩
  have a1 := x3.heap (x2.heap a1)
  have b1 := x3.heap b1
  have f3 : Fr W w3 := ((Fr.of_ext x1).ext x2).ext x3
  generalize hA : W.heap.size = A at *
  generalize hB : w1.heap.size = B at *
  generalize hC : w2.heap.size = C at *
  have oA : ∀ k, k = A → W.heap.size ≤ k := by omega
  have oB : ∀ k, k = B → W.heap.size ≤ k := by omega
  have oC : ∀ k, k = C → W.heap.size ≤ k := by omega
  refine (start_spec a1).mono ?_
  rintro v w4 ⟨rfl, a4, k4⟩
  have b4 := k4.heap b1 (by omega)
  have c4 := k4.heap c1 (by omega)
  have f4 := f3.step k4 oA
  refine ⟨rfl, (start_spec b4).mono ?_⟩
  rintro v w5 ⟨rfl, b5, k5⟩
  have a5 := k5.heap a4 (by omega)
  have c5 := k5.heap c4 (by omega)
  have f5 := f4.step k5 oB
  refine ⟨rfl, (start_spec c5).mono ?_⟩
  rintro v w6 ⟨rfl, c6, k6⟩
  have a6 := k6.heap a5 (by omega)
  have b6 := k6.heap b5 (by omega)
  have f6 := f5.step k6 oC
  refine ⟨rfl, ?_⟩
  have loop : ∀ (d : Nat) (i : Int), (t + 1 - i).toNat = d → 1 ≤ i → i ≤ t + 1 → ∀ (w : World) (n : Int) (ca cb : Ck), ca.ok → cb.ok →
      (i ≤ t → ca = Ck.mk 0 0 (i - 1) t true ∧ cb = Ck.mk n t (i - 1) t true ∧ n = if touch then 0 else i - 1) → (i = t + 1 → ca.g = false ∧ ca.n1 = 0 ∧ ca.n2 = 0) →
      At w A ca.obj → At w B cb.obj → At w C (Ck.mk (i - 1) 0 (i - 1) 0 true).obj → Fr W w →
      law22_ClockMosts.L0 (Good W) touch t (some ⟨A, 0, none⟩) (some ⟨B, 0, none⟩) (some ⟨C, 0, none⟩) i w := by
    intro d
    induction d with
    | zero =>
      intro i hd h1 h2 w n ca cb oka okb hab hend a b c f
      have hi : i = t + 1 := by omega
      obtain ⟨e1, e2, e3⟩ := hend hi
      refine law22_ClockMosts.L0_step (ifP_no (by omega) ((now_spec c).mono ?_))
      rintro v w1 ⟨rfl, rfl⟩
      refine ⟨_, _, _, rfl, (now_spec (w := w.drew) a).mono ?_⟩
      rintro v w2 ⟨rfl, rfl⟩
      refine ⟨_, _, _, rfl, ifP_t rfl ?_⟩
      rw [e1, e2, e3, eu]
      refine ifP_eq (by show i - 1 = t; omega) (ifP_t rfl (ifP_eq rfl (ifP_eq rfl (awake_spec.mono ?_))))
      rintro v w' ⟨rfl, f'⟩
      exact ⟨_, rfl, rfl, ((f.ext (Ext.drew _)).ext (Ext.drew _)).ext ⟨f'.os, f'.tape, f'.output, f'.size, fun k hk _ => f'.block k hk⟩⟩
    | succ d ih =>
      intro i hd h1 h2 w n ca cb oka okb hab hend a b c f
      obtain ⟨rfl, rfl, hn⟩ := hab (by omega)
      have hn0 : 0 ≤ n ∧ n ≤ i - 1 := by rw [hn]; split <;> omega
      refine law22_ClockMosts.L0_step (ifP_yes (by omega) ((tick_spec a oka).mono ?_))
      rintro v w1 ⟨rfl, a1, k1⟩
      have b1 := k1.heap b (by omega)
      have c1 := k1.heap c (by omega)
      have f1 := f.step k1 oA
      refine ⟨_, rfl, (tick_spec b1 okb).mono ?_⟩
      rintro v w2 ⟨rfl, b2, k2⟩
      have a2 := k2.heap a1 (by omega)
      have c2 := k2.heap c1 (by omega)
      have f2 := f1.step k2 oB
      have okc : (Ck.mk (i - 1) 0 (i - 1) 0 true).ok := ⟨by simp; omega, by simp; omega, by simp; omega, by simp; omega⟩
      refine ⟨_, rfl, (tick_spec c2 okc).mono ?_⟩
      rintro v w3 ⟨rfl, c3, k3⟩
      have a3 := k3.heap a2 (by omega)
      have b3 := k3.heap b2 (by omega)
      have f3 := f2.step k3 oC
      rw [tick_c (by omega) (by omega)] at c3
      have wa := why_a (n := 0) (k := i - 1) (t := t) (by omega) (by omega) ht
      have wb := why_b (n := n) (k := i - 1) (t := t) hn0.1 hn0.2 (by omega) ht
      -- what stands behind the comparisons
      have rest : law22_ClockMosts.J3 (Good W) touch t (some ⟨A, 0, none⟩) (some ⟨B, 0, none⟩) (some ⟨C, 0, none⟩) i false w3 := by
        refine ifP_f rfl ((touch_spec a3).mono ?_)
        rintro v w4 ⟨rfl, a4, k4⟩
        have b4 := k4.heap b3 (by omega)
        have c4 := k4.heap c3 (by omega)
        have f4 := f3.step k4 oA
        have ta : (i + 1 ≤ t → (Ck.mk 0 0 (i - 1) t true).tick.touch = Ck.mk 0 0 (i + 1 - 1) t true) ∧ (i + 1 = t + 1 → (Ck.mk 0 0 (i - 1) t true).tick.touch.g = false ∧ (Ck.mk 0 0 (i - 1) t true).tick.touch.n1 = 0 ∧ (Ck.mk 0 0 (i - 1) t true).tick.touch.n2 = 0) := by
          rw [tick_a (by omega) (by omega) ht]
          refine ⟨fun h => ?_, fun h => ?_⟩
          · rw [if_neg (by omega)]
            show Ck.mk 0 0 (i - 1 + 1) t true = _
            rw [show i - 1 + 1 = i + 1 - 1 by omega]
          · rw [if_pos (by omega)]; exact ⟨rfl, rfl, rfl⟩
        have e3 : Ck.mk (i - 1 + 1) 0 (i - 1 + 1) 0 true = Ck.mk (i + 1 - 1) 0 (i + 1 - 1) 0 true := by rw [show i - 1 + 1 = i + 1 - 1 by omega]
        rw [e3] at c4
        have next : ∀ (w : World) (cb : Ck), cb.ok → (i + 1 ≤ t → ∃ n, cb = Ck.mk n t (i + 1 - 1) t true ∧ n = if touch then 0 else i + 1 - 1) → At w A (Ck.mk 0 0 (i - 1) t true).tick.touch.obj → At w B cb.obj →
            At w C (Ck.mk (i + 1 - 1) 0 (i + 1 - 1) 0 true).obj → Fr W w → law22_ClockMosts.J4 (Good W) touch t (some ⟨A, 0, none⟩) (some ⟨B, 0, none⟩) (some ⟨C, 0, none⟩) i w := by
          intro w cb okb hb a b c f
          unfold law22_ClockMosts.J4
          rw [wrap_i64 (by omega) (by omega)]
          by_cases hi : i + 1 ≤ t
          · obtain ⟨n', hb1, hb2⟩ := hb hi
            clear hb
            exact ih (i + 1) (by omega) (by omega) (by omega) w n' _ cb (Ck.ok_touch (Ck.ok_tick oka)) okb (fun h => ⟨ta.1 h, hb1, hb2⟩) ta.2 a b c f
          · clear hb
            exact ih (i + 1) (by omega) (by omega) (by omega) w 0 _ cb (Ck.ok_touch (Ck.ok_tick oka)) okb (fun h => absurd h hi) ta.2 a b c f
        have tb : i + 1 ≤ t → (Ck.mk n t (i - 1) t true).tick = Ck.mk (n + 1) t (i + 1 - 1) t true := fun h => by
          rw [tick_b hn0.1 hn0.2 (by omega) ht (by omega), show i - 1 + 1 = i + 1 - 1 by omega]
        refine ⟨rfl, ifP_of (fun htc => ?_) (fun htc => ?_)⟩
        · refine (touch_spec b4).mono ?_
          rintro v w5 ⟨rfl, b5, k5⟩
          exact ⟨rfl, next w5 _ (Ck.ok_touch (Ck.ok_tick okb)) (fun h => ⟨0, by rw [tb h]; rfl, by simp [htc]⟩) (k5.heap a4 (by omega)) b5 (k5.heap c4 (by omega)) (f4.step k5 oB)⟩
        · have hn' : n = i - 1 := by simpa [htc] using hn
          have hn2 : n + 1 = if touch then 0 else i + 1 - 1 := by rw [htc, if_neg (by simp)]; omega
          exact next w4 _ (Ck.ok_tick okb) (fun h => ⟨n + 1, tb h, hn2⟩) a4 b4 c4 f4
      have cmp : ∀ (x y want other : Int), x = want → y = other → law22_ClockMosts.J2 (Good W) touch t (some ⟨A, 0, none⟩) (some ⟨B, 0, none⟩) (some ⟨C, 0, none⟩) i x y (Ck.mk (i - 1) 0 (i - 1) 0 true).why want other w3 := by
        intro x y want other hx hy
        have : (((Ck.mk (i - 1) 0 (i - 1) 0 true).why : Int) != 0) = false := by rw [why_c]; rfl
        unfold law22_ClockMosts.J2
        rw [this]
        exact ifP_nne hx (ifP_nne hy rest)
      refine ⟨_, rfl, ifP_int (fun he => ?_) (fun hne => ?_)⟩
      · have w1 : (Ck.mk 0 0 (i - 1) t true).why = 2 := by rw [wa, if_pos (by omega)]
        refine ifP_of (fun htc => ?_) (fun htc => ?_)
        · have hn' : n = 0 := by simpa [htc] using hn
          subst hn'
          refine ifP_dec (fun h => ?_) (fun h => ?_)
          · have g1 : ¬ ((0 : Int) + 1 = t) := by omega
            have g2 : i - 1 + 1 = t := by omega
            exact cmp _ _ _ _ w1 (by rw [wb, if_neg g1, if_pos g2])
          · have g1 : (0 : Int) + 1 = t := by omega
            exact cmp _ _ _ _ w1 (by rw [wb, if_pos g1])
        · have hn' : n = i - 1 := by simpa [htc] using hn
          exact ifP_f rfl (cmp _ _ _ _ w1 (by rw [wb, if_pos (by omega)]))
      · exact cmp _ _ _ _ (by rw [wa, if_neg (by omega)]) (by rw [wb, if_neg (by omega), if_neg (by omega)])
  refine loop _ 1 rfl (by omega) (by omega) w6 0 _ _ Ck.ok_start Ck.ok_start (fun _ => ⟨rfl, rfl, ?_⟩) (fun h => by omega) a6 b6 c6 f6
  cases touch <;> rfl

end Go.Proofs.Ytbhfcpilhiojaaa
