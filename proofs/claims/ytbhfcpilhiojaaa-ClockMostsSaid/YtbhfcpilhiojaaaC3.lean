/- The statements over clocks. -/
import Derived.Test.YtbhfcpilhiojaaaC2
namespace Go.Proofs.Ytbhfcpilhiojaaa
open Go.Rd Go.RowKit
set_option linter.unusedVariables false

def Good (W : World) (v : Value) (w' : World) : Prop := v = .bool true ∧ Fr W w'

/-! ## ClockPlays -/

theorem plays_loop {W : World} {A : Option Addr} {n cc : Nat} {xs : List Int} (h : Rd (.int .i64) W A n xs) (hn : n ≤ 140737488351232) (hA : ∀ a, A = some a → 0 < n → a.block < W.heap.size)
    {b1 b2 b3 b4 : Nat} (h1 : W.heap.size ≤ b1) (h2 : W.heap.size ≤ b2) (h3 : W.heap.size ≤ b3) (h4 : W.heap.size ≤ b4)
    (d12 : b1 ≠ b2) (d13 : b1 ≠ b3) (d14 : b1 ≠ b4) (d23 : b2 ≠ b3) (d24 : b2 ≠ b4) (d34 : b3 ≠ b4) :
    ∀ (d i : Nat), n - i = d → i ≤ n → ∀ (w : World) (c e : Ck), c.ok → e.ok → At w b1 c.obj → At w b3 c.ref → At w b2 e.obj → At w b4 e.ref → Fr W w →
      law22_ClockPlays.L0 (Good W) A n cc (some ⟨b1, 0, none⟩) (some ⟨b2, 0, none⟩) ⟨b3, 0, none⟩ ⟨b4, 0, none⟩ i w := by
  intro d
  induction d with
  | zero =>
    intro i hd hi w c e hc he a1 a3 a2 a4 f
    refine law22_ClockPlays.L0_step (ifP_no (by omega) (awake_spec.mono ?_))
    rintro v w' ⟨rfl, f'⟩
    exact ⟨_, rfl, rfl, f.ext ⟨f'.os, f'.tape, f'.output, f'.size, fun k hk _ => f'.block k hk⟩⟩
  | succ d ih =>
    intro i hd hi w c e hc he a1 a3 a2 a4 f
    have hlt : i < n := by omega
    obtain ⟨a, rfl, hx⟩ := h.at hlt
    have hx' : ∀ w, Fr W w → w.cell? (a.add (Int.toNat (i : Int) * 1)) = some (.int .i64 (xs[i]'(by rw [h.len]; exact hlt))) := by
      intro w fw
      have : (a.add (i * 1)).block < W.heap.size := by rw [add_block]; exact hA a rfl (by omega)
      rw [show Int.toNat (i : Int) = i from by omega, fw.cell this]; exact hx
    have next : ∀ (w : World) (c e : Ck), c.ok → e.ok → At w b1 c.obj → At w b3 c.ref → At w b2 e.obj → At w b4 e.ref → Fr W w →
        law22_ClockPlays.J1 (Good W) (some a) n cc (some ⟨b1, 0, none⟩) (some ⟨b2, 0, none⟩) ⟨b3, 0, none⟩ ⟨b4, 0, none⟩ i false w := by
      intro w c e hc he a1 a3 a2 a4 f
      have e2 : IntKind.i64.wrap ((i : Int) + 1) = ((i + 1 : Nat) : Int) := by rw [wrap_i64 (by omega) (by omega)]; rfl
      refine ifP_f rfl ?_
      rw [e2]
      exact ih (i + 1) (by omega) (by omega) w c e hc he a1 a3 a2 a4 f
    refine law22_ClockPlays.L0_step (ifP_yes (by omega) ⟨by omega, by omega, a, rfl, _, hx' w f, (told_spec a1 a3 d13 hc).mono ?_⟩)
    rintro v w1 ⟨rfl, a1, a3, k1⟩
    have f1 : Fr W w1 := f.step k1 (by rintro k (rfl | rfl) <;> assumption)
    have a2 := k1.heap a2 (by omega)
    have a4 := k1.heap a4 (by omega)
    have hc := Ck.ok_step hc (xs[i]'(by rw [h.len]; exact hlt))
    refine ⟨_, rfl, ifP_f rfl (ifP_int (fun _ => ⟨by omega, by omega, a, rfl, _, hx' w1 f1, (told_spec a2 a4 d24 he).mono ?_⟩) (fun _ => next w1 _ _ hc he a1 a3 a2 a4 f1))⟩
    rintro v w2 ⟨rfl, a2, a4, k2⟩
    have f2 : Fr W w2 := f1.step k2 (by rintro k (rfl | rfl) <;> assumption)
    exact ⟨_, rfl, next w2 _ _ hc (Ck.ok_step he _) (k2.heap a1 (by omega)) (k2.heap a3 (by omega)) a2 a4 f2⟩

theorem ClockPlays_main {W : World} {idle most : Int} {A : Option Addr} {n cc : Nat} {xs : List Int} (h : Rd (.int .i64) W A n xs) (hn : n ≤ 140737488351232) (hA : ∀ a, A = some a → 0 < n → a.block < W.heap.size) :
    Run Try.prog 3 #[.int .u32 idle, .int .u32 most, .slice A n cc] W (Good W) := by
  refine law22_ClockPlays.ok (new_spec.mono ?_)
  rintro v w1 ⟨rfl, a1, x1, s1⟩
  refine ⟨_, rfl, new_spec.mono ?_⟩
  rintro v w2 ⟨rfl, a2, x2, s2⟩
  refine ⟨_, rfl, letA fun w3 a3 x3 s3 => letA fun w4 a4 x4 s4 => ?_⟩
  unfold newA
  rw [s3] at a4 ⊢
  have a3' := x4.heap a3
  refine storeRow_block a3' (by simp) (by rfl) fun w5 a3 k5 z5 => ?_
  have a4' := k5.heap a4 (by omega)
  refine storeRow_block a4' (by simp) (by rfl) fun w6 a4 k6 z6 => ?_
  have b1 := (x2.heap a1)
  have c1 : At w6 W.heap.size (Ck.mk 0 idle 0 most false).obj := k6.heap (k5.heap (x4.heap (x3.heap b1)) (by omega)) (by omega)
  have c2 : At w6 w1.heap.size (Ck.mk 0 most 0 idle false).obj := k6.heap (k5.heap (x4.heap (x3.heap a2)) (by omega)) (by omega)
  have c3 : At w6 w2.heap.size (Ck.mk 0 idle 0 most false).ref := k6.heap a3 (by omega)
  have c4 : At w6 (w2.heap.size + 1) (Ck.mk 0 most 0 idle false).ref := a4
  have f : Fr W w6 := ((((Fr.of_ext x1).ext x2).ext x3).ext x4).step (k5.trans (U := fun k => k = w2.heap.size ∨ k = w2.heap.size + 1) k6 (fun _ _ => .inl) (fun _ _ => .inr)) (by rintro k (rfl | rfl) <;> omega)
  have go := plays_loop h hn hA (b1 := W.heap.size) (b2 := w1.heap.size) (b3 := w2.heap.size) (b4 := w2.heap.size + 1) (cc := cc) (by omega) (by omega) (by omega) (by omega) (by omega) (by omega) (by omega) (by omega) (by omega) (by omega)
    n 0 (by omega) (by omega) w6 _ _ (by simp [Ck.ok]) (by simp [Ck.ok]) c1 c3 c2 c4 f
  exact ifP_f rfl (ifP_f rfl go)

/-! ## ClockIdles -/

/-- A clock of the idle limit 't' that goes, so many idle ticks and ticks behind the start. -/
theorem tick_idle {c : Ck} {t : Int} (hl : c.l1 = t) (hm : c.l2 = 0) (hg : c.g = true) (h0 : 0 ≤ c.n1) (h1 : c.n1 < t) (ht : t ≤ 50) (ht0 : 0 < t) :
    c.why = (if c.n1 + 1 = t then 1 else 0) ∧ c.tick.l1 = t ∧ c.tick.l2 = 0 ∧ c.tick.g = decide (c.n1 + 1 ≠ t) ∧ (c.n1 + 1 ≠ t → c.tick.n1 = c.n1 + 1) := by
  have es : sat c.n1 = c.n1 + 1 := by unfold sat; split <;> omega
  have o2 : overB (sat c.n2) c.l2 = false := by simp [overB, hm]
  by_cases he : c.n1 + 1 = t
  · have o1 : overB (sat c.n1) c.l1 = true := by
      have : (t != 0) = true := bne_iff_ne.2 (by omega)
      simp [overB, es, hl, this]; omega
    have hw : c.why = 1 := by simp [Ck.why, hg, o1]
    refine ⟨by simp [hw, he], ?_, ?_, ?_, fun h => absurd he h⟩ <;> simp [Ck.tick, hg, hw, Ck.grown, Ck.stop, hl, hm, he]
  · have o1 : overB (sat c.n1) c.l1 = false := by
      have : ¬ (c.n1 + 1 ≥ t) := by omega
      simp [overB, es, hl, this]
    have hw : c.why = 0 := by simp [Ck.why, hg, o1, o2]
    refine ⟨by simp [hw, he], ?_, ?_, ?_, fun h => ?_⟩ <;> simp [Ck.tick, hg, hw, Ck.grown, hl, hm, he, es]

theorem idles_second {W : World} {A : Option Addr} {n cc : Nat} {b : Nat} (hb : W.heap.size ≤ b) {t : Int} (ht0 : 0 < t) (ht : t ≤ 50) {i : Int}
    (K : ∀ (w : World) (c : Ck), c.ok → c.l1 = t → c.l2 = 0 → At w b c.obj → Fr W w → law22_ClockIdles.J1 (Good W) A n cc t (some ⟨b, 0, none⟩) i w) :
    ∀ (d : Nat) (j : Int), (t + 1 - j).toNat = d → 1 ≤ j → j ≤ t + 1 → ∀ (w : World) (c : Ck), c.ok → c.l1 = t → c.l2 = 0 → (j ≤ t → c.g = true ∧ c.n1 = j - 1) → At w b c.obj → Fr W w →
      law22_ClockIdles.L4 (Good W) A n cc t (some ⟨b, 0, none⟩) i j w := by
  intro d
  induction d with
  | zero =>
    intro j hd h1 h2 w c hc hl hm hj a f
    exact law22_ClockIdles.L4_step (ifP_no (by omega) (K w c hc hl hm a f))
  | succ d ih =>
    intro j hd h1 h2 w c hc hl hm hj a f
    obtain ⟨hg, hn⟩ := hj (by omega)
    obtain ⟨hw, hl', hm', hg', hn'⟩ := tick_idle hl hm hg hc.1 (by omega) ht ht0
    refine law22_ClockIdles.L4_step (ifP_yes (by omega) ((tick_spec a hc).mono ?_))
    rintro v w1 ⟨rfl, a1, k1⟩
    refine ⟨_, rfl, ?_⟩
    have e : ((c.why == 1) == (j == t)) = true := by
      rw [hw]
      by_cases he : c.n1 + 1 = t
      · have : j = t := by omega
        simp [he, this]
      · have : ¬ j = t := by omega
        simp [he, this]
    rw [e]
    refine ifP_f rfl ?_
    rw [wrap_i64 (by omega) (by omega)]
    refine ih (j + 1) (by omega) (by omega) (by omega) w1 c.tick (Ck.ok_tick hc) hl' hm' (fun hj => ?_) a1 (f.step k1 (by rintro k rfl; exact hb))
    have : c.n1 + 1 ≠ t := by omega
    exact ⟨by rw [hg']; simp [this], by rw [hn' this]; omega⟩

theorem idles_first {W : World} {A : Option Addr} {n cc : Nat} {b : Nat} (hb : W.heap.size ≤ b) {t : Int} (ht0 : 0 < t) (ht : t ≤ 50) {i m : Int} (hm0 : 0 ≤ m) (hmt : m ≤ t)
    (K : ∀ (w : World) (c : Ck), c.ok → c.l1 = t → c.l2 = 0 → At w b c.obj → Fr W w → law22_ClockIdles.J1 (Good W) A n cc t (some ⟨b, 0, none⟩) i w) :
    ∀ (d : Nat) (j : Int), (m + 1 - j).toNat = d → 1 ≤ j → j ≤ m + 1 → ∀ (w : World) (c : Ck), c.ok → c.l1 = t → c.l2 = 0 → (j ≤ t → c.g = true ∧ c.n1 = j - 1) → (j = t + 1 → c.g = false) → At w b c.obj → Fr W w →
      law22_ClockIdles.L2 (Good W) A n cc t (some ⟨b, 0, none⟩) i m j w := by
  intro d
  induction d with
  | zero =>
    intro j hd h1 h2 w c hc hl hm hj hs a f
    have hjm : j = m + 1 := by omega
    subst hjm
    refine law22_ClockIdles.L2_step (ifP_no (by omega) (ifP_int (fun he => ?_) (fun he => ?_)))
    · have hg := hs (by omega)
      have hw : c.why = 0 := by simp [Ck.why, hg]
      have htk : c.tick = c := by simp [Ck.tick, hg]
      refine (tick_spec a hc).mono ?_
      rintro v w1 ⟨rfl, a1, k1⟩
      refine ⟨_, rfl, ifP_nne hw ?_⟩
      rw [htk] at a1
      exact K w1 c hc hl hm a1 (f.step k1 (by rintro k rfl; exact hb))
    · obtain ⟨hg, hn⟩ := hj (by omega)
      refine (touch_spec a).mono ?_
      rintro v w1 ⟨rfl, a1, k1⟩
      exact ⟨rfl, idles_second hb ht0 ht K _ 1 rfl (by omega) (by omega) w1 c.touch (Ck.ok_touch hc) hl hm (fun _ => ⟨hg, rfl⟩) a1 (f.step k1 (by rintro k rfl; exact hb))⟩
  | succ d ih =>
    intro j hd h1 h2 w c hc hl hm hj hs a f
    obtain ⟨hg, hn⟩ := hj (by omega)
    obtain ⟨hw, hl', hm', hg', hn'⟩ := tick_idle hl hm hg hc.1 (by omega) ht ht0
    refine law22_ClockIdles.L2_step (ifP_yes (by omega) ((tick_spec a hc).mono ?_))
    rintro v w1 ⟨rfl, a1, k1⟩
    have f1 := f.step k1 (by rintro k rfl; exact hb)
    refine ⟨_, rfl, ?_⟩
    have e : ((c.why == 1) == (j == t)) = true := by
      rw [hw]
      by_cases he : c.n1 + 1 = t
      · have : j = t := by omega
        simp [he, this]
      · have : ¬ j = t := by omega
        simp [he, this]
    rw [e]
    have next : law22_ClockIdles.J0 (Good W) A n cc t (some ⟨b, 0, none⟩) i m j false w1 := by
      refine ifP_f rfl ?_
      rw [wrap_i64 (by omega) (by omega)]
      refine ih (j + 1) (by omega) (by omega) (by omega) w1 c.tick (Ck.ok_tick hc) hl' hm' (fun hj => ?_) (fun hj => ?_) a1 f1
      · have : c.n1 + 1 ≠ t := by omega
        exact ⟨by rw [hg']; simp [this], by rw [hn' this]; omega⟩
      · rw [hg']; simp; omega
    refine ifP_f rfl (ifP_bne.2 ⟨fun hne => ?_, fun _ => next⟩)
    have : c.why = 0 := by rw [hw] at hne ⊢; split at hne <;> simp_all
    rw [this]
    exact next

theorem ClockIdles_main {W : World} {idle : Int} (hi0 : 0 ≤ idle) {A : Option Addr} {n cc : Nat} {xs : List Int} (h : Rd (.int .i64) W A n xs) (hn : n ≤ 140737488351232) (hA : ∀ a, A = some a → 0 < n → a.block < W.heap.size) :
    Run Try.prog 4 #[.int .u32 idle, .slice A n cc] W (Good W) := by
  have et : IntKind.i64.wrap (IntKind.i64.wrap (Int.tmod idle 50) + 1) = idle % 50 + 1 := by
    rw [tmod_pos hi0, wrap_i64 (x := idle % 50) (by omega) (by omega), wrap_i64 (by omega) (by omega)]
  have eu : IntKind.u32.wrap (idle % 50 + 1) = idle % 50 + 1 := wrap_u32 (by omega) (by omega)
  have ht0 : 0 < idle % 50 + 1 := by omega
  have ht : idle % 50 + 1 ≤ 50 := by omega
  refine law22_ClockIdles.ok ?_
  rw [law22_ClockIdles.vc, et, eu]
  generalize idle % 50 + 1 = t at *
  refine new_spec.mono ?_
  rintro v w1 ⟨rfl, a1, x1, s1⟩
  refine ⟨_, rfl, ifP_f rfl ?_⟩
  have loop : ∀ (d i : Nat), n - i = d → i ≤ n → ∀ (w : World) (c : Ck), c.ok → c.l1 = t → c.l2 = 0 → At w W.heap.size c.obj → Fr W w →
      law22_ClockIdles.L0 (Good W) A n cc t (some ⟨W.heap.size, 0, none⟩) i w := by
    intro d
    induction d with
    | zero =>
      intro i hd hi w c hc hl hm a f
      refine law22_ClockIdles.L0_step (ifP_no (by omega) (awake_spec.mono ?_))
      rintro v w' ⟨rfl, f'⟩
      exact ⟨_, rfl, rfl, f.ext ⟨f'.os, f'.tape, f'.output, f'.size, fun k hk _ => f'.block k hk⟩⟩
    | succ d ih =>
      intro i hd hi w c hc hl hm a f
      have hlt : i < n := by omega
      obtain ⟨ad, rfl, hx⟩ := h.at hlt
      refine law22_ClockIdles.L0_step (ifP_yes (by omega) ((start_spec a).mono ?_))
      rintro v w2 ⟨rfl, a2, k2⟩
      have f2 := f.step k2 (by rintro k rfl; exact Nat.le_refl _)
      have hx' : w2.cell? (ad.add (Int.toNat (i : Int) * 1)) = some (.int .i64 (xs[i]'(by rw [h.len]; exact hlt))) := by
        have : (ad.add (i * 1)).block < W.heap.size := by rw [add_block]; exact hA ad rfl (by omega)
        rw [show Int.toNat (i : Int) = i from by omega, f2.cell this]; exact hx
      have e1 : IntKind.i64.wrap (t + 1) = t + 1 := wrap_i64 (by omega) (by omega)
      refine ⟨rfl, by omega, by omega, ad, rfl, _, hx', by rw [e1]; omega, ?_⟩
      rw [e1]
      generalize xs[i]'(by rw [h.len]; exact hlt) = x at *
      have em : andI .i64 x 1023 = x % 1024 := andI_i64 10 (by omega)
      rw [em, tmod_pos (Int.emod_nonneg _ (by omega))]
      have hm0 : 0 ≤ x % 1024 % (t + 1) := Int.emod_nonneg _ (by omega)
      have hm1 : x % 1024 % (t + 1) < t + 1 := Int.emod_lt_of_pos _ (by omega)
      refine idles_first (Nat.le_refl _) ht0 ht hm0 (by omega) (fun w c hc hl hm a f => ?_) _ 1 rfl (by omega) (by omega) w2 c.start Ck.ok_start hl hm (fun _ => ⟨rfl, rfl⟩) (fun h => by omega) a2 f2
      unfold law22_ClockIdles.J1
      rw [wrap_i64 (x := (i : Int) + 1) (by omega) (by omega)]
      exact ih (i + 1) (by omega) (by omega) w c hc hl hm a f
  exact loop n 0 (by omega) (by omega) w1 _ (by simp [Ck.ok]) rfl rfl a1 (Fr.of_ext x1)

/-! ## ClockStands -/

theorem ClockStands_main {W : World} {idle most ticks : Int} : Run Try.prog 6 #[.int .u32 idle, .int .u32 most, .int .i64 ticks] W (Good W) := by
  have em : andI .i64 ticks 63 = ticks % 64 := andI_i64 6 (by omega)
  have hm0 : 0 ≤ ticks % 64 := Int.emod_nonneg _ (by omega)
  have hm1 : ticks % 64 < 64 := Int.emod_lt_of_pos _ (by omega)
  refine law22_ClockStands.ok (new_spec.mono ?_)
  rintro v w1 ⟨rfl, a1, x1, s1⟩
  refine ⟨_, rfl, ifP_f rfl ?_⟩
  have own : ∀ k, k = W.heap.size → W.heap.size ≤ k := by rintro k rfl; exact Nat.le_refl _
  have inner : ∀ (r : Int) (K : ∀ (w : World) (c : Ck), c.ok → c.g = false → c.n1 = 0 → c.n2 = 0 → At w W.heap.size c.obj → Fr W w → law22_ClockStands.J0 (Good W) ticks (some ⟨W.heap.size, 0, none⟩) r false w)
      (d : Nat) (i : Int), (ticks % 64 - i).toNat = d → 0 ≤ i → i ≤ ticks % 64 → ∀ (w : World) (c : Ck), c.ok → c.g = false → c.n1 = 0 → c.n2 = 0 → At w W.heap.size c.obj → Fr W w →
      law22_ClockStands.L2 (Good W) ticks (some ⟨W.heap.size, 0, none⟩) r i w := by
    intro r K d
    induction d with
    | zero =>
      intro i hd h0 hi w c hc hg h1 h2 a f
      refine law22_ClockStands.L2_step ?_
      rw [law22_ClockStands.B2, em]
      refine ifP_no (by omega) ((now_spec a).mono ?_)
      rintro v w2 ⟨rfl, rfl⟩
      refine ⟨_, _, _, rfl, ?_⟩
      rw [hg, h1, h2]
      exact K _ c hc hg h1 h2 a (f.ext (Ext.drew _))
    | succ d ih =>
      intro i hd h0 hi w c hc hg h1 h2 a f
      refine law22_ClockStands.L2_step ?_
      rw [law22_ClockStands.B2, em]
      refine ifP_yes (by omega) ((touch_spec a).mono ?_)
      rintro v w2 ⟨rfl, a2, k2⟩
      have f2 := f.step k2 own
      have hg2 : c.touch.g = false := hg
      have hw : c.touch.why = 0 := by simp [Ck.why, hg2]
      have htk : c.touch.tick = c.touch := by simp [Ck.tick, hg2]
      refine ⟨rfl, (tick_spec a2 (Ck.ok_touch hc)).mono ?_⟩
      rintro v w3 ⟨rfl, a3, k3⟩
      rw [htk] at a3
      refine ⟨_, rfl, ifP_nne hw ?_⟩
      rw [wrap_i64 (by omega) (by omega)]
      exact ih (i + 1) (by omega) (by omega) (by omega) w3 c.touch (Ck.ok_touch hc) hg2 rfl h2 a3 (f2.step k3 own)
  have outer : ∀ (d : Nat) (r : Int), (2 - r).toNat = d → 0 ≤ r → r ≤ 2 → ∀ (w : World) (c : Ck), c.ok → c.g = false → c.n1 = 0 → c.n2 = 0 → At w W.heap.size c.obj → Fr W w →
      law22_ClockStands.L0 (Good W) ticks (some ⟨W.heap.size, 0, none⟩) r w := by
    intro d
    induction d with
    | zero =>
      intro r hd h0 hr w c hc hg h1 h2 a f
      refine law22_ClockStands.L0_step (ifP_no (by omega) ((now_spec a).mono ?_))
      rintro v w2 ⟨rfl, rfl⟩
      refine ⟨_, _, _, rfl, ?_⟩
      rw [hg, h1, h2]
      refine ifP_t rfl (ifP_eq rfl (ifP_eq rfl (awake_spec.mono ?_)))
      rintro v w' ⟨rfl, f'⟩
      exact ⟨_, rfl, rfl, (f.ext (Ext.drew _)).ext ⟨f'.os, f'.tape, f'.output, f'.size, fun k hk _ => f'.block k hk⟩⟩
    | succ d ih =>
      intro r hd h0 hr w c hc hg h1 h2 a f
      refine law22_ClockStands.L0_step (ifP_yes (by omega) ?_)
      refine inner r (fun w c hc hg h1 h2 a f => ?_) _ 0 rfl (by omega) hm0 w c hc hg h1 h2 a f
      refine ifP_f rfl ((start_spec a).mono ?_)
      rintro v w2 ⟨rfl, a2, k2⟩
      have f2 := f.step k2 own
      refine ⟨rfl, (now_spec a2).mono ?_⟩
      rintro v w3 ⟨rfl, rfl⟩
      refine ⟨_, _, _, rfl, ifP_f rfl (ifP_nne rfl (ifP_f rfl ((tick_spec (w := w2.drew) a2 Ck.ok_start).mono ?_)))⟩
      rintro v w4 ⟨rfl, a4, k4⟩
      have f4 := (f2.ext (Ext.drew _)).step k4 own
      refine ⟨_, rfl, (stop_spec a4).mono ?_⟩
      rintro v w5 ⟨rfl, a5, k5⟩
      refine ⟨rfl, ?_⟩
      rw [wrap_i64 (by omega) (by omega)]
      exact ih (r + 1) (by omega) (by omega) (by omega) w5 _ Ck.ok_stop rfl rfl rfl a5 (f4.step k5 own)
  exact outer _ 0 rfl (by omega) (by omega) w1 _ (by simp [Ck.ok]) rfl rfl rfl a1 (Fr.of_ext x1)

end Go.Proofs.Ytbhfcpilhiojaaa
