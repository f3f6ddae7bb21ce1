/- The statements over frames: Links, Plain, Grows. -/
import Derived.Test.YthcpkjfccfgiaaaF7
namespace Go.Proofs.Ythcpkjfccfgiaaa
open Go.Rd Go.RowKit
set_option linter.unusedVariables false
set_option linter.unusedSimpArgs false

section
variable {W : World} {A : Option Addr} {n c : Nat} {xs : List Int}

theorem st_link {w : World} {b : Nat} {cs : Array Value} {k : Lnk} (h : w.heap[b]? = some (.cells cs 23 (0, 0))) (hs : cs.size = 3) {φ : World → Prop}
    (hφ : ∀ w', LAt w' b k → Keep (· = b) w w' → φ w') : storeRow ⟨b, 0, none⟩ 0 [.bool k.ac, .bool k.pf, .int .i64 k.mp] w φ := by
  refine storeRow_block h (by rw [hs]; exact Nat.le_refl 3) rfl fun w' hw hk _ => hφ w' ?_ hk
  unfold LAt
  rw [hw]
  obtain ⟨l⟩ := cs
  have hl : l.length = 3 := hs
  rw [setFrom_all l [.bool k.ac, .bool k.pf, .int .i64 k.mp] (by rw [hl]; rfl)]

theorem links_loop (h : IBytes W A n xs) (hx : ∀ x ∈ xs, 0 ≤ x ∧ x ≤ 255) (hn : n ≤ 140737488351232) : ∀ (d i : Nat), 12 - i = d → i ≤ 12 → ∀ w, Fr W w → law7_FrameLinks.L0 (Good W) A n c i w := by
  intro d
  induction d with
  | zero =>
    intro i hd hi w f
    refine law7_FrameLinks.L0_step (ifP_no (by omega) (awake_spec.mono ?_))
    rintro v w1 ⟨rfl, x1⟩
    exact ⟨_, rfl, rfl, f.ext x1⟩
  | succ d ih =>
    intro i hd hi w f
    let k : Lnk := ⟨Int.tmod (i : Int) 2 == 1, Int.tmod (IntKind.i64.wrap (Int.tdiv (i : Int) 2)) 2 == 1, IntKind.i64.wrap (Int.tdiv (i : Int) 4)⟩
    refine law7_FrameLinks.L0_step (ifP_yes (by omega) (letA fun w1 h1 x1 s1 => st_link (k := k) h1 rfl fun w2 h2 k2 => ?_))
    have x02 : Go.Rd.Ext w w2 := x1.fresh k2 fun i hi => by rw [hi]; exact Nat.le_refl _
    have f2 := f.ext x02
    refine h2.rd ((rlook_spec (k := k) (h.fr f2) hx (by omega)).mono ?_)
    rintro v w3 ⟨rfl, x3⟩
    rw [ansR]
    refine ⟨_, _, _, _, _, _, _, _, _, _, rfl, letA fun w4 h4 x4 s4 => st9 h4 rfl (v := vwR (lookX k xs)) fun w5 h5 k5 => ?_⟩
    have z3 := x3.size
    have z2 := x02.size
    have x25 : Go.Rd.Ext w2 w5 := (x3.trans x4).fresh k5 fun i hi => by rw [hi]; exact z3
    let S : World → Prop := fun u => LAt u w.heap.size k
    have hS : ∀ u u', S u → Go.Rd.Ext u u' → S u' := fun u u' hs x => x.heap hs
    have s5 : S w5 := x25.heap h2
    have f5 := f2.ext x25
    refine ⟨S, hS _ _ s5 (Go.Rd.Ext.drew w5), letD fun w6 _ x6 => LAt.rdS (k := k) (fun u hu => hu) (look_three hS (hS _ _ s5 x6) hx (h.fr (f5.ext x6)) (by omega) (J := fun a e w' => law7_FrameLinks.J0 (Good W) A n c i (newA w3) (erR (lookX k xs)) a e w') ?_)⟩
    intro w' b hb x'
    have hv : VAt w' w3.heap.size (vwR (lookX k xs)) := x'.heap (x6.heap h5)
    refine hb.at9.rd (hv.at9.rd ⟨_, w', view_neq _, _, rfl, ifP_f rfl (ifP_f (by simp) ?_)⟩)
    have hw : IntKind.i64.wrap ((i : Int) + 1) = ((i + 1 : Nat) : Int) := wrap_i64 (by omega) (by omega)
    rw [hw]
    exact ih (i + 1) (by omega) (by omega) w' ((f5.ext x6).ext x')
theorem FrameLinks_main (h : IBytes W A n xs) (hx : ∀ x ∈ xs, 0 ≤ x ∧ x ≤ 255) (hn : n ≤ 140737488351232) : Run Try.prog 4 #[.slice A n c] W (Good W) :=
  law7_FrameLinks.ok (links_loop h hx hn 12 0 rfl (by omega) W (Fr.refl W))

/-! ## Plain -/

theorem plain_any {k : Lnk} {xs : List Int} {v : Vw} (hk : linkOk k = true) (h : lookX ⟨false, false, 0⟩ xs = .ok v) (hp : v.p ≠ 61) : lookX k xs = .ok v := by
  unfold lookX at h ⊢
  rw [if_neg (by decide)] at h
  rw [if_neg (by rw [hk]; decide)]
  by_cases hl : 65535 < xs.length
  · rw [if_pos hl] at h; cases h
  rw [if_neg hl] at h ⊢
  unfold pieceX at h ⊢
  have h2 : 2 ≤ xs.length ∧ xs.getD 0 0 = 255 ∧ xs.getD 1 0 = 3 := by
    by_cases h2 : 2 ≤ xs.length ∧ xs.getD 0 0 = 255 ∧ xs.getD 1 0 = 3
    · exact h2
    · simp only [plainX] at h
      rw [if_neg h2, if_neg (by decide)] at h
      by_cases hl2 : xs.length < 2
      · rw [if_pos hl2] at h; cases h
      · rw [if_neg hl2] at h; cases h
  have e : ∀ k : Lnk, plainX k xs = .ok 2 := fun k => by rw [plainX, if_pos h2]
  rw [e] at h ⊢
  simp only [] at h ⊢
  cases hpr : protoX ⟨false, false, 0⟩ xs 2 with
  | error e => rw [hpr] at h; cases h
  | ok s =>
    obtain ⟨p, a⟩ := s
    have hpr2 : protoX k xs 2 = .ok (p, a) := by
      unfold protoX at hpr ⊢
      by_cases h3 : (xs.length : Int) ≤ 2
      · rw [if_pos h3] at hpr; cases hpr
      rw [if_neg h3] at hpr ⊢
      by_cases h4 : xs.getD (2 : Int).toNat 0 % 2 = 1
      · rw [if_pos h4, if_neg (by decide)] at hpr; cases hpr
      rw [if_neg h4] at hpr ⊢
      exact hpr
    rw [hpr] at h
    rw [hpr2]
    simp only [] at h ⊢
    rw [if_pos (.inl trivial)] at h
    simp only [innerX] at h
    rw [if_neg (by decide)] at h
    simp only [] at h
    have hpv : p = v.p := by
      unfold netX at h
      rw [if_neg (by rintro ⟨h1, h2⟩; cases h1)] at h
      split at h
      · unfold ipX at h
        simp only at h
        repeat' split at h
        all_goals first | (obtain rfl := Except.ok.inj h; rfl) | cases h
      · obtain rfl := Except.ok.inj h; rfl
    rw [if_pos (.inr (by rw [hpv]; exact hp))]
    simp only [innerX]
    rw [if_neg (by decide)]
    exact h

theorem plain_loop (h : IBytes W A n xs) (hx : ∀ x ∈ xs, 0 ≤ x ∧ x ≤ 255) (hn : n ≤ 140737488351232) {v : Vw} (hv : lookX ⟨false, false, 0⟩ xs = .ok v) (hp : v.p ≠ 61) {b : Nat} :
    ∀ (d i : Nat), 12 - i = d → i ≤ 12 → ∀ w, Fr W w → VAt w b v → law7_FramePlain.L0 (Good W) A n c ⟨b, 0, none⟩ i w := by
  intro d
  induction d with
  | zero =>
    intro i hd hi w f hb
    refine law7_FramePlain.L0_step (ifP_no (by omega) (awake_spec.mono ?_))
    rintro v w1 ⟨rfl, x1⟩
    exact ⟨_, rfl, rfl, f.ext x1⟩
  | succ d ih =>
    intro i hd hi w f hb
    let k : Lnk := ⟨Int.tmod (i : Int) 2 == 1, Int.tmod (IntKind.i64.wrap (Int.tdiv (i : Int) 2)) 2 == 1, IntKind.i64.wrap (Int.tdiv (i : Int) 4)⟩
    have hk : linkOk k = true := by
      have e : Int.tdiv (i : Int) 4 = (i : Int) / 4 := Int.tdiv_eq_ediv_of_nonneg (by omega)
      show decide (k.mp = 0 ∨ k.mp = 1 ∨ k.mp = 2) = true
      rw [decide_eq_true_eq]
      show IntKind.i64.wrap (Int.tdiv (i : Int) 4) = 0 ∨ IntKind.i64.wrap (Int.tdiv (i : Int) 4) = 1 ∨ IntKind.i64.wrap (Int.tdiv (i : Int) 4) = 2
      rw [e, wrap_i64 (by omega) (by omega)]
      omega
    have hkv := plain_any hk hv hp
    refine law7_FramePlain.L0_step (ifP_yes (by omega) ((copyBytes_spec (h.fr f) (by omega)).mono ?_))
    rintro u w1 ⟨A1, c1, rfl, o1, l1, b1, x1⟩
    refine ⟨_, _, _, rfl, (look_own (k := k) o1 l1 hx).mono ?_⟩
    rintro u w2 ⟨rfl, x2⟩
    rw [hkv]
    refine ⟨_, _, _, _, _, _, _, _, _, _, rfl, letA fun w3 h3 x3 s3 => st9 h3 rfl (v := v) fun w4 h4 k4 => ?_⟩
    have z := (x1.trans x2).size
    have hbw := heap_lt hb
    have x04 : Go.Rd.Ext w w4 := ((x1.trans x2).trans x3).fresh k4 fun i hi => by rw [hi]; exact z
    have hb4 : VAt w4 b v := x04.heap hb
    have h4 : VAt w4 w2.heap.size v := h4
    refine ifP_f rfl (h4.at9.rd (hb4.at9.rd ⟨_, w4, view_neq v, _, rfl, ifP_f rfl ?_⟩))
    have hw : IntKind.i64.wrap ((i : Int) + 1) = ((i + 1 : Nat) : Int) := wrap_i64 (by omega) (by omega)
    rw [hw]
    exact ih (i + 1) (by omega) (by omega) w4 (f.ext x04) hb4
theorem FramePlain_main (h : IBytes W A n xs) (hx : ∀ x ∈ xs, 0 ≤ x ∧ x ≤ 255) (hn : n ≤ 140737488351232) : Run Try.prog 8 #[.slice A n c] W (Good W) := by
  refine law7_FramePlain.ok ((copyBytes_spec h (by omega)).mono ?_)
  rintro v w1 ⟨A1, c1, rfl, o1, l1, b1, x1⟩
  refine ⟨_, _, _, rfl, (look_own (k := ⟨false, false, 0⟩) o1 l1 hx).mono ?_⟩
  rintro v w2 ⟨rfl, x2⟩
  rw [ansR]
  refine ⟨_, _, _, _, _, _, _, _, _, _, rfl, letA fun w3 h3 x3 s3 => st9 h3 rfl (v := vwR (lookX ⟨false, false, 0⟩ xs)) fun w4 h4 k4 => ?_⟩
  have z := (x1.trans x2).size
  have x04 : Go.Rd.Ext W w4 := ((x1.trans x2).trans x3).fresh k4 fun i hi => by rw [hi]; exact z
  have h4 : VAt w4 w2.heap.size (vwR (lookX ⟨false, false, 0⟩ xs)) := h4
  have end_ : law7_FramePlain.J0 (Good W) A n c (newA w2) true w4 := by
    refine ifP_t rfl (awake_spec.mono ?_)
    rintro v w5 ⟨rfl, x5⟩
    exact ⟨_, rfl, rfl, (Fr.of_ext x04).ext x5⟩
  refine ifP_bne.2 ⟨fun _ => end_, fun he => ⟨_, h4.at9.p, ?_⟩⟩
  cases hr : lookX ⟨false, false, 0⟩ xs with
  | error e =>
    rw [hr] at he
    exfalso
    have he : e = 0 := he
    have : e ≠ 0 := lookX_ne hr
    exact this he
  | ok v =>
    rw [hr] at h4
    by_cases hp : v.p = 61
    · rw [show (vwR (.ok v : Ex Vw)).p = v.p from rfl, hp]
      exact end_
    · rw [show (vwR (.ok v : Ex Vw)).p = v.p from rfl, show (v.p == 61) = false from by simp [hp]]
      exact ifP_f rfl (plain_loop h hx hn hr hp 12 0 rfl (by omega) w4 (Fr.of_ext x04) h4)
end
end Go.Proofs.Ythcpkjfccfgiaaa
