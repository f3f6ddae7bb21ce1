/- The statements over frames: Grows, Short. -/
import Derived.Test.YthcpkjfccfgiaaaF9
namespace Go.Proofs.Ythcpkjfccfgiaaa
open Go.Rd Go.RowKit
set_option linter.unusedVariables false
set_option linter.unusedSimpArgs false

section
variable {W : World} {A B : Option Addr} {n c m d : Nat} {xs ys : List Int} {k : Lnk}

theorem err_ne {r : Ex Vw} {xs : List Int} (h : lookX k xs = r) (he : erR r ≠ 0) : ∃ e, r = .error e := by
  cases r with
  | ok v => exact absurd rfl he
  | error e => exact ⟨e, rfl⟩
theorem err_eq {xs : List Int} (he : erR (lookX k xs) = 0) : ∃ v, lookX k xs = .ok v := by
  cases h : lookX k xs with
  | ok v => exact ⟨v, rfl⟩
  | error e => rw [h] at he; exact absurd he (lookX_ne h)

theorem FrameGrows_main (h : IBytes W A n xs) (hx : ∀ x ∈ xs, 0 ≤ x ∧ x ≤ 255) (hn : n ≤ 140737488351232) (h2 : IBytes W B m ys) (hy : ∀ x ∈ ys, 0 ≤ x ∧ x ≤ 255) (hm : m ≤ 140737488351232) :
    Run Try.prog 7 #[.agg #[.bool k.ac, .bool k.pf, .int .i64 k.mp], .slice A n c, .slice B m d] W (Good W) := by
  have hl := h.len
  have hl2 := h2.len
  refine law7_FrameGrows.ok (letA fun w1 h1 x1 s1 => ?_)
  have f1 := Fr.of_ext x1
  have aw : law7_FrameGrows.J0 (Good W) A n c B m d (newA W) true w1 := by
    refine ifP_t rfl (awake_spec.mono ?_)
    rintro v w2 ⟨rfl, x2⟩
    exact ⟨_, rfl, rfl, f1.ext x2⟩
  rw [show IntKind.i64.wrap ((n : Int) + (m : Int)) = (n : Int) + m from wrap_i64 (by omega) (by omega)]
  refine ifP_decide.2 ⟨fun _ => aw, fun h2n => ?_⟩
  by_cases hbig : (n : Int) + m > 65535
  · rw [decide_eq_true hbig]; exact aw
  rw [decide_eq_false hbig]
  let S : World → Prop := fun u => LAt u W.heap.size k
  have hS : ∀ u u', S u → Go.Rd.Ext u u' → S u' := fun u u' hs x => x.heap hs
  refine ifP_f rfl ⟨S, hS _ _ h1 (Go.Rd.Ext.drew w1), letD fun w2 _ x2 => LAt.rdS (k := k) (fun u hu => hu) (look_three hS (hS _ _ h1 x2) hx (h.fr (f1.ext x2)) (by omega) (J := fun a e w' => law7_FrameGrows.J1 (Good W) A n c B m d (newA W) a e w') ?_)⟩
  intro w3 b hb x3
  have f3 := (f1.ext x2).ext x3
  have s3 := hS _ _ (hS _ _ h1 x2) x3
  refine ifP_bne.2 ⟨fun _ => ?_, fun he => ?_⟩
  · refine awake_spec.mono ?_
    rintro v w4 ⟨rfl, x4⟩
    exact ⟨_, rfl, rfl, f3.ext x4⟩
  obtain ⟨v, hv⟩ := err_eq he
  have hg := look_grow (ys := ys) hx (.inl (by omega)) (by omega) hv
  rw [hv] at hb
  refine ⟨S, hS _ _ s3 (Go.Rd.Ext.drew w3), letD fun w4 _ x4 => LAt.rdS (k := k) (fun u hu => hu) (join_look hS (hS _ _ s3 x4) (fun x hx2 => (List.mem_append.1 hx2).elim (hx x) (hy x)) (h.fr (f3.ext x4)) (h2.fr (f3.ext x4)) (by omega) (J := fun a e w' => law7_FrameGrows.J2 (Good W) ⟨b, 0, none⟩ a e w') ?_)⟩
  intro w5 b5 hb5 x5
  rw [hg] at hb5 ⊢
  have hbv : VAt w5 b v := x5.heap (x4.heap hb)
  have hb5 : VAt w5 b5 v := hb5
  refine ifP_t rfl (hb5.at9.rd (hbv.at9.rd ⟨_, w5, view_eql v, _, rfl, ifP_t rfl (awake_spec.mono ?_)⟩))
  rintro u w6 ⟨rfl, x6⟩
  exact ⟨_, rfl, rfl, ((f3.ext x4).ext x5).ext x6⟩

/-! ## Short -/

theorem short_loop (h : IBytes W A n xs) (hx : ∀ x ∈ xs, 0 ≤ x ∧ x ≤ 255) (hn : n ≤ 300) (hc : n ≤ c) {v : Vw} (hv : lookX k xs = .ok v) {b : Nat} {least : Int} (hls : least = if v.l ≠ 0 then v.l else v.a) :
    ∀ (d i : Nat), least.toNat - i = d → (i : Int) ≤ least → ∀ w, Fr W w → LAt w b k → law7_FrameShort.L0 (Good W) A n c ⟨b, 0, none⟩ least i w := by
  have hl := h.len
  have ok := lookX_ok hx hv
  have hle : least ≤ n := by
    have := ok.a1
    have := ok.l1
    rw [hls]
    split <;> omega
  intro d
  induction d with
  | zero =>
    intro i hd hi w f hk
    refine law7_FrameShort.L0_step (ifP_no (by omega) (awake_spec.mono ?_))
    rintro u w1 ⟨rfl, x1⟩
    exact ⟨_, rfl, rfl, f.ext x1⟩
  | succ d ih =>
    intro i hd hi w f hk
    let S : World → Prop := fun u => LAt u b k
    have hS : ∀ u u', S u → Go.Rd.Ext u u' → S u' := fun u u' hs x => x.heap hs
    have hi' : (i : Int) < least := by omega
    refine law7_FrameShort.L0_step (ifP_yes hi' ⟨S, hS _ _ hk (Go.Rd.Ext.drew w), letD fun w1 _ x1 => LAt.rdS (k := k) (fun u hu => hu) ⟨by omega, by omega, by omega, ?_⟩⟩)
    have hb : IBytes w1 (subA A c 0 1) ((Int.toNat (i : Int)) - 0) (xs.take i) := by
      rw [subA_zero, Int.toNat_natCast, Nat.sub_zero]
      have := ((h.fr (f.ext x1)).cells).take i
      rw [← List.map_take] at this
      exact this.rd (by rw [List.length_take]; omega)
    have hx' : ∀ x ∈ xs.take i, 0 ≤ x ∧ x ≤ 255 := fun x h => hx x (List.mem_of_mem_take h)
    refine look_three (k := k) hS (hS _ _ hk x1) hx' hb (by rw [Int.toNat_natCast]; omega) (J := fun a e w' => law7_FrameShort.J3 (Good W) A n c ⟨b, 0, none⟩ least i e w') ?_
    intro w2 b2 hb2 x2
    have f2 := (f.ext x1).ext x2
    have hk2 : LAt w2 b k := x2.heap (x1.heap hk)
    have next : law7_FrameShort.J5 (Good W) A n c ⟨b, 0, none⟩ least i false w2 := by
      refine ifP_f rfl ?_
      have hw : IntKind.i64.wrap ((i : Int) + 1) = ((i + 1 : Nat) : Int) := wrap_i64 (by omega) (by omega)
      rw [hw]
      exact ih (i + 1) (by omega) (by omega) w2 f2 hk2
    have fin : ∀ one : Bool, (i = 1 ∧ xs.getD 0 0 = 255 → one = true) → law7_FrameShort.J4 (Good W) A n c ⟨b, 0, none⟩ least i (erR (lookX k (xs.take i))) one w2 := by
      intro one ho
      refine ifP_beq.2 ⟨fun he => ?_, fun _ => next⟩
      obtain ⟨v', hv'⟩ := err_eq he
      have hs := look_short hx hv (m := i) (by rw [← hls]; exact hi') hv'
      rw [ho hs]
      exact next
    refine ifP_beq.2 ⟨fun h1 => ⟨by omega, by omega, ?_⟩, fun h1 => fin _ fun h => absurd h.1 (by omega)⟩
    obtain ⟨p, hp, hc0⟩ := IBytes.get (h.fr f2) (j := 0) (by omega) (by omega)
    refine ⟨p, hp, _, hc0, fin _ fun h => ?_⟩
    rw [beq_iff_eq]; exact h.2
theorem FrameShort_main (h : IBytes W A n xs) (hx : ∀ x ∈ xs, 0 ≤ x ∧ x ≤ 255) (hn : n ≤ 140737488351232) (hc : n ≤ c) :
    Run Try.prog 9 #[.agg #[.bool k.ac, .bool k.pf, .int .i64 k.mp], .slice A n c] W (Good W) := by
  have hl := h.len
  refine law7_FrameShort.ok (letA fun w1 h1 x1 s1 => ?_)
  have f1 := Fr.of_ext x1
  let S : World → Prop := fun u => LAt u W.heap.size k
  have hS : ∀ u u', S u → Go.Rd.Ext u u' → S u' := fun u u' hs x => x.heap hs
  refine ⟨S, hS _ _ h1 (Go.Rd.Ext.drew w1), letD fun w2 _ x2 => LAt.rdS (k := k) (fun u hu => hu) (look_three hS (hS _ _ h1 x2) hx (h.fr (f1.ext x2)) (by omega) (J := fun a e w' => law7_FrameShort.J0 (Good W) A n c (newA W) a e w') ?_)⟩
  intro w3 b hb x3
  have f3 := (f1.ext x2).ext x3
  have aw : law7_FrameShort.J1 (Good W) A n c (newA W) ⟨b, 0, none⟩ true w3 := by
    refine ifP_t rfl (awake_spec.mono ?_)
    rintro u w4 ⟨rfl, x4⟩
    exact ⟨_, rfl, rfl, f3.ext x4⟩
  refine ifP_bne.2 ⟨fun _ => aw, fun he => ?_⟩
  by_cases hbig : (n : Int) > 300
  · rw [decide_eq_true hbig]; exact aw
  rw [decide_eq_false hbig]
  obtain ⟨v, hv⟩ := err_eq he
  rw [hv] at hb
  have hb : VAt w3 b v := hb
  have hk3 : LAt w3 W.heap.size k := x3.heap (x2.heap h1)
  have ok := lookX_ok hx hv
  refine ifP_f rfl ⟨_, hb.at9.a, _, hb.at9.l, ifP_bne.2 ⟨fun hlz => ⟨_, hb.at9.l, ?_⟩, fun hlz => ?_⟩⟩
  · exact short_loop h hx (by omega) hc hv (least := v.l) (by rw [if_pos hlz]) _ 0 rfl ok.l0 w3 f3 hk3
  · exact short_loop h hx (by omega) hc hv (least := v.a) (by rw [if_neg (fun h => h hlz)]) _ 0 rfl (by have := ok.a0; omega) w3 f3 hk3
end
end Go.Proofs.Ythcpkjfccfgiaaa
