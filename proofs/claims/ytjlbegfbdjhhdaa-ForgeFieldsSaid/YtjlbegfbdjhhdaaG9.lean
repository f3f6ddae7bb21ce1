/- The document's forge: what fits. -/
import Derived.Test.YtjlbegfbdjhhdaaG7
namespace Go.Proofs.Ytjlbegfbdjhhdaa
open Go.Rd Go.RowKit
set_option linter.unusedVariables false
set_option linter.unusedSimpArgs false

theorem rzero_loop {w : World} {a : Addr} {f : Nat → Int} {R : Value → World → Prop} (hc : ∀ i, i < 16 → w.cell? (a.add (i * 1)) = some (.int .u8 (f i))) : ∀ (d i : Nat), 16 - i = d → i ≤ 16 → R (.bool (allZ f (List.range' i d))) w → ref8_zero.L0 R a i w := by
  intro d
  induction d with
  | zero =>
    intro i hd hi hR
    exact ref8_zero.L0_step (ifP_no (by omega) hR)
  | succ d ih =>
    intro i hd hi hR
    refine ref8_zero.L0_step (ifP_yes (by omega) ⟨by omega, by omega, _, by rw [Int.toNat_natCast]; exact hc i (by omega), ifP_bne.2 ⟨fun hne => ?_, fun heq => ?_⟩⟩)
    · have : allZ f (List.range' i (d + 1)) = false := by
        rw [List.range'_succ]; simp [allZ, hne]
      rw [this] at hR; exact hR
    · have e1 : IntKind.i64.wrap ((i : Int) + 1) = ((i + 1 : Nat) : Int) := wrap_i64 (by omega) (by omega)
      rw [e1]
      refine ih (i + 1) (by omega) (by omega) ?_
      have : allZ f (List.range' i (d + 1)) = allZ f (List.range' (i + 1) d) := by
        rw [List.range'_succ]; simp [allZ, heq]
      rw [← this]; exact hR
theorem rzero_spec {w : World} {f : Nat → Int} {i : Nat} (hi : i ≤ 16) : Run Try.prog 41 #[.agg #[.int .u8 (f 0), .int .u8 (f 1), .int .u8 (f 2), .int .u8 (f 3), .int .u8 (f 4), .int .u8 (f 5), .int .u8 (f 6), .int .u8 (f 7), .int .u8 (f 8), .int .u8 (f 9), .int .u8 (f 10), .int .u8 (f 11), .int .u8 (f 12), .int .u8 (f 13), .int .u8 (f 14), .int .u8 (f 15)], .int .i64 (i : Int)] w fun v w' => v = .bool (allZ f (List.range' i (16 - i))) ∧ Ext w w' := by
  refine ref8_zero.ok (letA fun w1 h1 x1 s1 => rzero_loop (f := f) (fun j hj => ?_) _ i rfl hi ⟨rfl, x1⟩)
  rw [newA, add_mk, cell_of h1, Nat.zero_add, Nat.mul_one]
  match j, hj with
  | 0, _ | 1, _ | 2, _ | 3, _ | 4, _ | 5, _ | 6, _ | 7, _ | 8, _ | 9, _ | 10, _ | 11, _ | 12, _ | 13, _ | 14, _ | 15, _ => rfl
  | m + 16, h => exact absurd h (by omega)
theorem rspace_spec {w : World} {k : Lnk} : Run Try.prog 40 #[.agg #[.bool k.ac, .bool k.pf, .int .i64 k.mp]] w fun v w' => v = .int .u32 (seqsN k + 1) ∧ Ext w w' := by
  refine ref8_Space.ok (letA fun w1 h1 x1 s1 => ?_)
  have hk : LAt w1 w.heap.size k := h1
  exact ⟨_, hk.c2, ifP_beq.2 ⟨fun h => ⟨by rw [seqsN, if_pos h]; rfl, x1⟩, fun h => ⟨by rw [seqsN, if_neg h]; rfl, x1⟩⟩⟩
end Go.Proofs.Ytjlbegfbdjhhdaa

namespace Go.Proofs.Ytjlbegfbdjhhdaa
open Go.Rd Go.RowKit
set_option linter.unusedVariables false
set_option linter.unusedSimpArgs false

structure Fx (W w : World) (k : Lnk) (s : Sp) (bl bs : Nat) : Prop where
  s : SAt w bs s
  k : LAt w bl k
  x : Ext W w
section
variable {W w w' : World} {k : Lnk} {s : Sp} {bl bs : Nat} {t b : Bool}
theorem Fx.ext (h : Fx W w k s bl bs) (x : Ext w w') : Fx W w' k s bl bs := ⟨h.s.ext x, h.k.ext x, h.x.trans x⟩
abbrev Fit (W : World) (b : Bool) : Value → World → Prop := fun v w' => v = .bool (!b) ∧ Ext W w'
theorem f12 (h : Fx W w k s bl bs) (e : b = t) : ref8_fits.J12 (Fit W b) t w :=
  ifP_of (fun ht => ⟨by rw [e, ht]; rfl, h.x⟩) fun ht => ⟨by rw [e, ht]; rfl, h.x⟩
theorem f11 (h : Fx W w k s bl bs) (e : b = (t || wr11 k s)) : ref8_fits.J11 (Fit W b) ⟨bl, 0, none⟩ ⟨bs, 0, none⟩ t w := by
  refine ifP_of (fun ht => ⟨by rw [e, ht]; rfl, h.x⟩) fun ht => ?_
  rw [ht, Bool.false_or] at e
  have j : ∀ t, t = wr11 k s → ref8_fits.J12 (Fit W b) t w := fun t ht => f12 h (by rw [e, ht])
  exact ⟨_, h.s.at_ 2 rfl, ifP_not.2 (ifP_of (fun h1 => j _ (by simp [wr11, h1])) fun h1 => ⟨_, h.s.at_ 1 rfl, ifP_not.2 (ifP_of (fun h2 => j _ (by simp [wr11, h2])) fun h2 => ⟨_, h.s.at0, ifP_not.2 (ifP_of (fun h4 => j _ (by simp [wr11, h4])) fun h4 => ⟨_, h.k.c1, ifP_of (fun h3 => ⟨_, h.s.at_ 6 rfl, j _ (by simp [wr11, h1, h2, h3, h4])⟩) fun h3 => j _ (by simp [wr11, h3])⟩)⟩)⟩)⟩
theorem f10 (h : Fx W w k s bl bs) (e : b = (t || (wr10 s || wr11 k s))) : ref8_fits.J10 (Fit W b) ⟨bl, 0, none⟩ ⟨bs, 0, none⟩ t w := by
  refine ifP_of (fun ht => ⟨by rw [e, ht]; rfl, h.x⟩) fun ht => ?_
  rw [ht, Bool.false_or] at e
  have j : ∀ t, t = wr10 s → ref8_fits.J11 (Fit W b) ⟨bl, 0, none⟩ ⟨bs, 0, none⟩ t w := fun t ht => f11 h (by rw [e, ht])
  exact ⟨_, h.s.at_ 41 rfl, ifP_decide.2 ⟨fun h1 => j _ (by simp [wr10, h1]), fun h1 => ⟨_, h.s.at_ 42 rfl, j _ (by simp [wr10, h1])⟩⟩⟩
theorem f9 (h : Fx W w k s bl bs) (e : b = (t || (wr9 s || (wr10 s || wr11 k s)))) : ref8_fits.J9 (Fit W b) ⟨bl, 0, none⟩ ⟨bs, 0, none⟩ t w := by
  refine ifP_of (fun ht => ⟨by rw [e, ht]; rfl, h.x⟩) fun ht => ?_
  rw [ht, Bool.false_or] at e
  have j : ∀ t, t = wr9 s → ref8_fits.J10 (Fit W b) ⟨bl, 0, none⟩ ⟨bs, 0, none⟩ t w := fun t ht => f10 h (by rw [e, ht])
  exact ⟨_, h.s.at_ 40 rfl, ifP_not.2 (ifP_of (fun h1 => j _ (by simp [wr9, h1])) fun h1 => ⟨_, h.s.at_ 41 rfl, ifP_bne.2 ⟨fun h2 => j _ (by simp [wr9, h1, h2]), fun h2 => ⟨_, h.s.at_ 42 rfl, j _ (by simp [wr9, h1, h2])⟩⟩⟩)⟩
theorem f8 (h : Fx W w k s bl bs) (e : b = (t || (wr8 s || (wr9 s || (wr10 s || wr11 k s))))) : ref8_fits.J8 (Fit W b) ⟨bl, 0, none⟩ ⟨bs, 0, none⟩ (ipB s) t w := by
  refine ifP_of (fun ht => ⟨by rw [e, ht]; rfl, h.x⟩) fun ht => ?_
  rw [ht, Bool.false_or] at e
  have j : ∀ t w', t = wr8 s → Fx W w' k s bl bs → ref8_fits.J9 (Fit W b) ⟨bl, 0, none⟩ ⟨bs, 0, none⟩ t w' := fun t w' ht h => f9 h (by rw [e, ht])
  refine ifP_of (fun hi => ⟨_, h.s.at_ 6 rfl, ifP_beq.2 ⟨fun hp => ?_, fun hp => j _ _ (by simp [wr8, hi, hp]) h⟩⟩) fun hi => j _ _ (by simp [wr8, hi]) h
  refine rd16 (srcCells h.s) (h.s.at_ 8 rfl) ((rzero_spec (i := 4) (by decide)).mono ?_)
  rintro v w1 ⟨rfl, x1⟩
  have h1 := h.ext x1
  refine ⟨_, rfl, ifP_not.2 (ifP_of (fun hz => ?_) fun hz => j _ _ ?_ h1)⟩
  · refine rd16 (dstCells h1.s) (h1.s.at_ 24 rfl) ((rzero_spec (i := 4) (by decide)).mono ?_)
    rintro v w2 ⟨rfl, x2⟩
    refine ⟨_, rfl, j _ _ ?_ (h1.ext x2)⟩
    have hz : allZ s.sr from4 = true := hz
    show (!allZ s.ds from4) = _
    simp [wr8, hi, hp, hz]
  · have hz : allZ s.sr from4 = false := hz
    simp [wr8, hi, hp, hz]
theorem f7 (h : Fx W w k s bl bs) (e : b = (t || (wr7 s || (wr8 s || (wr9 s || (wr10 s || wr11 k s)))))) : ref8_fits.J7 (Fit W b) ⟨bl, 0, none⟩ ⟨bs, 0, none⟩ (ipB s) t w := by
  refine ifP_of (fun ht => ⟨by rw [e, ht]; rfl, h.x⟩) fun ht => ?_
  rw [ht, Bool.false_or] at e
  have j : ∀ t, t = wr7 s → ref8_fits.J8 (Fit W b) ⟨bl, 0, none⟩ ⟨bs, 0, none⟩ (ipB s) t w := fun t ht => f8 h (by rw [e, ht])
  exact ⟨_, h.s.at_ 7 rfl, ifP_decide.2 ⟨fun h1 => j _ (by simp [wr7, h1]), fun h1 => ⟨_, h.s.at_ 7 rfl, j _ (by simp [wr7, h1])⟩⟩⟩
theorem f6 (h : Fx W w k s bl bs) (e : b = (t || (wr6 s || (wr7 s || (wr8 s || (wr9 s || (wr10 s || wr11 k s))))))) : ref8_fits.J6 (Fit W b) ⟨bl, 0, none⟩ ⟨bs, 0, none⟩ (ipB s) t w := by
  refine ifP_of (fun ht => ⟨by rw [e, ht]; rfl, h.x⟩) fun ht => ?_
  rw [ht, Bool.false_or] at e
  have j : ∀ t w', t = wr6 s → Fx W w' k s bl bs → ref8_fits.J7 (Fit W b) ⟨bl, 0, none⟩ ⟨bs, 0, none⟩ (ipB s) t w' := fun t w' ht h => f7 h (by rw [e, ht])
  refine ifP_not.2 (ifP_of (fun hi => j _ _ (by simp [wr6, hi]) h) fun hi => ⟨_, h.s.at_ 7 rfl, ifP_bne.2 ⟨fun hx => j _ _ (by simp [wr6, hi, hx]) h, fun hx => ?_⟩⟩)
  refine rd16 (srcCells h.s) (h.s.at_ 8 rfl) ((rzero_spec (i := 0) (by decide)).mono ?_)
  rintro v w1 ⟨rfl, x1⟩
  have h1 := h.ext x1
  refine ⟨_, rfl, ifP_not.2 (ifP_of (fun hz => ?_) fun hz => j _ _ ?_ h1)⟩
  · have hz : allZ s.sr all16 = true := hz
    refine rd16 (dstCells h1.s) (h1.s.at_ 24 rfl) ((rzero_spec (i := 0) (by decide)).mono ?_)
    rintro v w2 ⟨rfl, x2⟩
    have h2 := h1.ext x2
    refine ⟨_, rfl, ifP_not.2 (ifP_of (fun hz2 => ⟨_, h2.s.at_ 40 rfl, j _ _ ?_ h2⟩) fun hz2 => j _ _ ?_ h2)⟩
    · have hz2 : allZ s.ds all16 = true := hz2
      simp [wr6, hi, hx, hz, hz2]
    · have hz2 : allZ s.ds all16 = false := hz2
      simp [wr6, hi, hx, hz, hz2]
  · have hz : allZ s.sr all16 = false := hz
    simp [wr6, hi, hx, hz]
theorem gtmod2 {x : Int} (h : 0 ≤ x) : Int.tmod x 2 = x % 2 := Int.tmod_eq_emod_of_nonneg h
theorem f5 (h : Fx W w k s bl bs) (p0 : 0 ≤ s.pr) (p1 : s.pr ≤ 4294967295) (e : b = (t || (wr5 s || (wr6 s || (wr7 s || (wr8 s || (wr9 s || (wr10 s || wr11 k s)))))))) : ref8_fits.J5 (Fit W b) ⟨bl, 0, none⟩ ⟨bs, 0, none⟩ (saidB s) (ipB s) t w := by
  refine ifP_of (fun ht => ⟨by rw [e, ht]; rfl, h.x⟩) fun ht => ?_
  rw [ht, Bool.false_or] at e
  have j : ∀ t, t = wr5 s → ref8_fits.J6 (Fit W b) ⟨bl, 0, none⟩ ⟨bs, 0, none⟩ (ipB s) t w := fun t ht => f6 h (by rw [e, ht])
  have e8 : IntKind.u32.wrap (Int.tdiv s.pr 256) = s.pr / 256 := by
    rw [Int.tdiv_eq_ediv_of_nonneg p0, wrap_u32 (by omega) (by omega)]
  refine ifP_of (fun hs => ⟨_, h.s.at_ 6 rfl, ifP_decide.2 ⟨fun hp => j _ (by simp [wr5, hs, hp]), fun hp => ⟨_, h.s.at_ 6 rfl, ?_⟩⟩⟩) fun hs => j _ (by simp [wr5, hs])
  rw [gtmod2 p0]
  refine ifP_beq.2 ⟨fun ho => j _ (by simp [wr5, hs, ho]), fun ho => ⟨_, h.s.at_ 6 rfl, j _ ?_⟩⟩
  rw [e8, gtmod2 (by omega)]
  simp [wr5, hs, hp, ho]
theorem f4 (h : Fx W w k s bl bs) (p0 : 0 ≤ s.pr) (p1 : s.pr ≤ 4294967295) (e : b = (t || (wr4 s || (wr5 s || (wr6 s || (wr7 s || (wr8 s || (wr9 s || (wr10 s || wr11 k s))))))))) : ref8_fits.J4 (Fit W b) ⟨bl, 0, none⟩ ⟨bs, 0, none⟩ (saidB s) (ipB s) t w := by
  refine ifP_of (fun ht => ⟨by rw [e, ht]; rfl, h.x⟩) fun ht => ?_
  rw [ht, Bool.false_or] at e
  have j : ∀ t, t = wr4 s → ref8_fits.J5 (Fit W b) ⟨bl, 0, none⟩ ⟨bs, 0, none⟩ (saidB s) (ipB s) t w := fun t ht => f5 h p0 p1 (by rw [e, ht])
  exact ifP_not.2 (ifP_of (fun hs => j _ (by simp [wr4, hs])) fun hs => ⟨_, h.s.at_ 6 rfl, ifP_bne.2 ⟨fun hp => j _ (by simp [wr4, hs, hp]), fun hp => ⟨_, h.s.at_ 7 rfl, ifP_bne.2 ⟨fun hn => j _ (by simp [wr4, hs, hn]), fun hn => ⟨_, h.s.at_ 40 rfl, j _ (by simp [wr4, hs, hp, hn])⟩⟩⟩⟩⟩)
theorem f3 (h : Fx W w k s bl bs) (p0 : 0 ≤ s.pr) (p1 : s.pr ≤ 4294967295) (e : b = (t || (wr3 k s || (wr4 s || (wr5 s || (wr6 s || (wr7 s || (wr8 s || (wr9 s || (wr10 s || wr11 k s)))))))))) : ref8_fits.J3 (Fit W b) ⟨bl, 0, none⟩ ⟨bs, 0, none⟩ (saidB s) (ipB s) t w := by
  refine ifP_of (fun ht => ⟨by rw [e, ht]; rfl, h.x⟩) fun ht => ?_
  rw [ht, Bool.false_or] at e
  have j : ∀ t, t = wr3 k s → ref8_fits.J4 (Fit W b) ⟨bl, 0, none⟩ ⟨bs, 0, none⟩ (saidB s) (ipB s) t w := fun t ht => f4 h p0 p1 (by rw [e, ht])
  refine ⟨_, h.s.at_ 2 rfl, ifP_not.2 (ifP_of (fun h0 => j _ (by simp [wr3, h0])) fun h0 => ⟨_, h.s.at_ 3 rfl, ifP_of (fun hb => j _ (by simp [wr3, h0, hb])) fun hb => ⟨_, h.s.at_ 4 rfl, ifP_of (fun he => j _ (by simp [wr3, h0, he])) fun he => ⟨_, h.s.at_ 5 rfl, ifP_bne.2 ⟨fun hq => j _ (by simp [wr3, h0, hq]), fun hq => ⟨_, h.s.at_ 6 rfl, ifP_beq.2 ⟨fun hp => ⟨_, h.k.c2, j _ (by simp [wr3, h0, hb, he, hq, hp])⟩, fun hp => j _ (by simp [wr3, h0, hb, he, hq, hp])⟩⟩⟩⟩⟩⟩)⟩
theorem f2 (h : Fx W w k s bl bs) (p0 : 0 ≤ s.pr) (p1 : s.pr ≤ 4294967295) (e : b = (t || (wr2 k s || (wr3 k s || (wr4 s || (wr5 s || (wr6 s || (wr7 s || (wr8 s || (wr9 s || (wr10 s || wr11 k s))))))))))) : ref8_fits.J2 (Fit W b) ⟨bl, 0, none⟩ ⟨bs, 0, none⟩ (saidB s) (ipB s) t w := by
  refine ifP_of (fun ht => ⟨by rw [e, ht]; rfl, h.x⟩) fun ht => ?_
  rw [ht, Bool.false_or] at e
  have j : ∀ t w', t = wr2 k s → Fx W w' k s bl bs → ref8_fits.J3 (Fit W b) ⟨bl, 0, none⟩ ⟨bs, 0, none⟩ (saidB s) (ipB s) t w' := fun t w' ht h => f3 h p0 p1 (by rw [e, ht])
  refine ⟨fun u => SAt u bs s ∧ LAt u bl k, ⟨h.s.ext (Ext.drew w), h.k.ext (Ext.drew w)⟩, letD fun w1 _ x1 => ⟨_, fun u hu => hu.1.at_ 2 rfl, ifP_of (fun hm => ⟨_, fun u hu => hu.2.c2, ifP_beq.2 ⟨fun h0 => j _ _ (by simp [wr2, hm, h0]) (h.ext x1), fun h0 => ⟨_, fun u hu => hu.1.at_ 5 rfl, LAt.rdS (fun u hu => hu.2) (rspace_spec.mono ?_)⟩⟩⟩) fun hm => j _ _ (by simp [wr2, hm]) (h.ext x1)⟩⟩
  rintro v w2 ⟨rfl, x2⟩
  have h2 := (h.ext x1).ext x2
  refine ⟨_, rfl, ⟨h2.s, h2.k⟩, j _ _ ?_ h2⟩
  rw [show decide (s.sq ≥ seqsN k + 1) = decide (s.sq > seqsN k) from decide_eq_decide.2 (by omega)]
  simp [wr2, hm, h0]
theorem f1 (h : Fx W w k s bl bs) (p0 : 0 ≤ s.pr) (p1 : s.pr ≤ 4294967295) (e : b = (wr1 k s || (wr2 k s || (wr3 k s || (wr4 s || (wr5 s || (wr6 s || (wr7 s || (wr8 s || (wr9 s || (wr10 s || wr11 k s))))))))))) : ref8_fits.J1 (Fit W b) ⟨bl, 0, none⟩ ⟨bs, 0, none⟩ (saidB s) (ipB s) w := by
  have j : ∀ t, t = wr1 k s → ref8_fits.J2 (Fit W b) ⟨bl, 0, none⟩ ⟨bs, 0, none⟩ (saidB s) (ipB s) t w := fun t ht => f2 h p0 p1 (by rw [e, ht])
  exact ⟨_, h.s.at_ 1 rfl, ifP_not.2 (ifP_of (fun h1 => j _ (by simp [wr1, h1])) fun h1 => ⟨_, h.k.c0, j _ (by simp [wr1, h1])⟩)⟩
theorem any_eq : anyWrong k s = (wr1 k s || (wr2 k s || (wr3 k s || (wr4 s || (wr5 s || (wr6 s || (wr7 s || (wr8 s || (wr9 s || (wr10 s || wr11 k s)))))))))) := by
  simp [anyWrong, List.range, List.range.loop, wrB]
theorem f0 (h : Fx W w k s bl bs) (p0 : 0 ≤ s.pr) (p1 : s.pr ≤ 4294967295) (e : b = (wr1 k s || (wr2 k s || (wr3 k s || (wr4 s || (wr5 s || (wr6 s || (wr7 s || (wr8 s || (wr9 s || (wr10 s || wr11 k s))))))))))) : ref8_fits.J0 (Fit W b) ⟨bl, 0, none⟩ ⟨bs, 0, none⟩ (saidB s) w := by
  have j : ∀ i, i = ipB s → ref8_fits.J1 (Fit W b) ⟨bl, 0, none⟩ ⟨bs, 0, none⟩ (saidB s) i w := fun i hi => by rw [hi]; exact f1 h p0 p1 e
  exact ifP_of (fun hs => ⟨_, h.s.at_ 6 rfl, ifP_beq.2 ⟨fun hp => j _ (by simp [ipB, hs, hp]), fun hp => ⟨_, h.s.at_ 6 rfl, j _ (by simp [ipB, hs, hp])⟩⟩⟩) fun hs => j _ (by simp [ipB, hs])
theorem rfits_spec (p0 : 0 ≤ s.pr) (p1 : s.pr ≤ 4294967295) : Run Try.prog 19 #[.agg #[.bool k.ac, .bool k.pf, .int .i64 k.mp], s.v] W fun v w' => v = .bool (!anyWrong k s) ∧ Ext W w' := by
  refine ref8_fits.ok (letA fun w1 h1 x1 s1 => letA fun w2 h2 x2 s2 => ?_)
  have h : Fx W w2 k s W.heap.size w1.heap.size := ⟨h2, x2.heap h1, x1.trans x2⟩
  have j : ∀ i, i = saidB s → ref8_fits.J0 (Fit W (anyWrong k s)) ⟨W.heap.size, 0, none⟩ ⟨w1.heap.size, 0, none⟩ i w2 := fun i hi => by rw [hi]; exact f0 h p0 p1 any_eq
  exact ⟨_, h.s.at_ 2 rfl, ifP_not.2 (ifP_of (fun hm => ⟨_, h.s.at_ 3 rfl, j _ (by simp [saidB, hm])⟩) fun hm => j _ (by simp [saidB, hm]))⟩
end
end Go.Proofs.Ytjlbegfbdjhhdaa
