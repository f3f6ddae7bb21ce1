/- The statement ForgeRefuses. -/
import Derived.Test.YtjlbegfbdjhhdaaG18
import Derived.Test.YtjlbegfbdjhhdaaG19
namespace Go.Proofs.Ytjlbegfbdjhhdaa
open Go.Rd Go.RowKit
set_option linter.unusedVariables false
set_option linter.unusedSimpArgs false

section
variable {W : World} {k : Lnk} {s : Sp} {xs b : List Int}
def wantE (i : Nat) : Int := if i = 5 then 70 else 80
theorem ref_j1 {bk bs bt bj i : Nat} {j : Lnk} {t : Sp} {w : World} (hj : LAt w bj j) (ht : SAt w bt t) (hx : IBytes w t.dA t.dn xs) (hb : t.dn ≤ 140737488351232) (p0 : 0 ≤ t.pr) (p1 : t.pr ≤ 4294967295) (hi : i ≤ 100)
    (hm : makeX j t xs = .error (wantE i)) (next : ∀ w', Ext w w' → law8_ForgeRefuses.L0 (Good W) ⟨bk, 0, none⟩ ⟨bs, 0, none⟩ ((i + 1 : Nat) : Int) w') : law8_ForgeRefuses.J1 (Good W) ⟨bk, 0, none⟩ ⟨bs, 0, none⟩ i ⟨bt, 0, none⟩ ⟨bj, 0, none⟩ w := by
  refine hj.rd (ht.rd ((make_spec (k := j) (s := t) hx hb p0 p1).mono ?_))
  intro v w2 hv
  rw [hm] at hv
  obtain ⟨rfl, x2⟩ := hv
  have hw : IntKind.i64.wrap ((i : Int) + 1) = ((i + 1 : Nat) : Int) := wrap_i64 (by omega) (by omega)
  have fin : law8_ForgeRefuses.J3 (Good W) ⟨bk, 0, none⟩ ⟨bs, 0, none⟩ i false w2 := by
    refine ifP_f rfl ?_
    rw [hw]
    exact next w2 x2
  refine ⟨_, _, _, _, rfl, ifP_beq.2 ⟨fun h => ?_, fun h => ?_⟩⟩
  · rw [wantE, if_pos (by omega)]
    exact ifP_f rfl fin
  · rw [wantE, if_neg (by omega)]
    exact ifP_f rfl fin

theorem refuses_loop (hd : IBytes W s.dA s.dn xs) (hb : s.dn ≤ 140737488351232) (ok : s.ok) (hm : makeX k s xs = .ok b) {bk bs : Nat} :
    ∀ (d i : Nat), 8 - i = d → i ≤ 8 → ∀ w, Ext W w → LAt w bk k → SAt w bs s → law8_ForgeRefuses.L0 (Good W) ⟨bk, 0, none⟩ ⟨bs, 0, none⟩ i w := by
  intro d
  have hl := hd.len
  obtain ⟨hk, hw, _, _⟩ := make_ok hm
  induction d with
  | zero =>
    intro i hdi hi w x hK hs
    refine law8_ForgeRefuses.L0_step (ifP_no (by omega) (gawake_spec.mono ?_))
    rintro v w1 ⟨rfl, x1⟩
    exact ⟨_, rfl, rfl, Fr.of_ext (x.trans x1)⟩
  | succ d ih =>
    intro i hdi hi w x hK hs
    refine law8_ForgeRefuses.L0_step (ifP_yes (by omega) (hs.rd ((lend_spec (hd.ext x) hb).mono ?_)))
    rintro v w2 ⟨A2, c2, rfl, o2, b2, x2⟩
    refine ⟨_, _, _, _, _, _, _, _, _, _, _, _, _, _, _, _, _, _, _, _, _, _, _, _, _, _, _, _, _, _, _, _, _, _, _, _, _, _, _, _, _, _, _, _, _, _, rfl, letA fun w3 h3 x3 s3 => SAt.put (s := lentS s A2 c2) h3 fun w4 hs4 k4 => ?_⟩
    have z2 := x2.size
    have L2 := o2.lt
    have x04 : Ext w w4 := (x2.trans x3).fresh k4 fun i hi => by omega
    have o4 := (o2.ext x3).keep k4 fun i hi hi2 => by have := L2 i hi; omega
    refine (hK.ext x04).rd (letA fun w5 h5 x5 s5 => st_lnk (k := k) h5 rfl fun w6 hj6 k6 => ?_)
    have z4 := x04.size
    have z24 : w2.heap.size < w4.heap.size := by have := (cell_of hs4).symm.trans (hs4.at0); exact (Array.getElem?_eq_some_iff.1 hs4).1
    have x46 : Ext w4 w6 := x5.fresh k6 fun i hi => by omega
    have hs6 := hs4.ext x46
    have x06 := x04.trans x46
    have o6 := o4.ext x46
    have next : ∀ w', Ext w w' → law8_ForgeRefuses.L0 (Good W) ⟨bk, 0, none⟩ ⟨bs, 0, none⟩ ((i + 1 : Nat) : Int) w' := fun w' x7 => ih (i + 1) (by omega) (by omega) w' (x.trans x7) (hK.ext x7) (hs.ext x7)
    have e80 : i ≠ 5 → wantE i = 80 := fun h => if_neg h
    have onT : ∀ (n : Nat) (v : Value) (t : Sp) (a : Addr), n < 44 → a = ⟨w2.heap.size, n, none⟩ → (lentS s A2 c2).row.toArray.setIfInBounds n v = t.row.toArray → t.dA = A2 → t.dn = s.dn → (0 ≤ t.pr ∧ t.pr ≤ 4294967295) → i ≠ 5 → anyWrong k t = true →
        (∃ u, w6.cell? a = some u) ∧ w6.frozen? a = false ∧ letW (w6.setCell a v) fun w7 => law8_ForgeRefuses.J1 (Good W) ⟨bk, 0, none⟩ ⟨bs, 0, none⟩ i ⟨w2.heap.size, 0, none⟩ ⟨w4.heap.size, 0, none⟩ w7 := by
      intro n v t a hn ha hv hA hdn hpr hi5 hwr
      refine cell_put hs6 (by show n < 44; exact hn) ha fun w7 h7 k7 => ?_
      rw [hv] at h7
      have x07 : Ext w w7 := x06.fresh k7 fun i hi => by omega
      have o7 := o6.keep k7 fun i hi hi2 => by have := L2 i hi; omega
      refine ref_j1 (j := k) (t := t) (k7.heap hj6 (by omega)) h7 (by rw [hA, hdn]; exact lent_read o7 hl) (by rw [hdn]; exact hb) hpr.1 hpr.2 (by omega) (by rw [e80 hi5]; exact make_wrong hk hwr) fun w' x' => next w' (x07.trans x')
    have ok' : (lentS s A2 c2).ok := ⟨ok.sq, ok.pr, ok.nx, ok.sr, ok.ds, ok.fr, ok.to⟩
    have hw' : anyWrong k (lentS s A2 c2) = false := hw
    have p1 := xor_one ok.pr.1 ok.pr.2
    have p2 := or_ge 65536 ok.pr.1 ok.pr.2 (by decide)
    have p3 := nx_facts hw
    refine ifP_beq.2 ⟨fun h => ⟨_, hs6.at_ 6 rfl, onT 6 _ { lentS s A2 c2 with pr := xorI .u32 s.pr 1 } _ (by decide) rfl rfl rfl rfl ⟨p1.1, p1.2.1⟩ (by omega) (ref0 hw' ok')⟩, fun _ => ?_⟩
    refine ifP_beq.2 ⟨fun h => ⟨_, hs6.at_ 6 rfl, onT 6 _ { lentS s A2 c2 with pr := orI .u32 s.pr 65536 } _ (by decide) rfl rfl rfl rfl ⟨Int.le_trans (by decide) p2.1, p2.2⟩ (by omega) (ref1 hw' ok')⟩, fun _ => ?_⟩
    refine ifP_beq.2 ⟨fun h => ⟨_, hs6.at_ 7 rfl, onT 7 _ { lentS s A2 c2 with nx := IntKind.i64.wrap (s.nx + 256) } _ (by decide) rfl rfl rfl rfl ok.pr (by omega) (ref_nx (.inr (by rw [wrap_i64 (by omega) (by omega)]; omega)))⟩, fun _ => ?_⟩
    refine ifP_beq.2 ⟨fun h => ⟨_, hs6.at_ 5 rfl, onT 5 _ { lentS s A2 c2 with sq := orI .u32 s.sq 16777216 } _ (by decide) rfl rfl rfl rfl ok.pr (by omega) (ref3 hw' ok')⟩, fun _ => ?_⟩
    refine ifP_beq.2 ⟨fun h => onT 41 _ { lentS s A2 c2 with fr := 70000 } _ (by decide) rfl rfl rfl rfl ok.pr (by omega) ref4, fun _ => ?_⟩
    refine ifP_beq.2 ⟨fun h => ?_, fun _ => ?_⟩
    · refine cell_put hj6 (i := 2) (by show 2 < 3; decide) rfl fun w7 h7 k7 => ?_
      have x07 : Ext w w7 := x06.fresh k7 fun i hi => by omega
      have o7 := o6.keep k7 fun i hi hi2 => by have := L2 i hi; omega
      have hj7 : LAt w7 w4.heap.size { k with mp := 3 } := h7
      refine ref_j1 (j := { k with mp := 3 }) (t := lentS s A2 c2) hj7 (k7.heap hs6 (by omega)) (lent_read o7 hl) hb ok.pr.1 ok.pr.2 (by omega) ?_ fun w' x' => next w' (x07.trans x')
      rw [show i = 5 by omega]
      rfl
    refine ifP_beq.2 ⟨fun h => ?_, fun _ => ?_⟩
    · refine cell_put hs6 (i := 1) (by show 1 < 44; decide) rfl fun w7 h7 k7 => ?_
      have x07 : Ext w w7 := x06.fresh k7 fun i hi => by omega
      have o7 := o6.keep k7 fun i hi hi2 => by have := L2 i hi; omega
      have hs7 : SAt w7 w2.heap.size { lentS s A2 c2 with wd := false } := h7
      refine cell_put (k7.heap hj6 (by omega)) (i := 0) (by show 0 < 3; decide) rfl fun w8 h8 k8 => ?_
      have x08 : Ext w w8 := x07.fresh k8 fun i hi => by omega
      have o8 := o7.keep k8 fun i hi hi2 => by have := L2 i hi; omega
      have hj8 : LAt w8 w4.heap.size { k with ac := false } := h8
      refine ref_j1 (j := { k with ac := false }) (t := { lentS s A2 c2 with wd := false }) hj8 (k8.heap hs7 (by omega)) (lent_read o8 hl) hb ok.pr.1 ok.pr.2 (by omega) ?_ fun w' x' => next w' (x08.trans x')
      rw [e80 (by omega)]
      exact make_wrong hk ref6
    refine ifP_beq.2 ⟨fun h => onT 7 _ { lentS s A2 c2 with nx := -1 } _ (by decide) rfl rfl rfl rfl ok.pr (by omega) (ref_nx (.inl (by decide))), fun _ => ?_⟩
    omega
end
theorem ForgeRefuses_main {W : World} {k : Lnk} {s : Sp} {xs : List Int} (hd : IBytes W s.dA s.dn xs) (hb : s.dn ≤ 140737488351232) (ok : s.ok) : Run Try.prog 5 #[.agg #[.bool k.ac, .bool k.pf, .int .i64 k.mp], s.v] W (Good W) := by
  have hl := hd.len
  refine law8_ForgeRefuses.ok (letA fun w1 h1 x1 s1 => letA fun w2 h2 x2 s2 => ?_)
  have hk2 : LAt w2 W.heap.size k := x2.heap h1
  have hs2 : SAt w2 w1.heap.size s := h2
  have x02 := x1.trans x2
  let S : World → Prop := fun u => LAt u W.heap.size k ∧ SAt u w1.heap.size s
  refine ⟨S, ⟨hk2.ext (Ext.drew w2), hs2.ext (Ext.drew w2)⟩, letD fun w4 _ x4 => LAt.rdS (k := k) (fun u hu => hu.1) (SAt.rdS (s := s) (fun u hu => hu.2) ((lend_spec (hd.ext (x02.trans x4)) hb).mono ?_))⟩
  rintro v w5 ⟨A5, c5, rfl, o5, b5, x5⟩
  have x45 := x4.trans x5
  refine ⟨_, _, _, _, _, _, _, _, _, _, _, _, _, _, _, _, _, _, _, _, _, _, _, _, _, _, _, _, _, _, _, _, _, _, _, _, _, _, _, _, _, _, _, _, _, _, rfl, ⟨hk2.ext x45, hs2.ext x45⟩, (make_spec (k := k) (s := lentS s A5 c5) (lent_read o5 hl) hb ok.pr.1 ok.pr.2).mono ?_⟩
  intro v w6 hv
  rw [make_lent] at hv
  obtain ⟨A6, c6, rfl, o6, b6, x6⟩ := hv.form
  have x06 := (x02.trans x45).trans x6
  refine ⟨_, _, _, _, rfl, ifP_bne.2 ⟨fun _ => gawake_spec.mono ?_, fun h => refuses_loop hd hb ok (erR_zero h) 8 0 rfl (by omega) w6 x06 ((hk2.ext x45).ext x6) ((hs2.ext x45).ext x6)⟩⟩
  rintro v w7 ⟨rfl, x7⟩
  exact ⟨_, rfl, rfl, Fr.of_ext (x06.trans x7)⟩
end Go.Proofs.Ytjlbegfbdjhhdaa
