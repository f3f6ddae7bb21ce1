/- The statement ForgeLinks. -/
import Derived.Test.YtjlbegfbdjhhdaaG17
namespace Go.Proofs.Ytjlbegfbdjhhdaa
open Go.Rd Go.RowKit
set_option linter.unusedVariables false
set_option linter.unusedSimpArgs false

theorem st_lnk {w : World} {b : Nat} {cs : Array Value} {k : Lnk} (h : w.heap[b]? = some (.cells cs 23 (0, 0))) (hs : cs.size = 3) {φ : World → Prop}
    (hφ : ∀ w', LAt w' b k → Keep (· = b) w w' → φ w') : storeRow ⟨b, 0, none⟩ 0 [.bool k.ac, .bool k.pf, .int .i64 k.mp] w φ := by
  refine storeRow_block h (by rw [hs]; exact Nat.le_refl 3) rfl fun w' hw hk _ => hφ w' ?_ hk
  unfold LAt
  rw [hw]
  obtain ⟨l⟩ := cs
  have hl : l.length = 3 := hs
  rw [setFrom_all l [.bool k.ac, .bool k.pf, .int .i64 k.mp] (by rw [hl]; rfl)]
theorem erR_zero {k : Lnk} {s : Sp} {xs : List Int} (h : erR (makeX k s xs) = 0) : makeX k s xs = .ok (ysR (makeX k s xs)) := by
  revert h
  unfold makeX
  split
  · intro h; exact absurd h (by decide)
  · split
    · intro h; exact absurd h (by decide)
    · split
      · intro h; exact absurd h (by decide)
      · intro _; rfl

section
variable {W : World} {s : Sp} {xs b : List Int}
theorem links_loop (hd : IBytes W s.dA s.dn xs) (hb : s.dn ≤ 140737488351232) (p0 : 0 ≤ s.pr) (p1 : s.pr ≤ 4294967295) (hm : makeX k00 s xs = .ok b) (hp : s.pr ≠ 61) (hpl : s.pl = true) {bs : Nat} {B : Option Addr} {bc : Nat} :
    ∀ (d i : Nat), 12 - i = d → i ≤ 12 → ∀ w, Ext W w → SAt w bs s → IBytes w B b.length b → law8_ForgeLinks.L0 (Good W) ⟨bs, 0, none⟩ B b.length bc i w := by
  intro d
  have hl := hd.len
  have hb16 : b.length ≤ 65535 := (make_ok hm).2.2.1
  induction d with
  | zero =>
    intro i hdi hi w x hs hB
    refine law8_ForgeLinks.L0_step (ifP_no (by omega) (gawake_spec.mono ?_))
    rintro v w1 ⟨rfl, x1⟩
    exact ⟨_, rfl, rfl, Fr.of_ext (x.trans x1)⟩
  | succ d ih =>
    intro i hdi hi w x hs hB
    let k : Lnk := ⟨Int.tmod (i : Int) 2 == 1, Int.tmod (IntKind.i64.wrap (Int.tdiv (i : Int) 2)) 2 == 1, IntKind.i64.wrap (Int.tdiv (i : Int) 4)⟩
    have hk : linkOk k = true := by
      have e : IntKind.i64.wrap (Int.tdiv (i : Int) 4) = ((i / 4 : Nat) : Int) := by
        rw [show Int.tdiv (i : Int) 4 = ((i / 4 : Nat) : Int) from rfl]
        exact wrap_i64 (by omega) (by omega)
      have e2 : k.mp = ((i / 4 : Nat) : Int) := e
      rw [linkOk, e2]
      simp
      omega
    have hm1 : makeX k s xs = .ok b := links_same hm hp hpl hk
    obtain ⟨y, hm2, hy⟩ := links_less hm hp hpl hk
    have hy16 : y.length ≤ 65535 := (make_ok hm2).2.2.1
    refine law8_ForgeLinks.L0_step (ifP_yes (by omega) (letA fun w1 h1 x1 s1 => st_lnk (k := k) h1 rfl fun w2 h2 k2 => ?_))
    have x02 : Go.Rd.Ext w w2 := x1.fresh k2 fun i hi => by rw [hi]; exact Nat.le_refl _
    have hs2 := hs.ext x02
    let S : World → Prop := fun u => LAt u w.heap.size k ∧ SAt u bs s
    have xW2 := x.trans x02
    refine ⟨S, ⟨h2.ext (Ext.drew w2), hs2.ext (Ext.drew w2)⟩, letD fun w4 _ x4 => LAt.rdS (k := k) (fun u hu => hu.1) (SAt.rdS (s := s) (fun u hu => hu.2) ((lend_spec (hd.ext (xW2.trans x4)) hb).mono ?_))⟩
    rintro v w5 ⟨A5, c5, rfl, o5, b5, x5⟩
    have x45 := x4.trans x5
    refine ⟨_, _, _, _, _, _, _, _, _, _, _, _, _, _, _, _, _, _, _, _, _, _, _, _, _, _, _, _, _, _, _, _, _, _, _, _, _, _, _, _, _, _, _, _, _, _, rfl, ⟨h2.ext x45, hs2.ext x45⟩, (make_spec (k := k) (s := lentS s A5 c5) (lent_read o5 hl) hb p0 p1).mono ?_⟩
    intro v w6 hv
    rw [make_lent, hm1] at hv
    obtain ⟨A6, c6, rfl, o6, b6, x6⟩ := hv
    have x46 := x45.trans x6
    have x06 := x02.trans x46
    refine ⟨_, _, _, _, rfl, ifP_f rfl ((sameBytes_spec (o6.rd rfl) (hB.ext x06) (by omega)).mono ?_)⟩
    rintro v w7 ⟨rfl, x7⟩
    have hs7 := (hs.ext x06).ext x7
    have xW7 := (x.trans x06).trans x7
    refine ⟨_, rfl, ifP_f (by simp) (hs7.rd ((lend_spec (hd.ext xW7) hb).mono ?_))⟩
    rintro v w8 ⟨A8, c8, rfl, o8, b8, x8⟩
    refine ⟨_, _, _, _, _, _, _, _, _, _, _, _, _, _, _, _, _, _, _, _, _, _, _, _, _, _, _, _, _, _, _, _, _, _, _, _, _, _, _, _, _, _, _, _, _, _, rfl, letA fun w9 h9 x9 s9 => SAt.put (s := lentS s A8 c8) h9 fun w10 hs10 k10 => cell_put hs10 (i := 0) (by show 0 < 44; decide) rfl fun w11 h11 k11 => ?_⟩
    have hs11 : SAt w11 w8.heap.size { lentS s A8 c8 with pl := false } := h11
    have x79 := x8.trans x9
    have z8 := x8.size
    have x711 : Ext w7 w11 := (x79.fresh k10 fun i hi => by omega).fresh k11 fun i hi => by omega
    have L8 := o8.lt
    have o11 := ((o8.ext x9).keep k10 fun i hi hi2 => by have := L8 i hi; omega).keep k11 fun i hi hi2 => by have := L8 i hi; omega
    have x211 : Ext w2 w11 := (x46.trans x7).trans x711
    have hk11 := h2.ext x211
    refine hk11.rd (hs11.rd ((make_spec (k := k) (s := { lentS s A8 c8 with pl := false }) (lent_read o11 hl) hb p0 p1).mono ?_))
    intro v w12 hv
    rw [show makeX k { lentS s A8 c8 with pl := false } xs = makeX k { s with pl := false } xs from rfl, hm2] at hv
    obtain ⟨A12, c12, rfl, o12, b12, x12⟩ := hv
    have x012 := (x02.trans x211).trans x12
    have j5 : ∀ t : Bool, t = false → law8_ForgeLinks.J5 (Good W) ⟨bs, 0, none⟩ B b.length bc i t w12 := by
      intro t ht
      subst ht
      refine ifP_f rfl ?_
      have hw : IntKind.i64.wrap ((i : Int) + 1) = ((i + 1 : Nat) : Int) := wrap_i64 (by omega) (by omega)
      rw [hw]
      exact ih (i + 1) (by omega) (by omega) w12 (x.trans x012) (hs.ext x012) (hB.ext x012)
    have j3 : ∀ t : Bool, (t = true ↔ (k.pf = true ∧ s.pr < 256)) → law8_ForgeLinks.J3 (Good W) ⟨bs, 0, none⟩ B b.length bc i A12 y.length c12 0 0 t w12 := by
      intro t ht
      refine ifP_of (fun h => ifP_f rfl (j5 _ ?_)) fun h => ifP_f rfl (j5 _ ?_)
      · rw [if_pos (ht.1 h)] at hy
        rw [wrap_i64 (by omega) (by omega)]
        simp; omega
      · rw [if_neg (fun hh => by rw [ht.2 hh] at h; cases h)] at hy
        rw [wrap_i64 (by omega) (by omega)]
        simp; omega
    refine ⟨_, _, _, _, rfl, _, (hk11.ext x12).c1, ifP_of (fun h => ⟨_, (hs.ext x012).at_ 6 rfl, j3 _ ?_⟩) fun h => j3 _ ?_⟩
    · rw [decide_eq_true_iff]; exact ⟨fun h3 => ⟨h, h3⟩, fun h3 => h3.2⟩
    · rw [h]; simp
end
theorem ForgeLinks_main {W : World} {s : Sp} {xs : List Int} (hd : IBytes W s.dA s.dn xs) (hb : s.dn ≤ 140737488351232) (p0 : 0 ≤ s.pr) (p1 : s.pr ≤ 4294967295) : Run Try.prog 4 #[s.v] W (Good W) := by
  have hl := hd.len
  let t : Sp := { s with pl := true }
  refine law8_ForgeLinks.ok (letA fun w1 h1 x1 s1 => cell_put (b := W.heap.size) h1 (i := 0) (by show 0 < 44; decide) rfl fun w2 h2 k2 => ?_)
  have hs2 : SAt w2 W.heap.size t := h2
  have x02 : Ext W w2 := x1.fresh k2 fun i hi => by omega
  refine hs2.rd ((lend_spec (s := t) (hd.ext x02) hb).mono ?_)
  rintro v w3 ⟨A3, c3, rfl, o3, b3, x3⟩
  refine ⟨_, _, _, _, _, _, _, _, _, _, _, _, _, _, _, _, _, _, _, _, _, _, _, _, _, _, _, _, _, _, _, _, _, _, _, _, _, _, _, _, _, _, _, _, _, _, rfl, (make_spec (k := k00) (s := lentS t A3 c3) (lent_read o3 hl) hb p0 p1).mono ?_⟩
  intro v w4 hv
  rw [make_lent] at hv
  obtain ⟨A4, c4, rfl, o4, b4, x4⟩ := hv.form
  have x04 := (x02.trans x3).trans x4
  have aw : law8_ForgeLinks.J0 (Good W) ⟨W.heap.size, 0, none⟩ A4 (ysR (makeX k00 t xs)).length c4 true w4 := by
    refine ifP_t rfl (gawake_spec.mono ?_)
    rintro v w5 ⟨rfl, x5⟩
    exact ⟨_, rfl, rfl, Fr.of_ext (x04.trans x5)⟩
  have hs4 := (hs2.ext x3).ext x4
  refine ⟨_, _, _, _, rfl, ifP_bne.2 ⟨fun _ => aw, fun h => ⟨_, hs4.at_ 6 rfl, ?_⟩⟩⟩
  by_cases hp : s.pr = 61
  · rw [show (t.pr == 61) = true from by rw [show t.pr = 61 from hp]; rfl]
    exact aw
  · rw [show (t.pr == 61) = false from by rw [show t.pr = s.pr from rfl]; simp [hp]]
    exact ifP_f rfl (links_loop (s := t) hd hb p0 p1 (erR_zero h) hp rfl 12 0 rfl (by omega) w4 x04 hs4 (o4.rd rfl))
end Go.Proofs.Ytjlbegfbdjhhdaa
