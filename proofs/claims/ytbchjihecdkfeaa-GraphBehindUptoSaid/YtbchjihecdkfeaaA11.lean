/- What every program answers; the statements over Check and Run. -/
import Derived.Test.YtbchjihecdkfeaaA4
import Derived.Test.YtbchjihecdkfeaaA7
import Derived.Test.YtbchjihecdkfeaaA10
import Derived.Test.YtbchjihecdkfeaaVVerd
import Derived.Test.YtbchjihecdkfeaaOpenBl
namespace Go.Proofs.Ytbchjihecdkfeaa
open Go.Rd Go.RowKit
set_option linter.unusedVariables false
set_option linter.unusedSimpArgs false
set_option maxRecDepth 100000
def awP : List Ins := [⟨48, 0, 0, 0⟩, ⟨21, 1, 0, 7⟩, ⟨6, 0, 0, 0⟩, ⟨6, 0, 0, 1⟩]
def awB : List Blk := [⟨[⟨48, 0, 0, 0⟩], 3, ⟨21, 0, 0, 7⟩, 2, 1⟩, ⟨[], 1, ⟨6, 0, 0, 0⟩, 0, 0⟩, ⟨[], 1, ⟨6, 0, 0, 1⟩, 0, 0⟩]
theorem blks_mem {ps : List BP} {p : BP} (hp : p ∈ ps) : p.b ∈ blks ps := List.mem_map.2 ⟨p, hp, rfl⟩
theorem gawake_spec {w : World} : Run Try.prog 14 #[] w fun v w' => v = .bool true ∧ Go.Rd.Ext w w' := by
  refine law15_awake.ok (letA fun w1 h1 x1 s1 => ?_)
  have i1 : IInsns w1 (some (newA w)) 4 awP := (lit_insns h1 rfl).rdM rfl
  have ok : Inss awP := by intro i hi; simp [awP] at hi; rcases hi with rfl | rfl | rfl | rfl <;> simp [Ins.ok]
  have eo : ofR awP = (awB, 0) := by decide +kernel
  have ev : gverdV awB [7] = (1, 0, 3) := by decide +kernel
  have ec : gcodeV awB [7] = 0 := by decide +kernel
  have es : sizeR awB = (4, 0) := by decide +kernel
  have em : measureR awB = (6, 0) := by decide +kernel
  have en : gcheckV [] = (0, 150) := by decide +kernel
  refine (gof_spec i1 ok (by decide) (Nat.le_refl _)).mono ?_
  rintro v w2 ⟨O, oc, qs, rfl, g2, hb, hf, x2⟩
  rw [eo] at hb ⊢
  have hb : blks qs = awB := hb
  have hq : qs.length = 3 := by
    have := congrArg List.length hb
    rw [blks, List.length_map] at this
    exact this
  have hcode : ∀ p ∈ qs, p.b ∈ awB := fun p hp => by rw [← hb]; exact blks_mem hp
  have hsz : ∀ p ∈ qs, p.n ≤ 140737488351232 := fun p hp => by
    rw [← (g2.part p hp).2]
    have := hcode p hp
    simp only [awB, List.mem_cons, List.not_mem_nil, or_false] at this
    rcases this with h | h | h <;> (rw [h]; decide)
  have hbo : ∀ p ∈ qs, Inss p.b.code := fun p hp i hi => by
    have := hcode p hp
    simp only [awB, List.mem_cons, List.not_mem_nil, or_false] at this
    rcases this with h | h | h
    · rw [h] at hi
      simp at hi
      subst hi
      simp [Ins.ok]
    · rw [h] at hi; simp at hi
    · rw [h] at hi; simp at hi
  rw [hq]
  refine ⟨_, _, _, _, rfl, letA fun w3 h3 x3 s3 => ?_⟩
  have o3 : OBytes w3 (some (newA w2)) 1 [7] := .inr ⟨_, [], rfl, h3, rfl⟩
  have r3 := (g2.read hq).ext x3
  refine (grun_spec r3 hsz hbo (o3.rd rfl) (Nat.le_refl _)).mono ?_
  rintro v w4 ⟨rfl, x4⟩
  rw [hb, ev, ec]
  refine ⟨_, _, _, _, rfl, vstore (x := (1, 0, 3)) fun w5 v5 x5 s5 => (gsize_spec ((r3.ext x4).ext x5) hsz).mono ?_⟩
  rintro v w6 ⟨rfl, x6⟩
  rw [hb, es]
  refine ⟨_, _, rfl, (gmeasure_spec (((r3.ext x4).ext x5).ext x6) hsz).mono ?_⟩
  rintro v w7 ⟨rfl, x7⟩
  rw [hb, em]
  refine ⟨_, _, rfl, (gcheck_spec (ps := []) (A := none) (n := 0) ⟨RdM.nil, fun p hp => (by cases hp)⟩ (fun p hp => (by cases hp))).mono ?_⟩
  rintro v w8 ⟨rfl, x8⟩
  rw [show blks [] = [] from rfl, en]
  refine ⟨_, _, rfl, ifP_eq rfl (ifP_eq rfl (ifP_eq rfl ((v5.ext (x6.trans (x7.trans x8))).rd ⟨_, _, verd_eql, _, rfl, ifP_t (by decide) (ifP_eq rfl (ifP_eq rfl (ifP_eq rfl (ifP_eq rfl ⟨rfl, ?_⟩))))⟩)))⟩
  exact ((((((x1.trans x2).trans x3).trans x4).trans x5).trans x6).trans x7).trans x8
section
variable {W : World} {A P : Option Addr} {n c pn pc : Nat} {ps : List BP} {pkt : List Int}
theorem GraphChecks_main (hx : RdM BP.v W A n ps) (hb : ∀ p ∈ ps, BIn W p) (hn : n * 56 ≤ 140737488351232) :
    Run Try.prog 3 #[.slice A n c] W (Good W) := by
  have hi : IBl W A n ps := ⟨hx, fun p hp => (hb p hp).rd⟩
  have hs8 : ∀ p ∈ ps, p.n * 8 ≤ 140737488351232 := fun p hp => (hb p hp).size
  have hs : ∀ p ∈ ps, p.n ≤ 140737488351232 := fun p hp => by have := hs8 p hp; omega
  refine law15_GraphChecks.ok ((rgcheck_spec hi hs).mono ?_)
  rintro v w1 ⟨rfl, x1⟩
  refine ⟨_, _, rfl, (lendBlocks_spec (hi.ext x1) hs8 hn).mono ?_⟩
  rintro v w2 ⟨A2, c2, qs, rfl, g2, hq, hql, hf, x2⟩
  have hsq : ∀ q ∈ qs, q.n ≤ 140737488351232 := fun q hqm => by
    obtain ⟨p, hp, he⟩ := List.mem_map.1 (show q.b ∈ blks ps by rw [← hq]; exact blks_mem hqm)
    have hl : p.b.code.length = p.n := (hi.code p hp).len
    have := hs p hp
    rw [← (g2.part q hqm).2, ← he]
    omega
  refine ⟨_, _, _, rfl, (gcheck_spec (g2.read hql) hsq).mono ?_⟩
  rintro v w3 ⟨rfl, x3⟩
  rw [hq]
  have z1 := x1.size
  refine ⟨_, _, rfl, (keptBlocks_spec hi hs8 hn ((x1.trans x2).trans x3) (g2.ext x3) hq hql (fun k hk => by have := hf k hk; omega)).mono ?_⟩
  rintro v w4 ⟨rfl, k4⟩
  refine ⟨_, rfl, ifP_t rfl (ifP_eq rfl (ifP_eq rfl (gawake_spec.mono ?_)))⟩
  rintro v w5 ⟨rfl, x5⟩
  refine ⟨_, rfl, rfl, Fr.of_ext ((((x1.trans x2).trans x3).fresh k4 fun k hk => ?_).trans x5)⟩
  have := hf k hk
  omega
theorem GraphRuns_main (hx : RdM BP.v W A n ps) (hb : ∀ p ∈ ps, BIn W p) (hn : n * 56 ≤ 140737488351232) (hp : IBytes W P pn pkt) (hpn : pn ≤ 140737488351232) :
    Run Try.prog 4 #[.slice A n c, .slice P pn pc] W (Good W) := by
  have hpl := hp.len
  have hi : IBl W A n ps := ⟨hx, fun p hp => (hb p hp).rd⟩
  have hs8 : ∀ p ∈ ps, p.n * 8 ≤ 140737488351232 := fun p hp => (hb p hp).size
  have hs : ∀ p ∈ ps, p.n ≤ 140737488351232 := fun p hp => by have := hs8 p hp; omega
  have hok : ∀ p ∈ ps, Inss p.b.code := fun p hp => (hb p hp).ok.code
  refine law15_GraphRuns.ok ((rgrun_spec hi hs hok hp).mono ?_)
  rintro v w1 ⟨rfl, x1⟩
  refine ⟨_, _, _, _, rfl, vstore (x := gverdV (blks ps) pkt) fun w2 v2 x2 s2 => (lendBlocks_spec ((hi.ext x1).ext x2) hs8 hn).mono ?_⟩
  rintro v w3 ⟨A3, c3, qs, rfl, g3, hq, hql, hf, x3⟩
  have x03 := (x1.trans x2).trans x3
  have hsq : ∀ q ∈ qs, q.n ≤ 140737488351232 ∧ Inss q.b.code := fun q hqm => by
    obtain ⟨p, hp, he⟩ := List.mem_map.1 (show q.b ∈ blks ps by rw [← hq]; exact blks_mem hqm)
    have hl : p.b.code.length = p.n := (hi.code p hp).len
    have := hs p hp
    refine ⟨?_, by rw [← he]; exact hok p hp⟩
    rw [← (g3.part q hqm).2, ← he]
    omega
  refine ⟨_, _, _, rfl, (lendBytes_spec (hp.ext x03) (by omega)).mono ?_⟩
  rintro v w4 ⟨P4, c4, rfl, o4, b4, x4⟩
  obtain ⟨p4, pc4⟩ := lent_bytes o4 hpl
  refine ⟨_, _, _, rfl, (grun_spec ((g3.ext x4).read hql) (fun q h => (hsq q h).1) (fun q h => (hsq q h).2) p4 pc4).mono ?_⟩
  rintro v w5 ⟨rfl, x5⟩
  rw [hq]
  refine ⟨_, _, _, _, rfl, vstore (x := gverdV (blks ps) pkt) fun w6 v6 x6 s6 => ?_⟩
  have x36 := (x4.trans x5).trans x6
  have x06 := x03.trans x36
  have z1 := x1.size; have z2 := x2.size; have z3 := x3.size; have z4 := x4.size; have z5 := x5.size
  have L4 := o4.lt
  have L3 : ∀ k, gff A3 qs k → k < w3.heap.size := fun k hk => g3.lt hk
  refine (keptBlocks_spec hi hs8 hn x06 (g3.ext x36) hq hql (fun k hk => by have := hf k hk; omega)).mono ?_
  rintro v w7 ⟨rfl, k7⟩
  have x07 : Go.Rd.Ext W w7 := x06.fresh k7 fun k hk => by have := hf k hk; omega
  have v7 := v6.keep k7 fun h => by have := L3 _ h; omega
  have v72 := (v2.ext (x3.trans x36)).keep k7 fun h => by have := hf _ h; omega
  have o7 := (o4.ext (x5.trans x6)).keep k7 fun k hk h => by have := b4 k hk; have := L3 k h; omega
  refine ⟨_, rfl, ifP_t rfl ((keptBytes_spec o7 (hp.ext x07) (by omega)).mono ?_)⟩
  rintro v w8 ⟨rfl, k8⟩
  have x08 : Go.Rd.Ext W w8 := x07.fresh k8 fun k hk => by have := b4 k hk; omega
  have v8 := v7.keep k8 fun h => by have := L4 _ h; omega
  have v82 := v72.keep k8 fun h => by have := b4 _ h; omega
  refine ⟨_, rfl, ifP_t rfl (v8.rd (v82.rd ⟨_, _, verd_eql, _, rfl, ifP_t (by simp) (ifP_eq rfl (gawake_spec.mono ?_))⟩))⟩
  rintro v w9 ⟨rfl, x9⟩
  exact ⟨_, rfl, rfl, (Fr.of_ext (x08.trans x9))⟩
end
end Go.Proofs.Ytbchjihecdkfeaa
