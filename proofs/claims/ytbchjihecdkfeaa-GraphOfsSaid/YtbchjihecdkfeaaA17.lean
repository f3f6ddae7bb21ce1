/- The statement over Of. -/
import Derived.Test.YtbchjihecdkfeaaA16
namespace Go.Proofs.Ytbchjihecdkfeaa
open Go.Rd Go.RowKit
set_option linter.unusedVariables false
set_option linter.unusedSimpArgs false
set_option maxRecDepth 100000
theorem ofFrom_mem {xs : List Ins} {b : Blk} : ∀ (m a : Nat), b ∈ ofFrom xs m a → ∃ a' l, a' < xs.length ∧ xs[endN xs a' - 1]? = some l ∧ b = blockX xs a' (endN xs a') l
  | 0, a, h => by cases h
  | m + 1, a, h => by
    rw [ofFrom] at h
    split at h
    · cases h
    · rename_i l hl
      split at h
      · rename_i ha
        rcases List.mem_cons.1 h with h | h
        · exact ⟨a, l, ha, hl, h⟩
        · exact ofFrom_mem m _ h
      · cases h
theorem ofFrom_length {xs : List Ins} : ∀ (m a : Nat), (ofFrom xs m a).length ≤ m
  | 0, a => Nat.le_refl _
  | m + 1, a => by
    rw [ofFrom]
    split
    · exact Nat.zero_le _
    · split
      · rw [List.length_cons]
        have := ofFrom_length (xs := xs) m (endN xs a)
        omega
      · exact Nat.zero_le _
theorem blockX_code {xs : List Ins} {a e : Nat} {l : Ins} : (blockX xs a e l).code = (xs.take (e - 1)).drop a ∨ (classOf l.c ≠ 5 ∧ classOf l.c ≠ 6) ∧ (blockX xs a e l).code = (xs.take (e - 1)).drop a ++ [l] := by
  unfold blockX
  split
  · exact .inl rfl
  · rename_i h6
    split
    · exact .inl rfl
    · split
      · exact .inl rfl
      · rename_i h5
        exact .inr ⟨⟨h5, h6⟩, rfl⟩
theorem blockX_mem {xs : List Ins} {a e : Nat} {l i : Ins} (hl : xs[e - 1]? = some l) (h : i ∈ (blockX xs a e l).code) : i ∈ xs := by
  have sub : ∀ j ∈ (xs.take (e - 1)).drop a, j ∈ xs := fun j hj => List.mem_of_mem_take (List.mem_of_mem_drop hj)
  rcases blockX_code (xs := xs) (a := a) (e := e) (l := l) with hc | ⟨_, hc⟩
  · rw [hc] at h
    exact sub i h
  · rw [hc] at h
    rcases List.mem_append.1 h with h | h
    · exact sub i h
    · obtain rfl : i = l := by simpa using h
      exact List.mem_of_getElem? hl
theorem blockX_length {xs : List Ins} {a e : Nat} {l : Ins} (ha : a < e) (he : e ≤ xs.length) : (blockX xs a e l).code.length ≤ xs.length := by
  have h1 : ((xs.take (e - 1)).drop a).length = e - 1 - a := by rw [List.length_drop, List.length_take]; omega
  rcases blockX_code (xs := xs) (a := a) (e := e) (l := l) with hc | ⟨_, hc⟩
  · rw [hc, h1]; omega
  · rw [hc, List.length_append, h1]
    show e - 1 - a + 1 ≤ _
    omega
theorem ofR_small {xs : List Ins} : (ofR xs).1.length ≤ 4096 ∧ ∀ b ∈ (ofR xs).1, b.code.length ≤ 4096 ∧ ∀ i ∈ b.code, i ∈ xs := by
  unfold ofR
  split
  · exact ⟨Nat.zero_le _, fun b hb => (by cases hb)⟩
  · rename_i h
    have T := (taken_of (Classical.not_not.1 h)).1.le
    refine ⟨Nat.le_trans (ofFrom_length _ _) T, fun b hb => ?_⟩
    obtain ⟨a, l, ha, hl, rfl⟩ := ofFrom_mem _ _ hb
    obtain ⟨e1, e2⟩ := endN_gt ha
    exact ⟨Nat.le_trans (blockX_length e1 e2) T, fun i hi => blockX_mem hl hi⟩
theorem lent_cap {w : World} {A : Option Addr} {n c : Nat} {xs : List Ins} (h : OInsns w A c (xs ++ [bad, bad, bad])) (hl : xs.length = n) : n ≤ c := by
  have := h.le
  rw [flat_len Ins.len, List.length_append, hl] at this
  have : (n + 3) * 4 ≤ c * 4 := this
  omega
section
variable {W : World} {A : Option Addr} {n c : Nat} {xs : List Ins}
theorem GraphOfs_main (hx : IInsns W A n xs) (hi : Inss xs) (hn : n * 8 ≤ 140737488351232) : Run Try.prog 5 #[.slice A n c] W (Good W) := by
  have hl := hx.len
  obtain ⟨small1, small2⟩ := ofR_small (xs := xs)
  refine law15_GraphOfs.ok ((rgof_spec hx hi (by omega)).mono ?_)
  rintro v w1 ⟨Q, qc, qw, rfl, gw, bw, fw, x1⟩
  refine ⟨_, _, _, _, rfl, (lendInsns_spec (RdM.ext hx x1) hn).mono ?_⟩
  rintro v w2 ⟨A2, c2, rfl, o2, b2, x2⟩
  refine ⟨_, _, _, rfl, (gof_spec (lent_read o2 hl) hi (by omega) (lent_cap o2 hl)).mono ?_⟩
  rintro v w3 ⟨X, xc, qx, rfl, gx, bx, fx, x3⟩
  have x02 := x1.trans x2
  have x03 := x02.trans x3
  have z1 := x1.size; have z2 := x2.size; have z3 := x3.size
  have L2 := o2.lt
  refine ⟨_, _, _, _, rfl, (keptInsns_spec (o2.ext x3) (RdM.ext hx x03) hn).mono ?_⟩
  rintro v w4 ⟨rfl, k4⟩
  have x04 : Go.Rd.Ext W w4 := x03.fresh k4 fun k hk => by have := b2 k hk; omega
  have gw4 := (gw.ext (x2.trans x3)).keep k4 fun k hk h => by have := gw.lt hk; have := b2 k h; omega
  have gx4 := gx.keep k4 fun k hk h => by have := fx k hk; have := L2 k h; omega
  have z4 := k4.size
  refine ⟨_, rfl, ifP_f rfl ((copyInsns_spec (RdM.ext hx x04) (by omega)).mono ?_)⟩
  rintro v w5 ⟨A5, c5, rfl, o5, l5, b5, x5⟩
  have cap5 : n ≤ c5 := by
    have := o5.le
    rw [flat_len Ins.len, l5] at this
    omega
  refine ⟨_, _, _, rfl, (gof_spec (o5.rdM l5) hi (by omega) cap5).mono ?_⟩
  rintro v w6 ⟨Y, yc, qy, rfl, gy, byy, fy, x6⟩
  have x46 := x5.trans x6
  have z5 := x5.size; have z6 := x6.size
  have gw6 := gw4.ext x46
  have gx6 := gx4.ext x46
  have lx : qx.length = (ofR xs).1.length := by rw [← bx, blks, List.length_map]
  have lw : qw.length = (ofR xs).1.length := by rw [← bw, blks, List.length_map]
  have ly : qy.length = (ofR xs).1.length := by rw [← byy, blks, List.length_map]
  have sx : ∀ p ∈ qx, p.n ≤ 4096 := fun p hp => by
    rw [← (gx.part p hp).2]
    exact (small2 p.b (by rw [← bx]; exact blks_mem hp)).1
  have sy : ∀ p ∈ qy, p.n ≤ 4096 := fun p hp => by
    rw [← (gy.part p hp).2]
    exact (small2 p.b (by rw [← byy]; exact blks_mem hp)).1
  refine ⟨_, _, _, _, rfl, ifP_nne rfl (ifP_nne rfl ((sameBlocks_spec (gx6.read rfl) (gw6.read rfl) (fun p hp => by have := sx p hp; omega) (by omega)).mono ?_))⟩
  rintro v w7 ⟨rfl, x7⟩
  refine ⟨_, rfl, ?_⟩
  rw [decide_eq_true (by rw [bx, bw])]
  refine ifP_f rfl ?_
  have x67 := x46.trans x7
  have x07 := x04.trans x67
  have gw7 := gw6.ext x7
  have gx7 := gx6.ext x7
  have gy7 := gy.ext x7
  have fx0 : ∀ k, gff X qx k → W.heap.size ≤ k := fun k hk => by have := fx k hk; omega
  have sepw : ∀ k, gff Q qw k → ¬ gff X qx k := fun k h1 h2 => by have := gw.lt h1; have := fx k h2; omega
  have sepy : ∀ k, gff Y qy k → ¬ gff X qx k := fun k h1 h2 => by have := fy k h1; have := gx.lt h2; omega
  -- the codes are written over
  suffices H : ∀ (d i : Nat), qx.length - i = d → i ≤ qx.length → ∀ (w' : World), GRm w' X xc qx → (∀ (j : Nat) (p : BP), i ≤ j → qx[j]? = some p → OInsns w' p.A p.c p.b.code) → Keep (gff X qx) w7 w' → law15_GraphOfs.L0 (Good W) Q qw.length qc X qx.length xc Y qy.length yc (i : Int) w' by
    exact H qx.length 0 (by omega) (by omega) w7 (gx7.rm fun p hp => by have := sx p hp; omega) (fun j p _ hj => by
      have := (gx7.part p (List.mem_of_getElem? hj)).1
      rwa [List.append_nil] at this) (Keep.refl w7)
  intro d
  induction d with
  | zero =>
    intro i hd hi' w' hg hc k
    refine law15_GraphOfs.L0_step (ifP_no (by omega) ((spoilBlocks_spec hg rfl (by omega)).mono ?_))
    rintro v w8 ⟨rfl, k8⟩
    have k78 := k.trans' k8
    have gw8 := gw7.keep k78 sepw
    have gy8 := gy7.keep k78 sepy
    refine ⟨rfl, (sameBlocks_spec (gy8.read rfl) (gw8.read rfl) (fun p hp => by have := sy p hp; omega) (by omega)).mono ?_⟩
    rintro v w9 ⟨rfl, x9⟩
    refine ⟨_, rfl, ?_⟩
    rw [decide_eq_true (by rw [byy, bw])]
    refine ifP_t rfl (gawake_spec.mono ?_)
    rintro v w10 ⟨rfl, x10⟩
    exact ⟨_, rfl, rfl, Fr.of_ext (((x07.fresh k78 fx0).trans x9).trans x10)⟩
  | succ d ih =>
    intro i hd hi' w' hg hc k
    obtain ⟨p, hpi⟩ : ∃ p, qx[i]? = some p := ⟨_, List.getElem?_eq_getElem (by omega)⟩
    have hpm := List.mem_of_getElem? hpi
    obtain ⟨pr, pc, pn⟩ := hg.part p hpm
    have rdx : ∀ (u : World), Own 49 8 u X xc (qx.flatMap BP.v) → ∀ {j : Nat} {r : BP}, qx[j]? = some r → ∃ a, X = some a ∧ u.cell? (a.add (j * 8)) = some (.slice r.A r.n r.c) := fun u hu j r hj => by
      have hjl := (List.getElem?_eq_some_iff.1 hj).1
      obtain ⟨a, r', ha, hr', hcc⟩ := RdM.at BP.len (by omega) (show RdM BP.v u X qx.length qx from hu.rdM rfl) (i := j) hjl
      obtain rfl : r' = r := by rw [hj] at hr'; exact (Option.some.inj hr').symm
      have c0 := hcc 0 _ rfl
      rw [add_zero] at c0
      exact ⟨a, ha, c0⟩
    obtain ⟨a, ha, ca⟩ := rdx w' hg.own hpi
    have ht : Int.toNat ((i : Nat) : Int) = i := Int.toNat_natCast i
    have ew : IntKind.i64.wrap (((i : Nat) : Int) + 1) = ((i + 1 : Nat) : Int) := wrap_i64 (by omega) (by omega)
    refine law15_GraphOfs.L0_step (ifP_yes (by omega) ⟨by omega, by omega, a, ha, ?_⟩)
    rw [ht, ew]
    refine ⟨_, _, _, ca, (spoilR_spec pr pc (by omega)).mono ?_⟩
    rintro v w8 ⟨rfl, r8, k8⟩
    have hg8 := hg.spoil hpi r8 k8
    have hc8 : ∀ (j : Nat) (r : BP), i + 1 ≤ j → qx[j]? = some r → OInsns w8 r.A r.c r.b.code := fun j r hj hr => (hc j r (by omega) hr).keep k8 fun l hl hl2 => pair_ne hg.pair hr hpi (by omega) l hl hl2
    have k78 : Keep (gff X qx) w7 w8 := k.trans k8 (fun _ _ h => h) fun j _ h => .inr ⟨p, hpm, h⟩
    have gw8 := gw7.keep k78 sepw
    -- the next
    have next : ∀ (w9 : World), Go.Rd.Ext w8 w9 → law15_GraphOfs.J1 (Good W) Q qw.length qc X qx.length xc Y qy.length yc (i : Int) false w9 := by
      intro w9 x9
      refine ifP_f rfl ?_
      rw [ew]
      exact ih (i + 1) (by omega) (by omega) w9 ⟨hg8.own.ext x9, fun q hq => ⟨(hg8.part q hq).1.keep x9 fun _ _ h => h, (hg8.part q hq).2⟩, hg8.pair⟩ (fun j r hj hr => (hc8 j r hj hr).ext x9) (k78.trans' (Keep.ext x9))
    refine ⟨rfl, fun u => Go.Rd.Ext w8 u, Go.Rd.Ext.drew w8, letD fun w9 _ x9 => ifP_decide.2 ⟨fun hlt => ?_, fun hlt => next w9 x9⟩⟩
    obtain ⟨r, hr⟩ : ∃ r, qx[i + 1]? = some r := ⟨_, List.getElem?_eq_getElem (by omega)⟩
    obtain ⟨s, hs⟩ : ∃ s, qw[i + 1]? = some s := ⟨_, List.getElem?_eq_getElem (by omega)⟩
    have ht1 : Int.toNat ((i + 1 : Nat) : Int) = i + 1 := Int.toNat_natCast (i + 1)
    rw [ht1]
    obtain ⟨a1, ha1, _⟩ := rdx w8 hg8.own hr
    obtain ⟨b1, hb1, _⟩ : ∃ b1, Q = some b1 ∧ w8.cell? (b1.add ((i + 1) * 8)) = some (.slice s.A s.n s.c) := by
      obtain ⟨b1, s', hb1, hs', h8⟩ := (gw8.read rfl).at8 (i := i + 1) (by omega)
      obtain rfl : s' = s := by rw [hs] at hs'; exact (Option.some.inj hs').symm
      exact ⟨b1, hb1, h8.s⟩
    have same : r.b = s.b := by
      have h1 : (blks qx)[i + 1]? = some r.b := by rw [blks, List.getElem?_map, hr]; rfl
      have h2 : (blks qw)[i + 1]? = some s.b := by rw [blks, List.getElem?_map, hs]; rfl
      rw [bx, ← bw, h2] at h1
      exact (Option.some.inj h1).symm
    refine ⟨by omega, by omega, a1, ha1, r.A, r.n, r.c, fun u hu => ?_, by omega, by omega, b1, hb1, s.A, s.n, s.c, fun u hu => ?_, ?_⟩
    · obtain ⟨a2, ha2, c2⟩ := rdx u (hg8.own.ext hu) hr
      rw [ha1] at ha2
      obtain rfl := Option.some.inj ha2
      exact c2
    · obtain ⟨b2, s', hb2, hs', h8⟩ := ((gw8.ext hu).read rfl).at8 (i := i + 1) (by omega)
      obtain rfl : s' = s := by rw [hs] at hs'; exact (Option.some.inj hs').symm
      rw [hb1] at hb2
      obtain rfl := Option.some.inj hb2
      exact h8.s
    have hrm := List.mem_of_getElem? hr
    have r1 : IInsns w9 r.A r.n r.b.code := ((hc8 (i + 1) r (Nat.le_refl _) hr).ext x9).rdM (gx.part r hrm).2
    have r2 := (gw8.ext x9).code (List.mem_of_getElem? hs)
    refine (sameInsns_spec r1 r2 (by have := sx r hrm; omega)).mono ?_
    rintro v w10 ⟨rfl, x10⟩
    refine ⟨_, rfl, ?_⟩
    rw [decide_eq_true (by rw [same])]
    exact next w10 (x9.trans x10)
end
end Go.Proofs.Ytbchjihecdkfeaa
