/- The statement BundleLost: the pieces gathered; the whole. -/
import Derived.Test.YtgjabpgkiaojhaaB16
namespace Go.Proofs.Ytgjabpgkiaojhaa
open Go.Rd Go.RowKit
set_option linter.unusedVariables false
set_option linter.unusedSimpArgs false

section
variable {W : World} {ZA RA : Option Addr} {zn zc rn rc : Nat} {zs : List Part} {rs : List Int} {m : Nat} {first : Int} {kb : Nat}
theorem base_le {cnt : Nat → Nat} : ∀ {i : Nat}, (∀ l, l < i → cnt l ≤ 60) → baseC cnt i ≤ 60 * i
  | 0, _ => Nat.le_refl 0
  | i + 1, h => by
    have := base_le (cnt := cnt) (i := i) fun l hl => h l (by omega)
    have := h i (by omega)
    rw [baseC]; omega
theorem cntX_le (hm : 1 ≤ m) {l : Nat} (h : (loadX zs l).length ≤ 60 * m) : cntX m (loadX zs) l ≤ 60 := count_le hm h (by decide)
theorem cntX_pos (hm : 1 ≤ m) {l : Nat} : 1 ≤ cntX m (loadX zs) l := (count_lt (m := m) (i := 0) hm).2 (.inl rfl)

/-- The pieces of one load are laid behind the others. -/
theorem lost_two (hm : 1 ≤ m) (hm2 : m ≤ 50) {i : Nat} (hi : i < 1100000) (hx : ∀ l, l ≤ i → (loadX zs l).length ≤ 60 * m) {f : Int} (f0 : 0 ≤ f) (f1 : f < 4096) {pA : Option Addr} {pc : Nat} {qs : List Part} (hsize : ∀ p ∈ qs, p.xs.length = p.n)
    (hnext : ∀ (w : World) (A : Option Addr) (c : Nat) (OA : Option Addr) (oc : Nat), Go.Rd.Ext W w → LAt w kb k1 → (∃ ps, Pcs W w A c ps ∧ ps.map (·.xs) = pcsX m f zs (i + 1)) → Nums W w OA oc (fstI m zs (i + 1)) →
      law9_BundleLost.L0 (Good W) ZA zn zc first RA rn rc ⟨kb, 0, none⟩ (m : Int) ((f + baseC (cntX m (loadX zs)) (i + 1)) % 4096) A (baseC (cntX m (loadX zs)) (i + 1)) c OA (baseC (cntX m (loadX zs)) (i + 1)) oc ((i + 1 : Nat) : Int) w) (hkb : kb < W.heap.size ∨ W.heap.size ≤ kb) :
    ∀ (d j : Nat), cntX m (loadX zs) i - j = d → j ≤ cntX m (loadX zs) i → ∀ (w : World) (A : Option Addr) (c : Nat) (OA : Option Addr) (oc : Nat) (ps : List Part), Go.Rd.Ext W w → LAt w kb k1 → FOk w pA (cntX m (loadX zs) i) pc qs (piecesX k1 m ((f + baseC (cntX m (loadX zs)) i) % 4096) (loadX zs i)) → (∀ k, blk A k → ¬ ffp pA pc qs k) →
      Pcs W w A c ps → ps.map (·.xs) = pcsX m f zs i ++ (List.range j).map (fun j => pcX k1 m f (loadX zs) (i, j)) → Nums W w OA oc (fstI m zs i ++ (List.range j).map fun _ => ((i : Nat) : Int)) →
      law9_BundleLost.L2 (Good W) ZA zn zc first RA rn rc ⟨kb, 0, none⟩ (m : Int) ((f + baseC (cntX m (loadX zs)) i) % 4096) A (baseC (cntX m (loadX zs)) i + j) c OA (baseC (cntX m (loadX zs)) i + j) oc i pA (cntX m (loadX zs) i) pc j w := by
  intro d
  have hbl := base_le (cnt := cntX m (loadX zs)) (i := i) fun l hl => cntX_le hm (hx l (by omega))
  have hci := cntX_le hm (hx i (Nat.le_refl i))
  induction d with
  | zero =>
    intro j hd hj w A c OA oc ps x hkw fo hdj hP hps hO
    obtain rfl : j = cntX m (loadX zs) i := by omega
    refine law9_BundleLost.L2_step (ifP_no (by omega) ?_)
    have g0 := Int.emod_nonneg (f + baseC (cntX m (loadX zs)) i) (show (4096 : Int) ≠ 0 by omega)
    have g1 := Int.emod_lt_of_pos (f + baseC (cntX m (loadX zs)) i) (show (0 : Int) < 4096 by omega)
    have es : Int.tmod (IntKind.u32.wrap ((f + baseC (cntX m (loadX zs)) i) % 4096 + IntKind.u32.wrap ((cntX m (loadX zs) i : Nat) : Int))) 4096 = (f + ((baseC (cntX m (loadX zs)) (i + 1) : Nat) : Int)) % 4096 := by
      rw [wrap_u32 (x := ((cntX m (loadX zs) i : Nat) : Int)) (by omega) (by omega), wrap_u32 (by omega) (by omega), Int.tmod_eq_emod_of_nonneg (by omega), Int.emod_add_emod, baseC]
      rw [show f + ((baseC (cntX m (loadX zs)) i : Nat) : Int) + ((cntX m (loadX zs) i : Nat) : Int) = f + ((baseC (cntX m (loadX zs)) i + cntX m (loadX zs) i : Nat) : Int) by omega]
    have hw : IntKind.i64.wrap ((i : Int) + 1) = ((i + 1 : Nat) : Int) := wrap_i64 (by omega) (by omega)
    rw [es, hw]
    refine hnext w A c OA oc x hkw ⟨ps, hP, ?_⟩ ?_
    · rw [hps, pcsX, pcsX, cellC, List.map_append, List.map_map]
      rfl
    · rw [fstI] at hO
      rw [fstI, cellC, List.map_append, List.map_map]
      exact hO
  | succ d ih =>
    intro j hd hj w A c OA oc ps x hkw fo hdj hP hps hO
    have hlen := fo.len
    have hq : qs[j]? = some (qs[j]'(by omega)) := List.getElem?_eq_getElem _
    generalize qs[j]'(by omega) = q at hq
    have hqm := List.mem_of_getElem? hq
    obtain ⟨a, ha, hc⟩ := fo.own.cells j q.v (by rw [List.getElem?_map, hq]; rfl)
    obtain ⟨oq, lq⟩ := fo.part q hqm
    have exs : q.xs = pcX k1 m f (loadX zs) (i, j) := by
      have h1 : (piecesX k1 m ((f + baseC (cntX m (loadX zs)) i) % 4096) (loadX zs i))[j]? = some q.xs := by rw [← fo.frs, List.getElem?_map, hq]; rfl
      rw [pieces_at (show j < cntX m (loadX zs) i by omega)] at h1
      exact (Option.some.inj h1).symm
    have hpl : ps.length = baseC (cntX m (loadX zs)) i + j := by
      have := congrArg List.length hps
      rw [List.length_map, List.length_append, pcsX, List.length_map, cell_len, List.length_map, List.length_range] at this
      exact this
    have hol : (fstI m zs i ++ (List.range j).map fun _ => ((i : Nat) : Int)).length = baseC (cntX m (loadX zs)) i + j := by
      rw [List.length_append, fstI, List.length_map, cell_len, List.length_map, List.length_range]
    refine law9_BundleLost.L2_step (ifP_yes (by omega) ⟨by omega, by omega, a, ha, _, _, _, by rw [Int.toNat_natCast, Nat.mul_one]; exact hc, ?_⟩)
    refine hP.push x hpl (by omega) oq lq hO (φ := fun A' n' c' w' => letW (w'.alloc (.cells #[(.int .i64 (i : Int))] 3)) fun w_4 => ∃ (v_2 : Value) (w_5 : World), (Builtin.append_ #[50, 50] 50 #[(.slice OA (baseC (cntX m (loadX zs)) i + j) oc), (.slice (some (newA w')) 1 1)]).run Try.prog w_4 = .ok v_2 w_5 ∧ ∃ (t83A : Option Addr) (t83n t83c : Nat), v_2 = (.slice t83A t83n t83c) ∧ law9_BundleLost.L2 (Good W) ZA zn zc first RA rn rc ⟨kb, 0, none⟩ (m : Int) ((f + baseC (cntX m (loadX zs)) i) % 4096) A' n' c' t83A t83n t83c i pA (cntX m (loadX zs) i) pc (IntKind.i64.wrap ((j : Int) + 1)) w_5) ?_
    intro A' c' w' hP' hO' kA bA x'
    have z := kA.size
    have fo' := fo.keep kA fun k hk hA => hdj k hA hk
    have hdj' : ∀ k, blk A' k → ¬ ffp pA pc qs k := fun k hk hf => by
      rcases bA k hk with h | h
      · exact hdj k h hf
      · have := fo.lt hf; omega
    have hkA : ¬ blk A kb := fun h => by
      obtain ⟨us, h1⟩ := Own.typ hP.own h
      have := typ_ne hkw h1
      revert this; decide
    have hk' : LAt w' kb k1 := kA.heap hkw hkA
    refine hO'.push x' hol (by omega) hP' (φ := fun O' n' c'' w'' => law9_BundleLost.L2 (Good W) ZA zn zc first RA rn rc ⟨kb, 0, none⟩ (m : Int) ((f + baseC (cntX m (loadX zs)) i) % 4096) A' (baseC (cntX m (loadX zs)) i + j + 1) c' O' n' c'' i pA (cntX m (loadX zs) i) pc (IntKind.i64.wrap ((j : Int) + 1)) w'') ?_
    intro O' oc' w'' hO'' hP'' kO x''
    have hw : IntKind.i64.wrap ((j : Int) + 1) = ((j + 1 : Nat) : Int) := wrap_i64 (by omega) (by omega)
    rw [hw]
    have hkO : ¬ blk OA kb := fun h => by
      obtain ⟨us, h1⟩ := Own.typ hO'.own h
      have := typ_ne hk' h1
      revert this; decide
    have fo'' : FOk w'' pA (cntX m (loadX zs) i) pc qs (piecesX k1 m ((f + baseC (cntX m (loadX zs)) i) % 4096) (loadX zs i)) := fo'.keep kO fun k hk hO2 => by
      obtain ⟨us, h1⟩ := Own.typ hO'.own hO2
      rcases hk with hk | ⟨p, hp, hk⟩
      · obtain ⟨vs, h2⟩ := OwnS.typ fo'.own hk
        have := typ_ne h1 h2
        revert this; decide
      · obtain ⟨vs, h2⟩ := Own.typ (fo'.part p hp).1 hk
        have := typ_ne h1 h2
        revert this; decide
    refine ih (j + 1) (by omega) (by omega) w'' A' c' O' oc' (ps ++ [q]) x'' (kO.heap hk' hkO) fo'' hdj' hP'' ?_ ?_
    · rw [List.map_append, hps, List.range_succ, List.map_append, List.append_assoc]
      simp only [List.map_cons, List.map_nil, exs]
    · rw [List.range_succ, List.map_append, ← List.append_assoc]
      exact hO''

theorem lost_zero (hz : Rd Part.v W ZA zn zs) (hp : ∀ p ∈ zs, PIn W p) (hzn : zn ≤ 1048576) (hr : Rd (Value.int .i64) W RA rn rs) (hrn : rn ≤ 140737488351232) (hm : 1 ≤ m) (hm2 : m ≤ 50) (f0 : 0 ≤ first) :
    ∀ (d i : Nat), zn - i = d → i ≤ zn → (∀ l, l < i → (loadX zs l).length ≤ 60 * m) → ∀ (w : World) (A : Option Addr) (c : Nat) (OA : Option Addr) (oc : Nat), Go.Rd.Ext W w → LAt w kb k1 → (∃ ps, Pcs W w A c ps ∧ ps.map (·.xs) = pcsX m (first % 4096) zs i) → Nums W w OA oc (fstI m zs i) →
      law9_BundleLost.L0 (Good W) ZA zn zc first RA rn rc ⟨kb, 0, none⟩ (m : Int) ((first % 4096 + baseC (cntX m (loadX zs)) i) % 4096) A (baseC (cntX m (loadX zs)) i) c OA (baseC (cntX m (loadX zs)) i) oc i w := by
  have hk : goodK k1 := .inl rfl
  have f1 := Int.emod_nonneg first (show (4096 : Int) ≠ 0 by omega)
  have f2 := Int.emod_lt_of_pos first (show (0 : Int) < 4096 by omega)
  have hfr : Int.tmod first 4096 = first % 4096 := Int.tmod_eq_emod_of_nonneg f0
  intro d
  induction d with
  | zero =>
    intro i hd hi hx w A c OA oc x hkw hP hO
    obtain rfl : i = zn := by omega
    obtain ⟨ps, hP, hps⟩ := hP
    have aw : law9_BundleLost.J2 (Good W) ZA i zc first RA rn rc ⟨kb, 0, none⟩ A (baseC (cntX m (loadX zs)) i) c OA (baseC (cntX m (loadX zs)) i) oc true w := by
      refine ifP_t rfl (bawake_spec.mono ?_)
      rintro v w2 ⟨rfl, x2⟩
      exact ⟨_, rfl, rfl, Fr.of_ext (x.trans x2)⟩
    refine law9_BundleLost.L0_step (ifP_no (by omega) (ifP_beq.2 ⟨fun _ => aw, fun h0 => ?_⟩))
    by_cases hbig : baseC (cntX m (loadX zs)) i > 4096
    · rw [decide_eq_true (show ((baseC (cntX m (loadX zs)) i : Nat) : Int) > 4096 by omega)]
      exact aw
    rw [decide_eq_false (show ¬ ((baseC (cntX m (loadX zs)) i : Nat) : Int) > 4096 by omega)]
    refine ifP_f rfl (hkw.rd ?_)
    rw [hfr]
    refine (new_spec (k := k1) f1).mono ?_
    intro v w3 hv3
    obtain ⟨x3, c3⟩ := hv3.form
    have hsp : spaceK k1 = 4096 := rfl
    rcases c3 with ⟨hc, _⟩ | ⟨_, _, _, u, rfl, hu, ok3⟩
    · exact absurd (show codeN k1 (first % 4096) = 0 from by rw [codeN, if_neg (fun h => h hk), if_neg (by rw [hsp]; omega)]) hc
    have lp : LRd w A (baseC (cntX m (loadX zs)) i) (pcsX m (first % 4096) zs i) := by
      have hpl : ps.length = baseC (cntX m (loadX zs)) i := by
        have := congrArg List.length hps
        rw [List.length_map, pcsX, List.length_map, cell_len] at this
        exact this
      refine ⟨ps, ⟨hpl, fun j p hj => ?_⟩, fun p hp => (hP.part p hp).1.rd (hP.part p hp).2, hps⟩
      obtain ⟨a, ha, hc⟩ := hP.own.cells j p.v (by rw [List.getElem?_map, hj]; rfl)
      exact ⟨a, ha, by rw [Nat.mul_one]; exact hc⟩
    have lo : Rd (Value.int .i64) w OA (baseC (cntX m (loadX zs)) i) (fstI m zs i) := by
      refine ⟨by rw [fstI, List.length_map, cell_len], fun j p hj => ?_⟩
      obtain ⟨a, ha, hc⟩ := hO.own.cells j (.int .i64 p) (by rw [List.getElem?_map, hj]; rfl)
      exact ⟨a, ha, by rw [Nat.mul_one]; exact hc⟩
    refine ⟨_, _, rfl, ifP_nne rfl (ifP_f rfl (lost_order hz hp hr hrn hm hm2 hx x rfl (by omega) (by omega) lp lo rn 0 rfl (Nat.zero_le _) w3 _ _ x3 ok3 (fun j hj => by rw [hj]; exact hu) ⟨rfl, ⟨hk, ⟨f1, by rw [hsp]; omega⟩, fun _ => rfl, Nat.zero_le _⟩, fun h => (by cases h)⟩))⟩
  | succ d ih =>
    intro i hd hi hx w A c OA oc x hkw hP hO
    obtain ⟨ps, hP, hps⟩ := hP
    have hzi : zs[i]? = some (zs[i]'(by rw [hz.len]; omega)) := List.getElem?_eq_getElem _
    generalize zs[i]'(by rw [hz.len]; omega) = z at hzi
    have hzm := hp z (List.mem_of_getElem? hzi)
    have ez := loadX_at hzi
    have hzl := hzm.rd.len
    obtain ⟨a, ha, hca⟩ := hz.2 i z hzi
    have hsz := hzm.size
    refine law9_BundleLost.L0_step (ifP_yes (by omega) ⟨by omega, by omega, a, ha, _, _, _, by rw [Int.toNat_natCast]; exact x.cell hca, ?_⟩)
    rw [wrap_i64 (by omega) (by omega)]
    refine ifP_decide.2 ⟨fun _ => bawake_spec.mono ?_, fun hsm => ?_⟩
    · rintro v w2 ⟨rfl, x2⟩
      exact ⟨_, rfl, rfl, Fr.of_ext (x.trans x2)⟩
    have hxi : (loadX zs i).length ≤ 60 * m := by rw [ez]; omega
    let S : World → Prop := fun u => LAt u kb k1 ∧ u.cell? (a.add (i * 1)) = some (.slice z.A z.n z.c)
    refine ⟨S, ⟨hkw.ext (Go.Rd.Ext.drew w), (x.trans (Go.Rd.Ext.drew w)).cell hca⟩, letD fun w2 _ x2 => LAt.rdS (k := k1) (fun u hu => hu.1) ⟨by omega, by omega, a, ha, _, _, z.c, fun u hu => by rw [Int.toNat_natCast]; exact hu.2, (copyBytes_spec (hzm.rd.ext (x.trans x2)) (by omega)).mono ?_⟩⟩
    rintro v w3 ⟨L, lc, rfl, o3, l3, b3, x3⟩
    have x23 := x2.trans x3
    have g0 := Int.emod_nonneg (first % 4096 + baseC (cntX m (loadX zs)) i) (show (4096 : Int) ≠ 0 by omega)
    have g1 := Int.emod_lt_of_pos (first % 4096 + baseC (cntX m (loadX zs)) i) (show (0 : Int) < 4096 by omega)
    refine ⟨_, _, _, rfl, ⟨hkw.ext x23, (x.trans x23).cell hca⟩, (split_spec (k := k1) (most := (m : Int)) (first := (first % 4096 + baseC (cntX m (loadX zs)) i) % 4096) (o3.rd l3) (own_cap o3 l3) (by omega) (by omega) (by omega) g0).mono ?_⟩
    intro v w4 hv
    rw [← ez, split_made hk hm (by omega) g1 (by omega) (by omega)] at hv
    obtain ⟨pA, pc, rfl, m4⟩ := hv
    have x4 := m4.x
    have x24 := x23.trans x4
    obtain ⟨⟨qs, fo, new⟩, _⟩ := m4
    have hcnt : (piecesX k1 m ((first % 4096 + baseC (cntX m (loadX zs)) i) % 4096) (loadX zs i)).length = cntX m (loadX zs) i := pieces_len
    rw [hcnt] at fo
    rw [hcnt]
    have hpos := cntX_pos (zs := zs) (l := i) hm
    refine ⟨_, _, _, _, rfl, ifP_nne rfl ?_⟩
    rw [show (((cntX m (loadX zs) i : Nat) : Int) == 0) = false from beq_eq_false_iff_ne.2 (by omega)]
    have z23 := x23.size
    refine ifP_f rfl (lost_two hm hm2 (by omega) (fun l hl => ?_) f1 f2 (fun p hp => (fo.part p hp).2) (fun w A c OA oc xw hkw hP hO => ih (i + 1) (by omega) (by omega) (fun l hl => ?_) w A c OA oc xw hkw hP hO) (by omega) (cntX m (loadX zs) i) 0 rfl (Nat.zero_le _) w4 A c OA oc ps (x.trans x24) (hkw.ext x24) fo (fun k hk hf => ?_) (hP.ext x24) (by simpa using hps) (by simpa using hO.ext x24))
    · by_cases h : l = i
      · rw [h]; exact hxi
      · exact hx l (by omega)
    · by_cases h : l = i
      · rw [h]; exact hxi
      · exact hx l (by omega)
    · have := new k hf
      have := hP.own.lt k hk
      omega
theorem BundleLost_main {most : Int} (hz : Rd Part.v W ZA zn zs) (hp : ∀ p ∈ zs, PIn W p) (hzn : zn ≤ 1048576) (hr : Rd (Value.int .i64) W RA rn rs) (hrn : rn ≤ 140737488351232) (f0 : 0 ≤ first) :
    Run Try.prog 6 #[.slice ZA zn zc, .int .i64 most, .int .u32 first, .slice RA rn rc] W (Good W) := by
  refine law9_BundleLost.ok (letA fun w1 h1 x1 s1 => st_lnk (k := k1) h1 rfl fun w2 h2 k2 => low_spec.mono ?_)
  have x02 : Go.Rd.Ext W w2 := x1.fresh k2 fun i hi => by rw [hi]; exact Nat.le_refl _
  rintro v w3 ⟨rfl, hw3⟩
  subst hw3
  have hs0 : 0 ≤ lowV most % 50 := Int.emod_nonneg _ (by decide)
  have hs1 : lowV most % 50 < 50 := Int.emod_lt_of_pos _ (by decide)
  have em : IntKind.i64.wrap (1 + Int.tmod (lowV most) 50) = 1 + lowV most % 50 := by
    rw [Int.tmod_eq_emod_of_nonneg (lowV_ge most)]
    exact wrap_i64 (by omega) (by omega)
  obtain ⟨m, hm⟩ := Int.eq_ofNat_of_zero_le (show 0 ≤ 1 + lowV most % 50 by omega)
  refine ⟨_, rfl, ?_⟩
  rw [em, hm, Int.tmod_eq_emod_of_nonneg f0]
  have f1 := Int.emod_nonneg first (show (4096 : Int) ≠ 0 by omega)
  have f2 := Int.emod_lt_of_pos first (show (0 : Int) < 4096 by omega)
  have key := lost_zero (zc := zc) (rc := rc) (kb := W.heap.size) hz hp hzn hr hrn (m := m) (by omega) (by omega) f0 zn 0 rfl (Nat.zero_le _) (fun l hl => by omega) w3 none 0 none 0 x02 h2 ⟨[], Pcs.nil, rfl⟩ Nums.nil
  rw [show (first % 4096 + ((baseC (cntX m (loadX zs)) 0 : Nat) : Int)) % 4096 = first % 4096 from by
    rw [baseC, show first % 4096 + ((0 : Nat) : Int) = first % 4096 by omega]
    exact Int.emod_eq_of_lt f1 f2] at key
  exact key
end
end Go.Proofs.Ytgjabpgkiaojhaa
