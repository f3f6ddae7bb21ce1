/- The statement BundleRow. -/
import Derived.Test.YtgjabpgkiaojhaaB17
namespace Go.Proofs.Ytgjabpgkiaojhaa
open Go.Rd Go.RowKit
set_option linter.unusedVariables false
set_option linter.unusedSimpArgs false

section
variable {W Wp : World} {ZA : Option Addr} {zn zc : Nat} {zs : List Part} {m : Nat} {k : Lnk} {kb u : Nat}
def stRow (k : Lnk) (m : Nat) (seq : Int) (xs : List Int) (j : Nat) : BSt := if j = 0 then ⟨k, seq, false, []⟩ else if j = countP m xs.length then stEnd k seq j else stAt k m seq xs j
theorem row_two (hW : Go.Rd.Ext W Wp) (hz : Rd Part.v W ZA zn zs) {z : Part} (hzm : PIn W z) {i : Nat} (hzi : zs[i]? = some z) (hin : i < zn) (hzn : zn ≤ 140737488351232) (hk : goodK k) (hm : 1 ≤ m) (hm2 : m ≤ 50) (hxl : z.xs.length ≤ 60 * m) {seq : Int} (s0 : 0 ≤ seq) (s1 : seq < spaceK k) {pA : Option Addr} {pc : Nat} {qs : List Part}
    (hnext : ∀ (w : World) (F : Nat → Prop), Go.Rd.Ext Wp w → BOk w u F (stEnd k seq (countP m z.xs.length)) → (∀ j, F j → Wp.heap.size ≤ j) →
      law9_BundleRow.L0 (Good W) ZA zn zc ⟨kb, 0, none⟩ (spaceK k) (m : Int) ((seq + (countP m z.xs.length : Nat)) % spaceK k) (some ⟨u, 0, none⟩) ((i + 1 : Nat) : Int) w) :
    ∀ (d j : Nat), countP m z.xs.length - j = d → j ≤ countP m z.xs.length → ∀ (w : World) (F : Nat → Prop), Go.Rd.Ext Wp w → BOk w u F (stRow k m seq z.xs j) → (∀ j, F j → Wp.heap.size ≤ j) → FOk w pA (countP m z.xs.length) pc qs (piecesX k m seq z.xs) → (∀ j, F j → ¬ ffp pA pc qs j) →
      law9_BundleRow.L2 (Good W) ZA zn zc ⟨kb, 0, none⟩ (spaceK k) (m : Int) seq (some ⟨u, 0, none⟩) i pA (countP m z.xs.length) pc j w := by
  intro d
  have hsp := spaceK_two (k := k)
  have hc60 : countP m z.xs.length ≤ 60 := count_le hm hxl (by decide)
  have hcp : 1 ≤ countP m z.xs.length := (count_lt (m := m) (i := 0) hm).2 (.inl rfl)
  induction d with
  | zero =>
    intro j hd hj w F x ok hF fo hdj
    obtain rfl : j = countP m z.xs.length := by omega
    have es : Int.tmod (IntKind.u32.wrap (seq + IntKind.u32.wrap ((countP m z.xs.length : Nat) : Int))) (spaceK k) = (seq + (countP m z.xs.length : Nat)) % spaceK k := by
      rw [wrap_u32 (x := ((countP m z.xs.length : Nat) : Int)) (by omega) (by omega), wrap_u32 (by omega) (by omega)]
      exact Int.tmod_eq_emod_of_nonneg (by omega)
    have hw : IntKind.i64.wrap ((i : Int) + 1) = ((i + 1 : Nat) : Int) := wrap_i64 (by omega) (by omega)
    refine law9_BundleRow.L2_step (ifP_no (by omega) ⟨by omega, ?_⟩)
    rw [es, hw]
    rw [stRow, if_neg (by omega), if_pos rfl] at ok
    exact hnext w F x ok hF
  | succ d ih =>
    intro j hd hj w F x ok hF fo hdj
    have hlen := fo.len
    have hq : qs[j]? = some (qs[j]'(by omega)) := List.getElem?_eq_getElem _
    generalize qs[j]'(by omega) = q at hq
    have hqm := List.mem_of_getElem? hq
    obtain ⟨a, ha, hc⟩ := fo.own.cells j q.v (by rw [List.getElem?_map, hq]; rfl)
    obtain ⟨oq, lq⟩ := fo.part q hqm
    have hjc : j < countP m z.xs.length := by omega
    have exs : q.xs = pieceAt k m seq z.xs j := by
      have h1 : (piecesX k m seq z.xs)[j]? = some q.xs := by rw [← fo.frs, List.getElem?_map, hq]; rfl
      rw [pieces_at hjc] at h1
      exact (Option.some.inj h1).symm
    have hsk : (stRow k m seq z.xs j).k = k := by unfold stRow stEnd stAt; split; rfl; split <;> rfl
    have hst : j = 0 ∨ stRow k m seq z.xs j = stAt k m seq z.xs j := by
      by_cases h0 : j = 0
      · exact .inl h0
      · rw [stRow, if_neg h0, if_neg (by omega)]; exact .inr rfl
    have hok : (stRow k m seq z.xs j).ok := by
      by_cases h0 : j = 0
      · rw [stRow, if_pos h0]; exact ⟨hk, ⟨s0, s1⟩, fun _ => rfl, Nat.zero_le _⟩
      · rw [stRow, if_neg h0, if_neg (by omega)]; exact stAt_ok hk (by omega)
    have ex := feed_next (s := stRow k m seq z.xs j) (k := k) (m := m) (first := seq) (xs := z.xs) (i := j) hsk hk hm (by omega) (by omega) hjc hst
    have plen := (piece_length (k := k) (m := m) (first := seq) (xs := z.xs) (i := j)).1
    have hqn : q.n ≤ 8 + m := by rw [← lq, exs]; exact plen
    have hbytes : ∀ y ∈ q.xs, 0 ≤ y ∧ y ≤ 255 := by rw [exs]; exact piece_bytes hzm.bytes
    refine law9_BundleRow.L2_step (ifP_yes (by omega) ⟨by omega, by omega, a, ha, q.A, q.n, q.c, by rw [Int.toNat_natCast, Nat.mul_one]; exact hc, (feed_spec ok hok (oq.rd lq) hbytes (own_cap oq lq) (by omega) (fun _ b hb hF2 => hdj b hF2 (.inr ⟨q, hqm, hb⟩)) (fun _ b hb => oq.lt b hb)).mono ?_⟩)
    rw [exs, ex]
    rintro v w2 ⟨⟨J, jc, rfl, oJ, bJ⟩, F2, ok2, k2, n2, _⟩
    have x2 : Go.Rd.Ext Wp w2 := x.fresh k2 hF
    have hF2 : ∀ b, F2 b → Wp.heap.size ≤ b := fun b hb => by
      rcases n2 b hb with h | h
      · exact hF b h
      · have := x.size; omega
    have fo2 := fo.keep k2 fun b hb hFb => hdj b hFb hb
    have hdj2 : ∀ b, F2 b → ¬ ffp pA pc qs b := fun b hb hf => by
      rcases n2 b hb with h | h
      · exact hdj b h hf
      · have := fo.lt hf; omega
    have elast : IntKind.i64.wrap (((countP m z.xs.length : Nat) : Int) - 1) = ((countP m z.xs.length : Nat) : Int) - 1 := wrap_i64 (by omega) (by omega)
    have hw : IntKind.i64.wrap ((j : Int) + 1) = ((j + 1 : Nat) : Int) := wrap_i64 (by omega) (by omega)
    have next : ∀ w3, Go.Rd.Ext w2 w3 → BOk w2 u F2 (stRow k m seq z.xs (j + 1)) → law9_BundleRow.J4 (Good W) ZA zn zc ⟨kb, 0, none⟩ (spaceK k) (m : Int) seq (some ⟨u, 0, none⟩) i pA (countP m z.xs.length) pc j false w3 := by
      intro w3 x3 okn
      refine ifP_f rfl ?_
      rw [hw]
      exact ih (j + 1) (by omega) (by omega) w3 F2 (x2.trans x3) (okn.ext x3) hF2 (fo2.ext x3) hdj2
    by_cases hlast : j + 1 = countP m z.xs.length
    · rw [if_pos hlast] at ok2 oJ ⊢
      obtain ⟨b3, hb3, hcb3⟩ := (hz.ext (hW.trans x2)).2 i z hzi
      refine ⟨_, _, _, _, _, rfl, ifP_nne rfl (ifP_f ?_ (ifP_t rfl ⟨by omega, by omega, b3, hb3, _, _, _, by rw [Int.toNat_natCast]; exact hcb3, (sameBytes_spec (oJ.rd rfl) (hzm.rd.ext (hW.trans x2)) (by simp only [Option.getD_some]; omega)).mono ?_⟩))⟩
      · rw [elast, show ((j : Int) == ((countP m z.xs.length : Nat) : Int) - 1) = true from beq_iff_eq.2 (by omega)]
        rfl
      rintro v w3 ⟨rfl, x3⟩
      refine ⟨_, rfl, ?_⟩
      rw [show (!decide ((some z.xs).getD [] = z.xs)) = false by simp]
      exact next w3 x3 (by rw [stRow, if_neg (by omega), if_pos hlast]; exact ok2)
    · rw [if_neg hlast] at ok2 oJ ⊢
      refine ⟨_, _, _, _, _, rfl, ifP_nne rfl (ifP_f ?_ (ifP_f rfl (next w2 (Go.Rd.Ext.refl _) (by rw [stRow, if_neg (by omega), if_neg hlast]; exact ok2))))⟩
      rw [elast, show ((j : Int) == ((countP m z.xs.length : Nat) : Int) - 1) = false from beq_eq_false_iff_ne.2 (by omega)]
      rfl

theorem row_zero (hW : Go.Rd.Ext W Wp) (hkb : LAt Wp kb k) (hz : Rd Part.v W ZA zn zs) (hp : ∀ p ∈ zs, PIn W p) (hzn : zn ≤ 140737488351232) (hk : goodK k) (hm : 1 ≤ m) (hm2 : m ≤ 50) :
    ∀ (d i : Nat), zn - i = d → i ≤ zn → ∀ (w : World) (F : Nat → Prop) (seq : Int), 0 ≤ seq → seq < spaceK k → Go.Rd.Ext Wp w → BOk w u F ⟨k, seq, false, []⟩ → (∀ j, F j → Wp.heap.size ≤ j) →
      law9_BundleRow.L0 (Good W) ZA zn zc ⟨kb, 0, none⟩ (spaceK k) (m : Int) seq (some ⟨u, 0, none⟩) i w := by
  intro d
  have hsp := spaceK_two (k := k)
  induction d with
  | zero =>
    intro i hd hi w F seq s0 s1 x ok hF
    refine law9_BundleRow.L0_step (ifP_no (by omega) ((waits_spec ok).mono ?_))
    rintro v w2 ⟨rfl, x2⟩
    refine ⟨_, _, rfl, ifP_eq rfl (ifP_eq rfl (bawake_spec.mono ?_))⟩
    rintro v w3 ⟨rfl, x3⟩
    exact ⟨_, rfl, (show Good W (.bool true) w3 from ⟨rfl, Fr.of_ext (((hW.trans x).trans x2).trans x3)⟩)⟩
  | succ d ih =>
    intro i hd hi w F seq s0 s1 x ok hF
    have hzi : zs[i]? = some (zs[i]'(by rw [hz.len]; omega)) := List.getElem?_eq_getElem _
    generalize zs[i]'(by rw [hz.len]; omega) = z at hzi
    have hzm := hp z (List.mem_of_getElem? hzi)
    have hzl := hzm.rd.len
    obtain ⟨a, ha, hca⟩ := hz.2 i z hzi
    have hsz := hzm.size
    have xW := hW.trans x
    have hkw := hkb.ext x
    refine law9_BundleRow.L0_step (ifP_yes (by omega) ⟨by omega, by omega, a, ha, _, _, _, by rw [Int.toNat_natCast]; exact xW.cell hca, ?_⟩)
    rw [wrap_i64 (by omega) (by omega)]
    refine ifP_decide.2 ⟨fun _ => bawake_spec.mono ?_, fun hsm => ?_⟩
    · rintro v w2 ⟨rfl, x2⟩
      exact ⟨_, rfl, rfl, Fr.of_ext (xW.trans x2)⟩
    let S : World → Prop := fun u => LAt u kb k ∧ u.cell? (a.add (i * 1)) = some (.slice z.A z.n z.c)
    refine ⟨S, ⟨hkw.ext (Go.Rd.Ext.drew w), (xW.trans (Go.Rd.Ext.drew w)).cell hca⟩, letD fun w2 _ x2 => LAt.rdS (k := k) (fun u hu => hu.1) ⟨by omega, by omega, a, ha, _, _, z.c, fun u hu => by rw [Int.toNat_natCast]; exact hu.2, (copyBytes_spec (hzm.rd.ext (xW.trans x2)) (by omega)).mono ?_⟩⟩
    rintro v w3 ⟨L, lc, rfl, o3, l3, b3, x3⟩
    have x23 := x2.trans x3
    refine ⟨_, _, _, rfl, ⟨hkw.ext x23, (xW.trans x23).cell hca⟩, (split_spec (k := k) (most := (m : Int)) (first := seq) (o3.rd l3) (own_cap o3 l3) (by omega) (by omega) (by omega) s0).mono ?_⟩
    intro v w4 hv
    rw [split_made hk hm (by omega) s1 (by omega) (by omega)] at hv
    obtain ⟨pA, pc, rfl, m4⟩ := hv
    have x4 := m4.x
    have x24 := x23.trans x4
    obtain ⟨⟨qs, fo, new⟩, _⟩ := m4
    rw [pieces_len] at fo
    rw [pieces_len]
    have hpos : 1 ≤ countP m z.xs.length := (count_lt (m := m) (i := 0) hm).2 (.inl rfl)
    refine ⟨_, _, _, _, rfl, ifP_nne rfl ?_⟩
    rw [show (((countP m z.xs.length : Nat) : Int) == 0) = false from beq_eq_false_iff_ne.2 (by omega)]
    have z23 := x23.size
    refine ifP_f rfl (row_two hW hz hzm hzi (by omega) hzn hk hm hm2 (by omega) s0 s1 (fun w F xw ok hF => ih (i + 1) (by omega) (by omega) w F _ (Int.emod_nonneg _ (by omega)) (Int.emod_lt_of_pos _ (space_pos k)) xw ok hF) (countP m z.xs.length) 0 rfl (Nat.zero_le _) w4 F (x.trans x24) (by rw [stRow, if_pos rfl]; exact ok.ext x24) hF fo (fun j hj hf => ?_))
    have := new j hf
    have := ok.lt hj
    omega
theorem row_main {most first : Int} {w : World} (x0 : Go.Rd.Ext W w) (hkb : LAt w kb k) (hz : Rd Part.v W ZA zn zs) (hp : ∀ p ∈ zs, PIn W p) (hzn : zn ≤ 140737488351232) (hk : goodK k) (f0 : 0 ≤ first) : law9_BundleRow.J0 (Good W) ZA zn zc most first ⟨kb, 0, none⟩ (spaceK k) w := by
  have hsp := spaceK_two (k := k)
  refine low_spec.mono ?_
  rintro v w3 ⟨rfl, hw3⟩
  subst hw3
  have hs0 : 0 ≤ lowV most % 50 := Int.emod_nonneg _ (by decide)
  have hs1 : lowV most % 50 < 50 := Int.emod_lt_of_pos _ (by decide)
  have em : IntKind.i64.wrap (1 + Int.tmod (lowV most) 50) = 1 + lowV most % 50 := by
    rw [Int.tmod_eq_emod_of_nonneg (lowV_ge most)]
    exact wrap_i64 (by omega) (by omega)
  obtain ⟨m, hm⟩ := Int.eq_ofNat_of_zero_le (show 0 ≤ 1 + lowV most % 50 by omega)
  have f1 := Int.emod_nonneg first (show spaceK k ≠ 0 by omega)
  have f2 := Int.emod_lt_of_pos first (space_pos k)
  refine ⟨_, rfl, by omega, hkb.rd ?_⟩
  rw [em, hm, Int.tmod_eq_emod_of_nonneg f0]
  refine (new_spec (k := k) f1).mono ?_
  intro v w4 hv4
  obtain ⟨x4, c4⟩ := hv4.form
  rcases c4 with ⟨hc, _⟩ | ⟨_, _, _, u, rfl, hu, ok4⟩
  · exact absurd (show codeN k (first % spaceK k) = 0 from by rw [codeN, if_neg (fun h => h hk), if_neg (by omega)]) hc
  refine ⟨_, _, rfl, ifP_nne rfl (ifP_f rfl (row_zero x0 hkb hz hp hzn hk (by omega) (by omega) zn 0 rfl (Nat.zero_le _) w4 (· = u) _ f1 f2 x4 ok4 fun j hj => by rw [hj]; exact hu))⟩
theorem BundleRow_main {most first : Int} {long : Bool} (hz : Rd Part.v W ZA zn zs) (hp : ∀ p ∈ zs, PIn W p) (hzn : zn ≤ 140737488351232) (f0 : 0 ≤ first) :
    Run Try.prog 8 #[.slice ZA zn zc, .int .i64 most, .int .u32 first, .bool long] W (Good W) := by
  refine law9_BundleRow.ok (letA fun w1 h1 x1 s1 => st_lnk (k := k1) h1 rfl fun w2 h2 k2 => ?_)
  have x02 : Go.Rd.Ext W w2 := x1.fresh k2 fun i hi => by rw [hi]; exact Nat.le_refl _
  refine ifP_of (fun hlong => cell_put h2 (i := 2) (by show 2 < 3; decide) (by rw [newA, add_mk]) fun w3 h3 k3 => ?_) fun hlong => ?_
  · have h3 : LAt w3 W.heap.size ⟨false, false, 2⟩ := h3
    have x03 : Go.Rd.Ext W w3 := x02.fresh k3 fun i hi => by rw [hi]; exact Nat.le_refl _
    exact row_main (k := ⟨false, false, 2⟩) x03 h3 hz hp hzn (.inr rfl) f0
  · exact row_main (k := k1) x02 h2 hz hp hzn (.inl rfl) f0
end
end Go.Proofs.Ytgjabpgkiaojhaa
