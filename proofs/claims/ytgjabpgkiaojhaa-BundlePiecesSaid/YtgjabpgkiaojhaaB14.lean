/- The statement BundleWhole. -/
import Derived.Test.YtgjabpgkiaojhaaB13
import Derived.Test.YtgjabpgkiaojhaaLow
namespace Go.Proofs.Ytgjabpgkiaojhaa
open Go.Rd Go.RowKit
set_option linter.unusedVariables false
set_option linter.unusedSimpArgs false

theorem feedE_k {s : BSt} {e : Bool} {ch : List Int} : (feedE s e ch).2.k = s.k := by
  unfold feedE
  split
  · rfl
  · split
    · rfl
    · split <;> rfl
theorem feedX_k {s : BSt} {xs : List Int} : (feedX s xs).2.k = s.k := by
  cases hr : readX s.k xs with
  | error e => unfold feedX; rw [hr]
  | ok r =>
    obtain ⟨b, e, q, a⟩ := r
    rw [feedX_eq hr, feedE_k]
    unfold feedS
    split
    · rfl
    · split <;> rfl
theorem spaceK_eq {k : Lnk} : spaceK k = if k.mp = 2 then 16777216 else 4096 := rfl

section
variable {W Wp : World} {B A : Option Addr} {n bc c : Nat} {xs : List Int} {k : Lnk} {m u : Nat} {first : Int}
theorem whole_loop (hW : Go.Rd.Ext W Wp) (hb : IBytes W B n xs) (hx : ∀ x ∈ xs, 0 ≤ x ∧ x ≤ 255) (hn : n ≤ 65535) (hk : goodK k) (hm : 1 ≤ m) (hm2 : m ≤ 4000) (f0 : 0 ≤ first) (f1 : first < spaceK k) (hcnt : countP m n ≤ 4096) (r : LRd Wp A (countP m n) (piecesX k m first xs)) {head : Int} (hh : head = 4 + headSize k) :
    ∀ (d i : Nat), countP m n - i = d → i ≤ countP m n → ∀ (w : World) (F : Nat → Prop) (s : BSt), Go.Rd.Ext Wp w → BOk w u F s → s.ok → s.k = k → (∀ j, F j → Wp.heap.size ≤ j) → (i = 0 ∨ i = countP m n ∨ s = stAt k m first xs i) →
      law9_BundleWhole.L0 (Good W) B n bc (spaceK k) head (m : Int) first A (countP m n) c (some ⟨u, 0, none⟩) i w := by
  intro d
  have hl := hb.len
  subst hl
  have hsp := spaceK_two (k := k)
  have hhs := headSize_two (k := k)
  have hhn : ((headSize k).toNat : Int) = headSize k := by rcases hhs with h | h <;> rw [h] <;> rfl
  induction d with
  | zero =>
    intro i hd hi w F s x ok hok hsk hF hst
    refine law9_BundleWhole.L0_step (ifP_no (by omega) (bawake_spec.mono ?_))
    rintro v w1 ⟨rfl, x1⟩
    exact ⟨_, rfl, rfl, Fr.of_ext ((hW.trans x).trans x1)⟩
  | succ d ih =>
    intro i hd hi w F s x ok hok hsk hF hst
    have hst' : i = 0 ∨ s = stAt k m first xs i := by
      rcases hst with h | h | h
      · exact .inl h
      · omega
      · exact .inr h
    have ex := feed_next (s := s) (k := k) (m := m) (first := first) (xs := xs) (i := i) hsk hk hm (by omega) (by omega) (by omega) hst'
    have pl := (piece_length (k := k) (m := m) (first := first) (xs := xs) (i := i)).2
    have psi := pieces_at (k := k) (first := first) (xs := xs) (m := m) (i := i) (by omega)
    obtain ⟨a, p, ha, hc, hp, e⟩ := (r.ext x).at (i := i) (by omega)
    rw [psi] at e
    have e := Option.some.inj e
    have hpl := hp.len
    rw [← e] at hp hpl
    have cp : w.cell? (a.add (Int.toNat (i : Int) * 1)) = some (.slice p.A p.n p.c) := by rw [Int.toNat_natCast]; exact hc
    refine law9_BundleWhole.L0_step (ifP_yes (by omega) ⟨by omega, by omega, a, ha, _, _, _, cp, ifP_no ?_ ⟨by omega, by omega, a, ha, _, _, _, cp, ?_⟩⟩)
    · rw [hh]; omega
    rw [wrap_i64 (by rw [hh]; omega) (by rw [hh]; omega), decide_eq_false (by rw [hh]; omega)]
    have hw : IntKind.i64.wrap ((i : Int) + 1) = ((i + 1 : Nat) : Int) := wrap_i64 (by omega) (by omega)
    refine ifP_f rfl ⟨by omega, by omega, a, ha, _, _, p.c, cp, copy_feed ok hok hp (piece_bytes hx) (by omega) ?_⟩
    intro v w2 hf st
    rw [ex] at hf st
    obtain ⟨F2, ok2, k2, n2⟩ := st
    have x2 : Go.Rd.Ext Wp w2 := x.fresh k2 hF
    have hF2 : ∀ j, F2 j → Wp.heap.size ≤ j := fun j hj => by
      rcases n2 j hj with h | h
      · exact hF j h
      · have := x.size; omega
    have eseq : Int.tmod (IntKind.u32.wrap (IntKind.u32.wrap (first + IntKind.u32.wrap (i : Int)) + 1)) (spaceK k) = (first + ((i + 1 : Nat) : Int)) % spaceK k := by
      rw [wrap_u32 (x := (i : Int)) (by omega) (by omega), wrap_u32 (x := first + (i : Int)) (by omega) (by omega), wrap_u32 (by omega) (by omega), Int.tmod_eq_emod_of_nonneg (by omega), show first + (i : Int) + 1 = first + ((i + 1 : Nat) : Int) by omega]
    have elast : IntKind.i64.wrap ((countP m xs.length : Int) - 1) = (countP m xs.length : Int) - 1 := wrap_i64 (by omega) (by omega)
    have next : ∀ (w3 : World) (s' : BSt), Go.Rd.Ext w2 w3 → BOk w2 u F2 s' → s'.ok → s'.k = k → (i + 1 = countP m xs.length ∨ s' = stAt k m first xs (i + 1)) → law9_BundleWhole.J5 (Good W) B xs.length bc (spaceK k) head (m : Int) first A (countP m xs.length) c (some ⟨u, 0, none⟩) i false w3 := by
      intro w3 s' x3 ok' hok' hk' hs'
      refine ifP_f rfl ?_
      rw [hw]
      exact ih (i + 1) (by omega) (by omega) w3 F2 s' (x2.trans x3) (ok'.ext x3) hok' hk' hF2 (.inr hs')
    by_cases hlast : i + 1 = countP m xs.length
    · rw [if_pos hlast] at hf ok2
      obtain ⟨J, jc, rfl, oJ, bJ⟩ := hf
      refine ⟨_, _, _, _, _, rfl, (waits_spec ok2).mono ?_⟩
      rintro v w3 ⟨rfl, x3⟩
      refine ⟨_, _, rfl, ifP_nne rfl (ifP_f ?_ ⟨by omega, ?_⟩)⟩
      · rw [elast, show ((i : Int) == (countP m xs.length : Int) - 1) = true from beq_iff_eq.2 (by omega)]
        rfl
      rw [eseq]
      refine ifP_nne rfl (ifP_t rfl ((sameBytes_spec ((oJ.ext x3).rd rfl) (hb.ext ((hW.trans x2).trans x3)) (by simp only [Option.getD_some]; omega)).mono ?_))
      rintro v w4 ⟨rfl, x4⟩
      exact ⟨_, rfl, ifP_f (by simp) (ifP_f rfl (next w4 _ (x3.trans x4) ok2 (BSt.ok.flat (s := ⟨k, 0, false, []⟩) ⟨hk, ⟨Int.le_refl _, space_pos k⟩, fun _ => rfl, Nat.zero_le _⟩) rfl (.inl hlast)))⟩
    · rw [if_neg hlast] at hf ok2
      obtain ⟨J, jc, rfl, oJ, bJ⟩ := hf
      refine ⟨_, _, _, _, _, rfl, (waits_spec ok2).mono ?_⟩
      rintro v w3 ⟨rfl, x3⟩
      refine ⟨_, _, rfl, ifP_nne rfl (ifP_f ?_ ⟨by omega, ?_⟩)⟩
      · rw [elast, show ((i : Int) == (countP m xs.length : Int) - 1) = false from beq_eq_false_iff_ne.2 (by omega)]
        rfl
      rw [eseq]
      exact ifP_nne rfl (ifP_f rfl (ifP_t rfl (next w3 _ x3 ok2 (stAt_ok hk (by omega)) rfl (.inr rfl))))

theorem whole_main {most : Int} {C : Option Addr} {q qc : Nat} {ys : List Int} {w : World} {kb : Nat} (x0 : Go.Rd.Ext W w) (hkb : LAt w kb k) (hb : IBytes W B n xs) (hx : ∀ x ∈ xs, 0 ≤ x ∧ x ≤ 255) (hn : n ≤ 140737488351232) (hj : IBytes W C q ys) (hy : ∀ x ∈ ys, 0 ≤ x ∧ x ≤ 255) (hq : q ≤ 140737488351232) (hk : goodK k) (f0 : 0 ≤ first) {head : Int} (hh : head = 4 + headSize k) :
    law9_BundleWhole.J0 (Good W) B n bc most first C q qc ⟨kb, 0, none⟩ (spaceK k) head w := by
  have hl := hb.len
  have hsp := spaceK_two (k := k)
  refine low_spec.mono ?_
  rintro v w1 ⟨rfl, hw1⟩
  subst hw1
  have hs0 : 0 ≤ lowV most % 4000 := Int.emod_nonneg _ (by decide)
  have hs1 : lowV most % 4000 < 4000 := Int.emod_lt_of_pos _ (by decide)
  have em : IntKind.i64.wrap (1 + Int.tmod (lowV most) 4000) = 1 + lowV most % 4000 := by
    rw [Int.tmod_eq_emod_of_nonneg (lowV_ge most)]
    exact wrap_i64 (by omega) (by omega)
  obtain ⟨m, hm⟩ := Int.eq_ofNat_of_zero_le (show 0 ≤ 1 + lowV most % 4000 by omega)
  refine ⟨_, rfl, ?_⟩
  rw [em, hm]
  have aw : law9_BundleWhole.J1 (Good W) B n bc first C q qc ⟨kb, 0, none⟩ (spaceK k) head (m : Int) true w1 := by
    refine ifP_t rfl (bawake_spec.mono ?_)
    rintro v w2 ⟨rfl, x2⟩
    exact ⟨_, rfl, rfl, Fr.of_ext (x0.trans x2)⟩
  rw [wrap_i64 (by omega) (by omega)]
  refine ifP_decide.2 ⟨fun _ => aw, fun hbig => ?_⟩
  by_cases h65 : n > 65535
  · rw [decide_eq_true (show ((n : Nat) : Int) > 65535 by omega)]
    exact aw
  rw [decide_eq_false (show ¬ ((n : Nat) : Int) > 65535 by omega)]
  have hcnt : countP m n ≤ 4096 := count_le (by omega) (by omega) (by omega)
  let S : World → Prop := fun u => LAt u kb k
  have hfr : Int.tmod first (spaceK k) = first % spaceK k := Int.tmod_eq_emod_of_nonneg f0
  have g0 := Int.emod_nonneg first (show spaceK k ≠ 0 by omega)
  have g1 := Int.emod_lt_of_pos first (space_pos k)
  refine ifP_f rfl ⟨by omega, S, hkb.ext (Go.Rd.Ext.drew w1), letD fun w3 _ x3 => LAt.rdS (k := k) (fun u hu => hu) ((copyBytes_spec (hb.ext (x0.trans x3)) (by omega)).mono ?_)⟩
  rintro v w4 ⟨L, lc, rfl, o4, l4, b4, x4⟩
  have x04 := (x0.trans x3).trans x4
  refine ⟨_, _, _, rfl, hkb.ext (x3.trans x4), ?_⟩
  rw [hfr]
  generalize first % spaceK k = fr at *
  refine (split_spec (k := k) (most := (m : Int)) (first := fr) (o4.rd l4) (own_cap o4 l4) (by omega) (by omega) (by omega) g0).mono ?_
  intro v w5 hv
  rw [split_made hk (by omega) (by omega) g1 (by omega) (by omega)] at hv
  obtain ⟨A, c, rfl, m5⟩ := hv
  have x5 := m5.x
  have r5 := m5.rd
  rw [pieces_len, hl] at r5
  rw [pieces_len, hl]
  have x05 := x04.trans x5
  have hk5 := (hkb.ext (x3.trans x4)).ext x5
  have enx : Int.tmod (IntKind.u32.wrap (IntKind.u32.wrap (fr + spaceK k) - 1)) (spaceK k) = (fr + spaceK k - 1) % spaceK k := by
    rw [wrap_u32 (x := fr + spaceK k) (by omega) (by omega), wrap_u32 (by omega) (by omega)]
    exact Int.tmod_eq_emod_of_nonneg (by omega)
  refine ⟨_, _, _, _, rfl, S, hk5.ext (Go.Rd.Ext.drew w5), letD fun w6 _ x6 => LAt.rdS (k := k) (fun u hu => hu) ⟨by omega, ?_⟩⟩
  rw [enx]
  have n0 := Int.emod_nonneg (fr + spaceK k - 1) (show spaceK k ≠ 0 by omega)
  have n1 := Int.emod_lt_of_pos (fr + spaceK k - 1) (space_pos k)
  refine (new_spec (k := k) n0).mono ?_
  intro v w7 hv7
  obtain ⟨x7, c7⟩ := hv7.form
  rcases c7 with ⟨hc, _⟩ | ⟨_, _, _, u, rfl, hu, ok7⟩
  · exact absurd (show codeN k ((fr + spaceK k - 1) % spaceK k) = 0 from by rw [codeN, if_neg (fun h => h hk), if_neg (by omega)]) hc
  have okk : (BSt.mk k ((fr + spaceK k - 1) % spaceK k) false []).ok := ⟨hk, ⟨n0, n1⟩, fun _ => rfl, Nat.zero_le _⟩
  refine ⟨_, _, rfl, ifP_nne rfl (ifP_nne rfl (ifP_f rfl ⟨by omega, ?_⟩))⟩
  have ecnt : maxI 1 (IntKind.i64.wrap (Int.tdiv (IntKind.i64.wrap (IntKind.i64.wrap ((n : Int) + (m : Int)) - 1)) (m : Int))) = (countP m n : Int) := by
    rw [wrap_i64 (x := (n : Int) + (m : Int)) (by omega) (by omega), wrap_i64 (x := (n : Int) + (m : Int) - 1) (by omega) (by omega), show (n : Int) + (m : Int) - 1 = ((n + m - 1 : Nat) : Int) by omega, show Int.tdiv ((n + m - 1 : Nat) : Int) (m : Int) = (((n + m - 1) / m : Nat) : Int) from rfl]
    have hle : (n + m - 1) / m ≤ n + m - 1 := Nat.div_le_self _ _
    have h1 : n ≠ 0 → 1 ≤ (n + m - 1) / m := fun h => (Nat.le_div_iff_mul_le (by omega)).2 (by omega)
    have h2 : n = 0 → (n + m - 1) / m = 0 := fun h => Nat.div_eq_of_lt (by omega)
    unfold countP
    generalize (n + m - 1) / m = D at *
    rw [wrap_i64 (by omega) (by omega)]
    unfold maxI
    by_cases h0 : n = 0
    · rw [if_pos h0, h2 h0]
      rfl
    · have := h1 h0
      rw [if_neg h0]
      split <;> omega
  rw [ecnt, show ((countP m n : Int) != (countP m n : Int)) = false by simp]
  have x57 := x6.trans x7
  refine ifP_f rfl ((copyBytes_spec (hj.ext (x05.trans x57)) (by omega)).mono ?_)
  rintro v w8 ⟨Q, qc2, rfl, o8, l8, b8, x8⟩
  have z6 := x6.size
  have z7 := x7.size
  have hu5 : w5.heap.size ≤ u := by omega
  refine ⟨_, _, _, rfl, (feed_spec (ok7.ext x8) okk (o8.rd l8) hy (own_cap o8 l8) (by omega) (fun _ j hj hF => by have := b8 j hj; have := ok7.lt hF; omega) (fun _ j hj => o8.lt j hj)).mono ?_⟩
  rintro v w9 ⟨⟨X, xc, rfl, oX, bX⟩, F9, ok9, k9, n9, _⟩
  have x59 : Go.Rd.Ext w5 w9 := (x57.trans x8).fresh k9 fun j hj => by rw [hj]; exact hu5
  have key := whole_loop (W := W) (Wp := w5) (bc := bc) (c := c) (u := u) (first := fr) x05 hb hx (by omega) hk (by omega) (by omega) g0 g1 hcnt r5 hh (countP m n) 0 rfl (by omega) w9 F9 _ x59 ok9 (feedX_ok okk ys) feedX_k (fun j hj => ?_) (.inl rfl)
  · exact ⟨_, _, _, _, _, rfl, key⟩
  · rcases n9 j hj with h | h
    · rw [h]; exact hu5
    · have := (x57.trans x8).size; omega

theorem BundleWhole_main {long : Bool} {most : Int} {C : Option Addr} {q qc : Nat} {ys : List Int} (hb : IBytes W B n xs) (hx : ∀ x ∈ xs, 0 ≤ x ∧ x ≤ 255) (hn : n ≤ 140737488351232) (hj : IBytes W C q ys) (hy : ∀ x ∈ ys, 0 ≤ x ∧ x ≤ 255) (hq : q ≤ 140737488351232) (f0 : 0 ≤ first) :
    Run Try.prog 5 #[.bool long, .slice B n bc, .int .i64 most, .int .u32 first, .slice C q qc] W (Good W) := by
  refine law9_BundleWhole.ok (letA fun w1 h1 x1 s1 => st_lnk (k := k1) h1 rfl fun w2 h2 k2 => ?_)
  have x02 : Go.Rd.Ext W w2 := x1.fresh k2 fun i hi => by rw [hi]; exact Nat.le_refl _
  refine ifP_of (fun hlong => cell_put h2 (i := 2) (by show 2 < 3; decide) (by rw [newA, add_mk]) fun w3 h3 k3 => ?_) fun hlong => ?_
  · have h3 : LAt w3 W.heap.size ⟨false, false, 2⟩ := h3
    have x03 : Go.Rd.Ext W w3 := x02.fresh k3 fun i hi => by rw [hi]; exact Nat.le_refl _
    exact whole_main (k := ⟨false, false, 2⟩) x03 h3 hb hx hn hj hy hq (.inr rfl) f0 rfl
  · exact whole_main (k := k1) x02 h2 hb hx hn hj hy hq (.inl rfl) f0 rfl
end
end Go.Proofs.Ytgjabpgkiaojhaa
