/- The statement BundlePieces. -/
import Derived.Test.YtgjabpgkiaojhaaB14
import Derived.Test.YtgjabpgkiaojhaaFThree
namespace Go.Proofs.Ytgjabpgkiaojhaa
open Go.Rd Go.RowKit
set_option linter.unusedVariables false
set_option linter.unusedSimpArgs false

def k2 : Lnk := ⟨false, false, 2⟩
section
variable {m : Nat} {first : Int} {xs ys : List Int} {i : Nat}
theorem look_piece (hm : 2 ≤ m) (hm2 : m ≤ 65527) (hx : xs = [192, 33] ++ ys) : ∃ v, lookX k2 (pieceAt k2 m first xs i) = .ok v ∧ v.m = true ∧ v.b = decide (i = 0) ∧ v.e = decide (xs.length ≤ (i + 1) * m) ∧ v.s = (first + i) % spaceK k2 ∧ v.p = (if i = 0 then 49185 else 61) := by
  have hk : goodK k2 := .inr rfl
  have hr := read_made (k := k2) (m := m) (first := first) (xs := xs) (i := i) hk hm2
  obtain ⟨l1, l2⟩ := piece_length (k := k2) (m := m) (first := first) (xs := xs) (i := i)
  have hrp := read_piece (xs := pieceAt k2 m first xs i) hk
  rw [hr] at hrp
  have h65 : ¬ 65535 < (pieceAt k2 m first xs i).length := by omega
  cases hp : pieceR k2 (pieceAt k2 m first xs i) with
  | error e => rw [hp] at hrp; cases hrp
  | ok v =>
    rw [hp] at hrp
    simp only at hrp
    cases hm1 : v.m with
    | false => rw [if_neg (by rw [hm1]; decide)] at hrp; cases hrp
    | true =>
      rw [if_pos hm1] at hrp
      have e := Except.ok.inj hrp
      simp only [Prod.mk.injEq] at e
      obtain ⟨e1, e2, e3, e4⟩ := e
      have hpx : pieceX k2 (pieceAt k2 m first xs i) = .ok v := by
        unfold pieceR at hp
        rw [if_neg h65] at hp
        exact hp
      have hp61 : v.p = 61 := by
        unfold pieceX at hpx
        cases h1 : plainX k2 (pieceAt k2 m first xs i) with
        | error e => rw [h1] at hpx; cases hpx
        | ok a =>
          rw [h1] at hpx
          simp only at hpx
          cases h2 : protoX k2 (pieceAt k2 m first xs i) a with
          | error e => rw [h2] at hpx; cases hpx
          | ok r =>
            obtain ⟨p, q⟩ := r
            rw [h2] at hpx
            simp only at hpx
            by_cases h3 : k2.mp = 0 ∨ p ≠ 61
            · rw [if_pos h3] at hpx
              obtain rfl := Except.ok.inj hpx
              cases hm1
            · rw [if_neg h3] at hpx
              cases h4 : headX k2 (pieceAt k2 m first xs i) q with
              | error e => rw [h4] at hpx; cases hpx
              | ok r =>
                obtain ⟨b, e, s, a⟩ := r
                rw [h4] at hpx
                obtain rfl := Except.ok.inj hpx
                show p = 61
                by_cases h5 : p = 61
                · exact h5
                · exact absurd (.inr h5) h3
      have hl : linkOk k2 = true := by decide
      by_cases h0 : i = 0
      · have hb : v.b = true := by rw [← e1, h0]; rfl
        have ha : v.a = 8 := by rw [← e4]; rfl
        have hd : (pieceAt k2 m first xs i).drop 8 = [192, 33] ++ ys.take (m - 2) := by
          have := piece_drop (k := k2) (m := m) (first := first) (xs := xs) (i := i)
          have e8 : 4 + (headSize k2).toNat = 8 := rfl
          rw [e8, h0, Nat.zero_mul, List.drop_zero, hx] at this
          rw [h0, hx, this, List.take_append]
          simp only [List.length_cons, List.length_nil]
          rw [List.take_of_length_le (by show 2 ≤ m; omega)]
        have g0 := at_get (i := 0) hd (by decide)
        have g1 := at_get (i := 1) hd (by decide)
        have hlen := at_len hd (by decide)
        have epr : protoX k2 (pieceAt k2 m first xs i) v.a = .ok (49185, 10) := by
          rw [ha]
          unfold protoX
          have g0 : (pieceAt k2 m first xs i).getD (Int.toNat 8) 0 = 192 := g0
          have g1 : (pieceAt k2 m first xs i).getD (Int.toNat (8 + 1)) 0 = 33 := g1
          simp only [List.length_cons, List.length_nil] at hlen
          rw [g0, g1, if_neg (by omega), if_neg (by decide), if_neg (by omega), if_pos (by decide)]
          rfl
        refine ⟨{ v with p := 49185, a := 10 }, ?_, hm1, e1.symm, e2.symm, e3.symm, by rw [if_pos h0]⟩
        rw [lookX, if_neg (by rw [hl]; decide), if_neg h65, hpx]
        simp only
        rw [innerX, if_pos hm1, if_pos hb, epr]
        simp only
        rw [netX, if_neg (fun h => by rw [show ({ v with p := 49185, a := 10 } : Vw).b = true from hb] at h; cases h.2), if_neg (show ¬ ((49185 : Int) = 33 ∨ (49185 : Int) = 87) by decide)]
      · have hb : v.b = false := by rw [← e1]; exact decide_eq_false h0
        refine ⟨v, ?_, hm1, e1.symm, e2.symm, e3.symm, by rw [if_neg h0]; exact hp61⟩
        rw [lookX, if_neg (by rw [hl]; decide), if_neg h65, hpx]
        simp only
        rw [innerX, if_pos hm1, if_neg (by rw [hb]; decide)]
        simp only
        rw [netX, if_pos ⟨hm1, hb⟩]
end

section
variable {W Wp : World} {A : Option Addr} {c m kb : Nat} {first : Int} {xs ys : List Int}
theorem pieces_loop (hW : Go.Rd.Ext W Wp) (hkb : LAt Wp kb k2) (hm : 2 ≤ m) (hm2 : m ≤ 300) (hx : xs = [192, 33] ++ ys) (hxb : ∀ x ∈ xs, 0 ≤ x ∧ x ≤ 255) (hxl : xs.length ≤ 4000) (f0 : 0 ≤ first) (r : LRd Wp A (countP m xs.length) (piecesX k2 m (first % 16777216) xs)) :
    ∀ (d i : Nat), countP m xs.length - i = d → i ≤ countP m xs.length → ∀ w, Go.Rd.Ext Wp w → law9_BundlePieces.L0 (Good W) first ⟨kb, 0, none⟩ A (countP m xs.length) c i w := by
  have hcnt : countP m xs.length ≤ 4096 := count_le (by omega) (by omega) (by omega)
  have hpos : 1 ≤ countP m xs.length := (count_lt (m := m) (i := 0) (by omega)).2 (.inl rfl)
  intro d
  induction d with
  | zero =>
    intro i hd hi w x
    refine law9_BundlePieces.L0_step (ifP_no (by omega) (ifP_yes (by omega) (bawake_spec.mono ?_)))
    rintro v w1 ⟨rfl, x1⟩
    exact ⟨_, rfl, (show Good W (.bool true) w1 from ⟨rfl, Fr.of_ext ((hW.trans x).trans x1)⟩)⟩
  | succ d ih =>
    intro i hd hi w x
    have psi := pieces_at (k := k2) (first := first % 16777216) (xs := xs) (m := m) (i := i) (by omega)
    obtain ⟨a, p, ha, hc, hp, e⟩ := r.at (i := i) (by omega)
    rw [psi] at e
    have e := Option.some.inj e
    rw [← e] at hp
    have pl := (piece_length (k := k2) (m := m) (first := first % 16777216) (xs := xs) (i := i)).1
    have hpn := hp.len
    let S : World → Prop := fun u => LAt u kb k2 ∧ u.cell? (a.add (i * 1)) = some (.slice p.A p.n p.c)
    have hS : ∀ u u', S u → Go.Rd.Ext u u' → S u' := fun u u' h x => ⟨h.1.ext x, x.cell h.2⟩
    have s0 : S w := ⟨hkb.ext x, x.cell hc⟩
    obtain ⟨vw, hlook, v1, v2, v3, v4, v5⟩ := look_piece (m := m) (first := first % 16777216) (xs := xs) (ys := ys) (i := i) hm (by omega) hx
    refine law9_BundlePieces.L0_step (ifP_yes (by omega) ⟨S, hS _ _ s0 (Go.Rd.Ext.drew w), letD fun w2 _ x2 => LAt.rdS (k := k2) (fun u hu => hu.1) ⟨by omega, by omega, a, ha, p.A, p.n, p.c, fun u hu => by rw [Int.toNat_natCast]; exact hu.2, look_three (k := k2) hS (hS _ _ s0 x2) (piece_bytes hxb) (hp.ext (x.trans x2)) (by omega) (J := fun a e w' => law9_BundlePieces.J2 (Good W) first ⟨kb, 0, none⟩ A (countP m xs.length) c i a e w') ?_⟩⟩)
    intro w3 bv hv3 x3
    rw [hlook] at hv3 ⊢
    have h9 := hv3.at9
    have hw : IntKind.i64.wrap ((i : Int) + 1) = ((i + 1 : Nat) : Int) := wrap_i64 (by omega) (by omega)
    have elast : IntKind.i64.wrap (((countP m xs.length : Nat) : Int) - 1) = ((countP m xs.length : Nat) : Int) - 1 := wrap_i64 (by omega) (by omega)
    have g0 := Int.emod_nonneg first (show (16777216 : Int) ≠ 0 by omega)
    have g1 := Int.emod_lt_of_pos first (show (0 : Int) < 16777216 by omega)
    have eseq : Int.tmod (IntKind.u32.wrap (Int.tmod first 16777216 + IntKind.u32.wrap (i : Int))) 16777216 = (first % 16777216 + i) % 16777216 := by
      rw [Int.tmod_eq_emod_of_nonneg f0, wrap_u32 (x := (i : Int)) (by omega) (by omega), wrap_u32 (by omega) (by omega)]
      exact Int.tmod_eq_emod_of_nonneg (by omega)
    have hlast : vw.e = ((i : Int) == IntKind.i64.wrap (((countP m xs.length : Nat) : Int) - 1)) := by
      have hcl := count_lt (m := m) (n := xs.length) (i := i + 1) (by omega)
      rw [v3, elast]
      by_cases h : xs.length ≤ (i + 1) * m
      · have : ¬ i + 1 < countP m xs.length := fun h2 => by have := hcl.1 h2; omega
        rw [decide_eq_true h]
        exact (beq_iff_eq.2 (by omega)).symm
      · have := hcl.2 (.inr (by omega))
        rw [decide_eq_false h]
        exact (beq_eq_false_iff_ne.2 (by omega)).symm
    have hfirst : vw.b = ((i : Int) == 0) := by
      rw [v2]
      by_cases h : i = 0
      · rw [decide_eq_true h]; exact (beq_iff_eq.2 (by omega)).symm
      · rw [decide_eq_false h]; exact (beq_eq_false_iff_ne.2 (by omega)).symm
    have j3 : ∀ proto : Int, proto = vw.p → law9_BundlePieces.J3 (Good W) first ⟨kb, 0, none⟩ A (countP m xs.length) c i ⟨bv, 0, none⟩ 0 proto w3 := by
      rintro proto rfl
      refine ifP_f rfl ⟨_, h9.m, ifP_f (by rw [show (vwR (.ok vw)).m = true from v1]; rfl) ⟨_, h9.b, ifP_f ?_ ⟨_, h9.e, ifP_f ?_ ⟨_, h9.s, ?_⟩⟩⟩⟩
      · rw [show (vwR (.ok vw)).b = ((i : Int) == 0) from hfirst]; simp
      · rw [show (vwR (.ok vw)).e = _ from hlast]; simp
      rw [eseq, show (vwR (.ok vw)).s = (first % 16777216 + i) % 16777216 from v4]
      refine ifP_nne rfl ⟨_, h9.p, ?_⟩
      rw [show ((vwR (.ok vw)).p != vw.p) = false by show (vw.p != vw.p) = false; simp]
      refine ifP_f rfl ?_
      rw [hw]
      exact ih (i + 1) (by omega) (by omega) w3 ((x.trans x2).trans x3)
    refine ifP_beq.2 ⟨fun h => j3 _ ?_, fun h => j3 _ ?_⟩
    · rw [v5, if_pos (by omega)]
    · rw [v5, if_neg (by omega)]

theorem BundlePieces_main {B : Option Addr} {n bc : Nat} {most : Int} (hb : IBytes W B n ys) (hy : ∀ x ∈ ys, 0 ≤ x ∧ x ≤ 255) (hn : n ≤ 140737488351232) (f0 : 0 ≤ first) :
    Run Try.prog 9 #[.slice B n bc, .int .i64 most, .int .u32 first] W (Good W) := by
  have hl := hb.len
  refine law9_BundlePieces.ok (letA fun w1 h1 x1 s1 => st_lnk (k := k2) h1 rfl fun w2 h2 k2' => low_spec.mono ?_)
  have x02 : Go.Rd.Ext W w2 := x1.fresh k2' fun i hi => by rw [hi]; exact Nat.le_refl _
  rintro v w3 ⟨rfl, hw3⟩
  subst hw3
  have hs0 : 0 ≤ lowV most % 300 := Int.emod_nonneg _ (by decide)
  have hs1 : lowV most % 300 < 300 := Int.emod_lt_of_pos _ (by decide)
  have em : IntKind.i64.wrap (1 + Int.tmod (lowV most) 300) = 1 + lowV most % 300 := by
    rw [Int.tmod_eq_emod_of_nonneg (lowV_ge most)]
    exact wrap_i64 (by omega) (by omega)
  obtain ⟨m, hm⟩ := Int.eq_ofNat_of_zero_le (show 0 ≤ 1 + lowV most % 300 by omega)
  refine ⟨_, rfl, letA fun w4 h4 x4 s4 => ?_⟩
  have o4 : OBytes w4 (some (newA w3)) 2 [192, 33] := .inr ⟨_, [], rfl, h4, rfl⟩
  have x04 := x02.trans x4
  obtain ⟨A5, c5, w5, hr5, o5, _, k5, b5⟩ := append_own slBytes (ty := 24) (n := 2) (d := bc) o4 rfl (hb.ext x04).cells (m := n) (by rw [List.length_map]; omega) (cellsBytes ys) (by omega) (by omega)
  rw [← List.map_append] at o5
  have x35 : Go.Rd.Ext w3 w5 := x4.fresh k5 fun i hi => by rw [blk_some.1 hi]; exact Nat.le_refl _
  have x05 := x02.trans x35
  have h5 : LAt w5 W.heap.size k2 := h2.ext x35
  have hload : ([192, 33] ++ ys).length = 2 + n := by rw [List.length_append, hl]; rfl
  have r5 : IBytes w5 A5 (2 + n) ([192, 33] ++ ys) := Own.rd o5 hload
  rw [em, hm]
  refine ⟨_, w5, hr5, A5, _, c5, rfl, ?_⟩
  have aw : law9_BundlePieces.J0 (Good W) first ⟨W.heap.size, 0, none⟩ (m : Int) A5 (2 + n) c5 true w5 := by
    refine ifP_t rfl (bawake_spec.mono ?_)
    rintro v w6 ⟨rfl, x6⟩
    exact ⟨_, rfl, rfl, Fr.of_ext (x05.trans x6)⟩
  refine ifP_decide.2 ⟨fun _ => aw, fun hbig => ?_⟩
  by_cases hsm : m < 2
  · rw [decide_eq_true (show ((m : Nat) : Int) < 2 by omega)]
    exact aw
  rw [decide_eq_false (show ¬ ((m : Nat) : Int) < 2 by omega)]
  let S : World → Prop := fun u => LAt u W.heap.size k2
  refine ifP_f rfl ⟨S, h5.ext (Go.Rd.Ext.drew w5), letD fun w6 _ x6 => LAt.rdS (k := k2) (fun u hu => hu) ((copyBytes_spec (r5.ext x6) (by omega)).mono ?_)⟩
  rintro v w7 ⟨L, lc, rfl, o7, l7, b7, x7⟩
  have hk : goodK k2 := .inr rfl
  have g0 := Int.emod_nonneg first (show (16777216 : Int) ≠ 0 by omega)
  have g1 := Int.emod_lt_of_pos first (show (0 : Int) < 16777216 by omega)
  refine ⟨_, _, _, rfl, h5.ext (x6.trans x7), ?_⟩
  rw [Int.tmod_eq_emod_of_nonneg f0]
  refine (split_spec (k := k2) (most := (m : Int)) (first := first % 16777216) (o7.rd l7) (own_cap o7 l7) (by omega) (by omega) (by omega) g0).mono ?_
  intro v w8 hv
  rw [split_made hk (by omega) (by omega) (show first % 16777216 < spaceK k2 from g1) (by omega) (by omega)] at hv
  obtain ⟨A8, c8, rfl, m8⟩ := hv
  have x8 := m8.x
  have r8 := m8.rd
  rw [pieces_len] at r8
  rw [pieces_len]
  have x08 := (x05.trans (x6.trans x7)).trans x8
  refine ⟨_, _, _, _, rfl, ifP_nne rfl (pieces_loop x08 ((h5.ext (x6.trans x7)).ext x8) (by omega) (by omega) rfl (fun x hx => ?_) (by omega) f0 r8 _ 0 rfl (Nat.zero_le _) w8 (Go.Rd.Ext.refl _))⟩
  rcases List.mem_append.1 hx with h | h
  · simp at h; omega
  · exact hy x h
end
end Go.Proofs.Ytgjabpgkiaojhaa
