/- The statement BundleRefuses. -/
import Derived.Test.YtgjabpgkiaojhaaB12
namespace Go.Proofs.Ytgjabpgkiaojhaa
open Go.Rd Go.RowKit
set_option linter.unusedVariables false
set_option linter.unusedSimpArgs false

theorem feedE_zero {s : BSt} {e : Bool} {ch : List Int} : (feedE s e ch).1.1 = 0 := by
  unfold feedE
  split
  · rfl
  · split
    · rfl
    · split <;> rfl
theorem feedX_err {s : BSt} {xs : List Int} (h : (feedX s xs).1.1 ≠ 0) : (feedX s xs).1.2 = none ∧ (feedX s xs).2 = s := by
  cases hr : readX s.k xs with
  | error e => unfold feedX; rw [hr]; exact ⟨rfl, rfl⟩
  | ok r =>
    obtain ⟨b, e, q, a⟩ := r
    rw [feedX_eq hr] at h
    exact absurd feedE_zero h
theorem pieces_len {k : Lnk} {m : Nat} {first : Int} {xs : List Int} : (piecesX k m first xs).length = countP m xs.length := by
  rw [piecesX, List.length_map, List.length_range]
theorem pieces_at {k : Lnk} {m : Nat} {first : Int} {xs : List Int} {i : Nat} (hi : i < countP m xs.length) : (piecesX k m first xs)[i]? = some (pieceAt k m first xs i) := by
  rw [piecesX, List.getElem?_map, List.getElem?_range hi]
  rfl
theorem split_made {k : Lnk} {m : Nat} {first : Int} {xs : List Int} (hk : goodK k) (hm : 1 ≤ m) (hm2 : m ≤ 65527) (hf : first < spaceK k) (hx : xs.length ≤ 65535) (hx2 : xs.length ≤ m * 4096) : splitX k (m : Int) first xs = .ok (piecesX k m first xs) := by
  rw [splitX, if_neg (fun h => h hk), if_neg (by omega), if_neg (by omega), if_neg (by omega), Int.toNat_natCast]
theorem piece_bytes {k : Lnk} {m : Nat} {first : Int} {xs : List Int} {i : Nat} (hx : ∀ x ∈ xs, 0 ≤ x ∧ x ≤ 255) : ∀ x ∈ pieceAt k m first xs i, 0 ≤ x ∧ x ≤ 255 := by
  intro x h
  simp only [pieceAt] at h
  rcases List.mem_append.1 h with h | h
  · simp at h; omega
  · rcases List.mem_append.1 h with h | h
    · unfold headB at h
      rcases headSize_two (k := k) with e | e
      · rw [e, fieldB_two] at h
        simp at h; omega
      · rw [e, fieldB_four] at h
        simp at h; omega
    · exact hx x (List.mem_of_mem_drop (List.mem_of_mem_take h))

section
variable {W : World}
theorem BundleRefuses_main {B C : Option Addr} {n bc m cc : Nat} {xs ys : List Int} (hb : IBytes W B n xs) (hx : ∀ x ∈ xs, 0 ≤ x ∧ x ≤ 255) (hn : n ≤ 140737488351232) (hj : IBytes W C m ys) (hy : ∀ x ∈ ys, 0 ≤ x ∧ x ≤ 255) (hm : m ≤ 140737488351232) :
    Run Try.prog 7 #[.slice B n bc, .slice C m cc] W (Good W) := by
  have hl := hb.len
  refine law9_BundleRefuses.ok (letA fun w1 h1 x1 s1 => st_lnk (k := k1) h1 rfl fun w2 h2 k2 => ?_)
  have x02 : Go.Rd.Ext W w2 := x1.fresh k2 fun i hi => by rw [hi]; exact Nat.le_refl _
  have aw : law9_BundleRefuses.J0 (Good W) B n bc C m cc ⟨W.heap.size, 0, none⟩ true w2 := by
    refine ifP_t rfl (bawake_spec.mono ?_)
    rintro v w3 ⟨rfl, x3⟩
    exact ⟨_, rfl, rfl, Fr.of_ext (x02.trans x3)⟩
  refine ifP_decide.2 ⟨fun _ => aw, fun hbig => ?_⟩
  by_cases hsm : n < 2
  · rw [decide_eq_true (show ((n : Nat) : Int) < 2 by omega)]
    exact aw
  rw [decide_eq_false (show ¬ ((n : Nat) : Int) < 2 by omega)]
  let S : World → Prop := fun u => LAt u W.heap.size k1
  refine ifP_f rfl ⟨S, h2.ext (Go.Rd.Ext.drew w2), letD fun w3 _ x3 => LAt.rdS (k := k1) (fun u hu => hu) ((copyBytes_spec (hb.ext (x02.trans x3)) (by omega)).mono ?_)⟩
  rintro v w4 ⟨L, lc, rfl, o4, l4, b4, x4⟩
  have x04 := (x02.trans x3).trans x4
  have em : IntKind.i64.wrap (Int.tdiv (IntKind.i64.wrap ((n : Int) + 1)) 2) = (((n + 1) / 2 : Nat) : Int) := by
    rw [wrap_i64 (x := (n : Int) + 1) (by omega) (by omega), show Int.tdiv ((n : Int) + 1) 2 = (((n + 1) / 2 : Nat) : Int) from rfl]
    exact wrap_i64 (by omega) (by omega)
  refine ⟨_, _, _, rfl, h2.ext (x3.trans x4), ?_⟩
  rw [em]
  generalize hh : (n + 1) / 2 = h at *
  have hk : goodK k1 := .inl rfl
  have hcnt : countP h xs.length = 2 := by
    have a1 := (count_lt (m := h) (n := xs.length) (i := 1) (by omega)).2 (.inr (by omega))
    have a2 := count_le (m := h) (n := xs.length) (b := 2) (by omega) (by omega) (by omega)
    omega
  refine (split_spec (k := k1) (most := (h : Int)) (first := 7) (o4.rd l4) (own_cap o4 l4) (by omega) (by omega) (by omega) (by decide)).mono ?_
  intro v w5 hv
  rw [split_made hk (by omega) (by omega) (by decide) (by omega) (by omega)] at hv
  obtain ⟨A, c, rfl, m5⟩ := hv
  have x5 := m5.x
  have r5 := m5.rd
  rw [pieces_len, hcnt] at r5
  rw [pieces_len, hcnt]
  have x05 := x04.trans x5
  have hk5 := (h2.ext (x3.trans x4)).ext x5
  refine ⟨_, _, _, _, rfl, hk5.rd ((new_spec (k := k1) (nx := 7) (by decide)).mono ?_)⟩
  intro v w6 hv6
  obtain ⟨x6, c6⟩ := hv6.form
  rcases c6 with ⟨hc, _⟩ | ⟨_, _, _, u, rfl, hu, ok6⟩
  · exact absurd (show codeN k1 7 = 0 from by decide) hc
  have z5 := x05.size
  have okk : (BSt.mk k1 7 false []).ok := ⟨hk, ⟨by decide, by decide⟩, fun _ => rfl, by decide⟩
  have f0 := feed_next (s := ⟨k1, 7, false, []⟩) (k := k1) (m := h) (first := 7) (xs := xs) (i := 0) rfl hk (by omega) (by omega) (by omega) (by omega) (.inl rfl)
  rw [if_neg (by omega)] at f0
  have f1 := feed_next (s := stAt k1 h 7 xs 1) (k := k1) (m := h) (first := 7) (xs := xs) (i := 1) rfl hk (by omega) (by omega) (by omega) (by omega) (.inr rfl)
  rw [if_pos (by omega)] at f1
  have ps0 := pieces_at (k := k1) (first := 7) (xs := xs) (m := h) (i := 0) (by omega)
  have ps1 := pieces_at (k := k1) (first := 7) (xs := xs) (m := h) (i := 1) (by omega)
  obtain ⟨p0a, p0, hA0, c0, i0, e0⟩ := (r5.ext x6).at (i := 0) (by decide)
  rw [ps0] at e0
  have e0 := Option.some.inj e0
  rw [← e0] at i0
  have pl0 := (piece_length (k := k1) (m := h) (first := 7) (xs := xs) (i := 0)).1
  have pl1 := (piece_length (k := k1) (m := h) (first := 7) (xs := xs) (i := 1)).1
  refine ⟨_, _, rfl, ifP_nne rfl (ifP_nne rfl (ifP_f rfl (ifP_f rfl ⟨by decide, by decide, p0a, hA0, _, _, p0.c, c0, copy_feed ok6 okk i0 (piece_bytes hx) (by have := i0.len; omega) ?_⟩)))⟩
  intro v w8 hf st
  rw [f0] at hf st
  obtain ⟨J, jc, rfl, o8, b8⟩ := hf
  obtain ⟨F8, ok8, k8, n8⟩ := st
  have x58 : Go.Rd.Ext w5 w8 := x6.fresh k8 fun i hi => by rw [hi]; exact hu
  have z6 := x6.size
  have nF8 : ∀ k, F8 k → w5.heap.size ≤ k := fun k hk => by
    rcases n8 k hk with h | h
    · rw [h]; exact hu
    · omega
  have ok1 := stAt_ok (k := k1) (m := h) (first := 7) (xs := xs) (i := 1) hk (by omega)
  refine ⟨_, _, _, _, _, rfl, (waits_spec ok8).mono ?_⟩
  rintro v w9 ⟨rfl, x9⟩
  refine ⟨_, _, rfl, copy_feed (ok8.ext x9) ok1 (hj.ext ((x05.trans x58).trans x9)) hy hm ?_⟩
  intro v w10 hf st
  obtain ⟨X, xc, rfl, oX, bX⟩ := hf
  obtain ⟨F10, ok10, k10, n10⟩ := st
  have x59 := x58.trans x9
  have z9 := x59.size
  have x510 : Go.Rd.Ext w5 w10 := x59.fresh k10 nF8
  refine ⟨_, _, _, _, _, rfl, ifP_beq.2 ⟨fun hg => bawake_spec.mono ?_, fun hg => ?_⟩⟩
  · rintro v w11 ⟨rfl, x11⟩
    exact ⟨_, rfl, rfl, Fr.of_ext ((x05.trans x510).trans x11)⟩
  obtain ⟨g1, g2⟩ := feedX_err hg
  rw [g2] at ok10
  rw [g1]
  have nF10 : ∀ k, F10 k → w5.heap.size ≤ k := fun k hk => by
    rcases n10 k hk with h | h
    · exact nF8 k h
    · omega
  refine (waits_spec ok10).mono ?_
  rintro v w11 ⟨rfl, x11⟩
  obtain ⟨p1a, p1, hA1, c1, i1, e1⟩ := (r5.ext (x510.trans x11)).at (i := 1) (by decide)
  rw [ps1] at e1
  have e1 := Option.some.inj e1
  rw [← e1] at i1
  refine ⟨_, _, rfl, by decide, by decide, p1a, hA1, _, _, p1.c, c1, copy_feed (ok10.ext x11) ok1 i1 (piece_bytes hx) (by have := i1.len; omega) ?_⟩
  intro v w12 hf st
  rw [f1] at hf st
  obtain ⟨Y, yc, rfl, oY, bY⟩ := hf
  obtain ⟨F12, ok12, k12, n12⟩ := st
  have x512 : Go.Rd.Ext w5 w12 := (x510.trans x11).fresh k12 nF10
  refine ⟨_, _, _, _, _, rfl, ifP_t rfl (ifP_eq rfl (ifP_eq rfl (ifP_eq rfl (ifP_t rfl (ifP_eq rfl ((sameBytes_spec (oY.rd rfl) (hb.ext (x05.trans x512)) (by simp only [Option.getD_some]; omega)).mono ?_))))))⟩
  rintro v w13 ⟨rfl, x13⟩
  refine ⟨_, rfl, ifP_t (by simp) (bawake_spec.mono ?_)⟩
  rintro v w14 ⟨rfl, x14⟩
  exact ⟨_, rfl, (show Good W (.bool true) w14 from ⟨rfl, Fr.of_ext (((x05.trans x512).trans x13).trans x14)⟩)⟩
end
end Go.Proofs.Ytgjabpgkiaojhaa
