/- Package bundle: Split, the program's and the document's. -/
import Derived.Test.YtgjabpgkiaojhaaB2
import Derived.Test.YtgjabpgkiaojhaaFrames
namespace Go.Proofs.Ytgjabpgkiaojhaa
open Go.Rd Go.RowKit
set_option linter.unusedVariables false
set_option linter.unusedSimpArgs false

/-! ## A load's pieces -/

def countP (m n : Nat) : Nat := if n = 0 then 1 else (n + m - 1) / m
theorem count_lt {m n i : Nat} (hm : 1 ≤ m) : i < countP m n ↔ i = 0 ∨ i * m < n := by
  unfold countP
  split
  · rename_i h
    subst h
    omega
  · rename_i h
    rw [Nat.lt_iff_add_one_le, Nat.le_div_iff_mul_le (by omega), Nat.add_mul, Nat.one_mul]
    constructor
    · intro h2; right; omega
    · rintro (h2 | h2)
      · subst h2; omega
      · omega
theorem count_le {m n b : Nat} (hm : 1 ≤ m) (h : n ≤ b * m) (hb : 1 ≤ b) : countP m n ≤ b := by
  rcases Nat.lt_or_ge b (countP m n) with h2 | h2
  · rcases (count_lt hm).1 h2 with h3 | h3 <;> omega
  · exact h2
def pieceAt (k : Lnk) (m : Nat) (first : Int) (xs : List Int) (i : Nat) : List Int :=
  [255, 3, 0, 61] ++ (headB k (decide (i = 0)) (decide (xs.length ≤ (i + 1) * m)) ((first + i) % spaceK k) ++ (xs.drop (i * m)).take m)
def piecesX (k : Lnk) (m : Nat) (first : Int) (xs : List Int) : List (List Int) := (List.range (countP m xs.length)).map (pieceAt k m first xs)
def splitX (k : Lnk) (most first : Int) (xs : List Int) : Ex (List (List Int)) :=
  if ¬ (k.mp = 1 ∨ k.mp = 2) then .error 90 else if most < 1 ∨ most > 65527 ∨ first ≥ spaceK k then .error 91 else if 65535 < xs.length then .error 92 else if (xs.length : Int) > most * 4096 then .error 93 else
  .ok (piecesX k most.toNat first xs)

/-- A list of lists that is being made. -/
structure Made (W w : World) (A : Option Addr) (c : Nat) (fr : List (List Int)) : Prop where
  ok : ∃ ps, FOk w A fr.length c ps fr ∧ ∀ k, ffp A c ps k → W.heap.size ≤ k
  x : Go.Rd.Ext W w
theorem Made.nil (W w : World) (x : Go.Rd.Ext W w) : Made W w none 0 [] := ⟨⟨[], FOk.nil, fun k hk => by
  rcases hk with hk | ⟨p, hp, hk⟩
  · exact absurd hk.1 (by omega)
  · cases hp⟩, x⟩
section
variable {W u w : World} {A J : Option Addr} {c m jc : Nat} {fr : List (List Int)} {xs : List Int}
theorem Made.ext (h : Made W u A c fr) (x : Go.Rd.Ext u w) : Made W w A c fr := by
  obtain ⟨ps, f, n⟩ := h.ok
  exact ⟨⟨ps, f.ext x, n⟩, h.x.trans x⟩
theorem Made.push {N : Nat} (h : Made W u A c fr) (hN : fr.length = N) (x : Go.Rd.Ext u w) (hn : N ≤ 1000000000) (o : OBytes w J jc xs) (l : xs.length = m) (b : ∀ k, blk J k → u.heap.size ≤ k) {φ : Option Addr → Nat → Nat → World → Prop} (hφ : ∀ A' c' w', Made W w' A' c' (fr ++ [xs]) → φ A' (N + 1) c' w') :
    letW (w.alloc (.cells #[.slice J m jc] 24)) fun w1 => ∃ (v : Value) (w2 : World), (Builtin.append_ #[26, 26] 26 #[.slice A N c, .slice (some (newA w)) 1 1]).run Try.prog w1 = .ok v w2 ∧ ∃ (A' : Option Addr) (n' c' : Nat), v = .slice A' n' c' ∧ φ A' n' c' w2 := by
  subst hN
  obtain ⟨ps, f, new⟩ := h.ok
  refine letA fun w1 h1 x1 s1 => ?_
  have hB : RdC w1 (some (newA w)) [(Part.mk J m jc xs).v] := by
    have : Own 24 1 w1 (some (newA w)) 1 [(Part.mk J m jc xs).v] := .inr ⟨_, [], rfl, h1, rfl⟩
    exact this.cells
  obtain ⟨A6, c6, w6, hr6, f6, k6, n6⟩ := FOk.push (d := 1) (ty := 26) (f.ext (x.trans x1)) hn (p := ⟨J, m, jc, xs⟩) (o.ext x1) l (fun k hk hf => by have := b k hk; have := f.lt hf; omega) hB
  have sx := (x.trans x1).size
  refine ⟨_, w6, hr6, A6, _, c6, rfl, hφ A6 c6 w6 ⟨⟨_, by rw [List.length_append]; exact f6, fun k hk => ?_⟩, ?_⟩⟩
  · have := h.x.size
    rcases hk with hk | ⟨p, hp, hk⟩
    · rcases n6 k hk with h1 | h1
      · exact new k (.inl h1)
      · omega
    · rcases List.mem_append.1 hp with hp | hp
      · exact new k (.inr ⟨p, hp, hk⟩)
      · obtain rfl : p = _ := by simpa using hp
        have := b k hk
        omega
  · exact ((h.x.trans x).trans x1).fresh k6 fun k hk => new k (.inl hk)
end

def SplitOf (W : World) (r : Ex (List (List Int))) (v : Value) (w' : World) : Prop :=
  match r with
  | .error e => v = .tuple #[.slice none 0 0, .int .i64 e] ∧ Go.Rd.Ext W w'
  | .ok fr => ∃ A c, v = .tuple #[.slice A fr.length c, .int .i64 0] ∧ Made W w' A c fr

theorem join_3p {w : World} {p q r : Part} {P : Option Addr} {N : Nat} {L : List Int} (h : Rd Part.v w P 3 [p, q, r]) (hp : IBytes w p.A p.n p.xs) (hq : IBytes w q.A q.n q.xs) (hr : IBytes w r.A r.n r.xs)
    (hN : p.n + (q.n + r.n) = N) (hL : p.xs ++ (q.xs ++ r.xs) = L) (hb : N ≤ 100000000) :
    Run Try.prog 30 #[.slice P 3 3] w fun v w' => NewBytes w w' v N L := by
  refine (join_spec h (by omega) (by simp [hp, hq, hr]) (by simp [total]; omega)).mono ?_
  intro v w' hv
  have e1 : total [p, q, r] = N := by simp [total]; omega
  have e2 : flat [p, q, r] = L := by simp [flat, ← hL]
  rwa [e1, e2] at hv

section
variable {W : World} {k : Lnk} {B : Option Addr} {n bc m : Nat} {xs : List Int} {first : Int} {kb : Nat}
theorem split_end {m n i : Nat} : (min (i * m + m) n = n) ↔ n ≤ (i + 1) * m := by
  rw [Nat.add_mul, Nat.one_mul]
  omega

/-- One piece more, whatever stands first. -/
theorem split_one {N : Nat} {W0 w : World} {A : Option Addr} {c : Nat} {fr : List (List Int)} {a1 : Addr} {H C : Option Addr} {hn hc cn cc : Nat} {hdr chunk : List Int} {u : World} (h : Made W0 u A c fr) (hN : fr.length = N) (hfr : N ≤ 1000000000) (x : Go.Rd.Ext u w) (i1 : IBytes w (some a1) 4 [255, 3, 0, 61]) (i2 : IBytes w H hn hdr) (i3 : IBytes w C cn chunk) (hb : 4 + (hn + cn) ≤ 100000000)
    {φ : Option Addr → Nat → Nat → World → Prop} (hφ : ∀ A' c' w', Made W0 w' A' c' (fr ++ [[255, 3, 0, 61] ++ (hdr ++ chunk)]) → φ A' (N + 1) c' w') :
    letW (w.alloc (.cells #[.slice (some a1) 4 4, .slice H hn hc, .slice C cn cc] 24)) fun w5 => Run Try.prog 30 #[.slice (some (newA w)) 3 3] w5 fun v w6 => ∃ (A2 : Option Addr) (n2 c2 : Nat), v = .slice A2 n2 c2 ∧ letW (w6.alloc (.cells #[.slice A2 n2 c2] 24)) fun w7 => ∃ (v3 : Value) (w8 : World), (Builtin.append_ #[26, 26] 26 #[.slice A N c, .slice (some (newA w6)) 1 1]).run Try.prog w7 = .ok v3 w8 ∧ ∃ (A3 : Option Addr) (n3 c3 : Nat), v3 = .slice A3 n3 c3 ∧ φ A3 n3 c3 w8 := by
  refine letA fun w5 h5 x5 s5 => ?_
  refine (join_3p (p := ⟨some a1, 4, 4, [255, 3, 0, 61]⟩) (q := ⟨H, hn, hc, hdr⟩) (r := ⟨C, cn, cc, chunk⟩) (lit_rd (f := Part.v) (xs := [⟨some a1, 4, 4, [255, 3, 0, 61]⟩, ⟨H, hn, hc, hdr⟩, ⟨C, cn, cc, chunk⟩]) (w := w) h5 rfl) (i1.ext x5) (i2.ext x5) (i3.ext x5) rfl rfl hb).mono ?_
  rintro v w6 ⟨J, jc, rfl, o6, l6, b6, x6⟩
  have x56 := (x.trans x5).trans x6
  refine ⟨J, _, jc, rfl, h.push hN x56 hfr o6 l6 (fun k hk => ?_) hφ⟩
  have := b6 k hk
  have := (x.trans x5).size
  omega

theorem split_loop (hb : IBytes W B n xs) (hc : n ≤ bc) (hn : n ≤ 65535) (hm : 1 ≤ m) (hm2 : m ≤ 65527) (f0 : 0 ≤ first) (f1 : first < spaceK k) (hcnt : countP m n ≤ 4096) {W0 : World} (x0 : Go.Rd.Ext W W0) (hk : KAt W0 ⟨kb, 0, none⟩ k) :
    ∀ (d i : Nat), countP m n - i = d → i ≤ countP m n → ∀ (w : World) (A : Option Addr) (c : Nat), Made W0 w A c ((List.range i).map (pieceAt k m first xs)) → bundle_Split.L1 (SplitOf W (.ok (piecesX k m first xs))) B n bc (m : Int) first ⟨kb, 0, none⟩ A i c ((i * m : Nat) : Int) w := by
  intro d
  have hl := hb.len
  have hsp := spaceK_two (k := k)
  induction d with
  | zero =>
    intro i hd hi w A c h
    have hic : i = countP m n := by omega
    have hnl : ¬ (i = 0 ∨ i * m < n) := fun h2 => by have := (count_lt hm).2 h2; omega
    have fin : bundle_Split.J1 (SplitOf W (.ok (piecesX k m first xs))) B n bc (m : Int) first ⟨kb, 0, none⟩ A i c ((i * m : Nat) : Int) (decide (((i * m : Nat) : Int) < (n : Int))) w := by
      refine ifP_no (by omega) ⟨A, c, ?_, ?_⟩
      · rw [piecesX, hl, List.length_map, List.length_range, hic]
      · obtain ⟨⟨ps, f, new⟩, x⟩ := h
        rw [piecesX, hl, ← hic]
        exact ⟨⟨ps, f, fun k hk => by have := new k hk; have := x0.size; omega⟩, x0.trans x⟩
    refine bundle_Split.L1_step (ifP_beq.2 ⟨fun h0 => ?_, fun _ => fin⟩)
    have : i * m = 0 := by omega
    rcases Nat.mul_eq_zero.1 this with h2 | h2 <;> omega
  | succ d ih =>
    intro i hd hi w A c h
    have hlt := (count_lt (m := m) (n := n) (i := i) hm).1 (by omega)
    have hbig : i * m ≤ n := by rcases hlt with h2 | h2 <;> (try subst h2) <;> omega
    have main : bundle_Split.J1 (SplitOf W (.ok (piecesX k m first xs))) B n bc (m : Int) first ⟨kb, 0, none⟩ A i c ((i * m : Nat) : Int) true w := by
      have hkw := hk.ext h.x
      have e1 : IntKind.i64.wrap (((i * m : Nat) : Int) + (m : Int)) = ((i * m + m : Nat) : Int) := wrap_i64 (by omega) (by omega)
      have e2 : minI ((i * m + m : Nat) : Int) (n : Int) = ((min (i * m + m) n : Nat) : Int) := by
        unfold minI
        split <;> omega
      have e3 : Int.tmod (IntKind.u32.wrap (first + IntKind.u32.wrap (i : Int))) (spaceK k) = (first + i) % spaceK k := by
        rw [wrap_u32 (x := (i : Int)) (by omega) (by omega), wrap_u32 (by omega) (by omega)]
        exact Int.tmod_eq_emod_of_nonneg (by omega)
      have e4 : (((i * m : Nat) : Int) == 0) = decide (i = 0) := by
        by_cases h2 : i = 0
        · subst h2; simp
        · have : i * m ≠ 0 := Nat.mul_ne_zero h2 (by omega)
          rw [decide_eq_false h2]
          exact beq_eq_false_iff_ne.2 (by omega)
      have e5 : (((min (i * m + m) n : Nat) : Int) == (n : Int)) = decide (xs.length ≤ (i + 1) * m) := by
        rw [hl]
        by_cases h2 : n ≤ (i + 1) * m
        · rw [decide_eq_true h2]
          exact beq_iff_eq.2 (by have := split_end.2 h2; omega)
        · rw [decide_eq_false h2]
          exact beq_eq_false_iff_ne.2 (fun h3 => h2 (split_end.1 (by omega)))
      unfold bundle_Split.J1
      rw [e1, e2]
      refine ifP_t rfl ⟨_, hkw.c4, by omega, ?_⟩
      rw [e3, e4, e5]
      let S : World → Prop := fun u => KAt u ⟨kb, 0, none⟩ k
      have hfl : ((List.range i).map (pieceAt k m first xs)).length = i := by rw [List.length_map, List.length_range]
      have fin : ∀ A' c' w', Made W0 w' A' c' ((List.range i).map (pieceAt k m first xs) ++ [pieceAt k m first xs i]) → bundle_Split.J2 (SplitOf W (.ok (piecesX k m first xs))) B n bc (m : Int) first ⟨kb, 0, none⟩ A' (i + 1) c' ((i * m : Nat) : Int) w' := by
        intro A' c' w' h'
        unfold bundle_Split.J2
        rw [e1, show i * m + m = (i + 1) * m by rw [Nat.add_mul, Nat.one_mul]]
        refine ih (i + 1) (by omega) (by omega) w' A' c' ?_
        rw [List.range_succ, List.map_append]
        exact h'
      have htk : (xs.drop (i * m)).take (min (i * m + m) n - i * m) = (xs.drop (i * m)).take m := by
        by_cases h2 : i * m + m ≤ n
        · rw [Nat.min_eq_left h2, Nat.add_sub_cancel_left]
        · rw [Nat.min_eq_right (by omega), List.take_of_length_le (by rw [List.length_drop]; omega), List.take_of_length_le (by rw [List.length_drop]; omega)]
      have hhs := headSize_two (k := k)
      refine ⟨S, hkw.ext (Go.Rd.Ext.drew w), letD fun w2 _ x2 => KAt.rdS (fun u hu => hu) ⟨by omega, by omega, by omega, ?_⟩⟩
      rw [Int.toNat_natCast, Int.toNat_natCast]
      have hk2 := hkw.ext x2
      have xW2 : Go.Rd.Ext W w2 := (x0.trans h.x).trans x2
      have hchunk : ∀ w', Go.Rd.Ext w2 w' → IBytes w' (subA B bc (i * m) 1) (min (i * m + m) n - i * m) ((xs.drop (i * m)).take m) := by
        intro w' x'
        have := IBytes.sub (hb.ext (xW2.trans x')) (i := i * m) (j := min (i * m + m) n) (by omega) (by omega) hc
        rwa [htk] at this
      refine ⟨letA fun w3 h3 x3 s3 => ⟨hk2.ext x3, (header_spec (k := k)).mono ?_⟩, (header_spec (k := k)).mono ?_⟩
      · rintro v w4 ⟨H, hc', rfl, o4, l4, b4, x4⟩
        refine ⟨H, _, hc', rfl, ?_⟩
        have i1 : IBytes w3 (some (newA w2)) 4 [255, 3, 0, 61] := lit_rd (f := Value.int .u8) (xs := [255, 3, 0, 61]) h3 rfl
        exact split_one (φ := fun A' n' c' w' => bundle_Split.J2 (SplitOf W (.ok (piecesX k m first xs))) B n bc (m : Int) first ⟨kb, 0, none⟩ A' n' c' ((i * m : Nat) : Int) w') (h.ext (x2.trans (x3.trans x4))) hfl (by omega) (Go.Rd.Ext.refl _) (i1.ext x4) (o4.rd l4) (hchunk _ (x3.trans x4)) (by rcases hhs with h2 | h2 <;> rw [h2] <;> omega) fin
      · rintro v w4 ⟨H, hc', rfl, o4, l4, b4, x4⟩
        refine ⟨H, _, hc', rfl, letA fun w5 h5 x5 s5 => ?_⟩
        have i1 : IBytes w5 (some (newA w4)) 4 [255, 3, 0, 61] := lit_rd (f := Value.int .u8) (xs := [255, 3, 0, 61]) h5 rfl
        exact split_one (φ := fun A' n' c' w' => bundle_Split.J2 (SplitOf W (.ok (piecesX k m first xs))) B n bc (m : Int) first ⟨kb, 0, none⟩ A' n' c' ((i * m : Nat) : Int) w') (h.ext (x2.trans (x4.trans x5))) hfl (by omega) (Go.Rd.Ext.refl _) i1 ((o4.rd l4).ext x5) (hchunk _ (x4.trans x5)) (by rcases hhs with h2 | h2 <;> rw [h2] <;> omega) fin
    refine bundle_Split.L1_step (ifP_beq.2 ⟨fun _ => main, fun h0 => ?_⟩)
    rw [decide_eq_true (show ((i * m : Nat) : Int) < (n : Int) by
      rcases hlt with h2 | h2
      · subst h2; omega
      · omega)]
    exact main

theorem split_spec {most : Int} (hb : IBytes W B n xs) (hc : n ≤ bc) (hn : n ≤ 140737488351232) (m0 : -9223372036854775808 ≤ most) (m1 : most ≤ 9223372036854775807) (f0 : 0 ≤ first) :
    Run Try.prog 12 #[.agg #[.bool k.ac, .bool k.pf, .int .i64 k.mp], .slice B n bc, .int .i64 most, .int .u32 first] W (SplitOf W (splitX k most first xs)) := by
  have hl := hb.len
  refine bundle_Split.ok (letA fun w1 h1 x1 s1 => ?_)
  have hk1 : LAt w1 W.heap.size k := h1
  refine hk1.rd ((kindOf_spec (k := k)).mono ?_)
  rintro v w2 ⟨hv, x2⟩
  have x02 := x1.trans x2
  rcases hv with ⟨hg, rfl⟩ | ⟨hg, rfl⟩
  · refine ⟨_, _, _, _, _, _, rfl, letA fun w3 h3 x3 s3 => st5 h3 rfl (vs := kdRow k) rfl rfl fun w4 h4 k4 => ?_⟩
    have x04 : Go.Rd.Ext W w4 := (x02.trans x3).fresh k4 fun i hi => by rw [hi]; exact x02.size
    have hk4 : KAt w4 (newA w2) k := KAt.block h4
    have hgk : ¬ ¬ (k.mp = 1 ∨ k.mp = 2) := fun h => h hg
    have j0 : ∀ t : Bool, (t = true ↔ (most < 1 ∨ most > 65527 ∨ first ≥ spaceK k)) → bundle_Split.J0 (SplitOf W (splitX k most first xs)) B n bc most first (newA w2) t w4 := by
      intro t ht
      refine ifP_of (fun h => ?_) fun h => ?_
      · rw [splitX, if_neg hgk, if_pos (ht.1 h)]
        exact ⟨rfl, x04⟩
      · have hno : ¬ (most < 1 ∨ most > 65527 ∨ first ≥ spaceK k) := fun h2 => by rw [ht.2 h2] at h; cases h
        refine ifP_decide.2 ⟨fun h2 => ?_, fun h2 => ?_⟩
        · rw [splitX, if_neg hgk, if_neg hno, if_pos (by omega)]
          exact ⟨rfl, x04⟩
        · rw [wrap_i64 (by omega) (by omega)]
          refine ifP_decide.2 ⟨fun h3 => ?_, fun h3 => ?_⟩
          · rw [splitX, if_neg hgk, if_neg hno, if_neg (by omega), if_pos (by omega)]
            exact ⟨rfl, x04⟩
          · rw [splitX, if_neg hgk, if_neg hno, if_neg (by omega), if_neg (by omega)]
            obtain ⟨m, rfl⟩ := Int.eq_ofNat_of_zero_le (show 0 ≤ most by omega)
            have hcnt : countP m n ≤ 4096 := count_le (by omega) (by omega) (by omega)
            have key := split_loop (k := k) (m := m) (first := first) (kb := w2.heap.size) hb hc (by omega) (by omega) (by omega) f0 (by omega) hcnt x04 hk4 (countP m n) 0 rfl (by omega) w4 none 0 (Made.nil w4 w4 (Go.Rd.Ext.refl _))
            rw [Nat.zero_mul] at key
            exact key
    refine ifP_f rfl (ifP_decide.2 ⟨fun h => j0 _ ?_, fun h => ifP_decide.2 ⟨fun h2 => j0 _ ?_, fun h2 => ⟨_, hk4.c4, j0 _ ?_⟩⟩⟩)
    · simp [h]
    · simp [h2]
    · rw [decide_eq_true_iff]
      exact ⟨fun h3 => .inr (.inr h3), fun h3 => by omega⟩
  · refine ⟨_, _, _, _, _, _, rfl, letA fun w3 h3 x3 s3 => st5 h3 rfl (vs := [.bool false, .bool false, .int .i64 0, .int .i64 0, .int .u32 0]) rfl rfl fun w4 h4 k4 => ?_⟩
    have x04 : Go.Rd.Ext W w4 := (x02.trans x3).fresh k4 fun i hi => by rw [hi]; exact x02.size
    refine ifP_t rfl ?_
    rw [splitX, if_pos (show ¬ (k.mp = 1 ∨ k.mp = 2) from hg)]
    exact ⟨rfl, x04⟩
end
end Go.Proofs.Ytgjabpgkiaojhaa
