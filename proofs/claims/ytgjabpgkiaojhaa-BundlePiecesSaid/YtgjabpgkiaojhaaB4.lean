/- The document's Split. -/
import Derived.Test.YtgjabpgkiaojhaaB3
namespace Go.Proofs.Ytgjabpgkiaojhaa
open Go.Rd Go.RowKit
set_option linter.unusedVariables false
set_option linter.unusedSimpArgs false

/-- Bytes behind one's own. -/
theorem app_bytes {w : World} {A B : Option Addr} {n c m d : Nat} {xs ys : List Int} (o : OBytes w A c xs) (l : xs.length = n) (hb : IBytes w B m ys) (lim : n + m ≤ 1000000000) :
    ∃ A' c' w', (Builtin.append_ #[24, 24] 24 #[.slice A n c, .slice B m d]).run Try.prog w = .ok (.slice A' (n + m) c') w' ∧ OBytes w' A' c' (xs ++ ys) ∧ (xs ++ ys).length = n + m ∧ Keep (blk A) w w' ∧ (∀ k, blk A' k → blk A k ∨ w.heap.size ≤ k) := by
  have hl := hb.len
  obtain ⟨A', c', w', hr, o', _, k', b'⟩ := append_own slBytes (ty := 24) (n := n) (d := d) o (by rw [List.length_map]; omega) hb.cells (m := m) (by rw [List.length_map]; omega) (cellsBytes ys) (by omega) (by omega)
  rw [← List.map_append] at o'
  exact ⟨A', c', w', hr, o', by rw [List.length_append]; omega, k', b'⟩

section
variable {W w : World} {k : Lnk}
theorem rmay_spec : Run Try.prog 26 #[.agg #[.bool k.ac, .bool k.pf, .int .i64 k.mp]] w fun v w' => v = .bool (decide (k.mp = 1 ∨ k.mp = 2)) ∧ Go.Rd.Ext w w' := by
  refine ref9_may.ok (letA fun w1 h1 x1 s1 => ?_)
  have hk : LAt w1 w.heap.size k := h1
  have lk : linkOk k = decide (k.mp = 0 ∨ k.mp = 1 ∨ k.mp = 2) := rfl
  refine hk.rd ((rcheck_spec (k := k)).mono ?_)
  rintro v w2 ⟨rfl, x2⟩
  have x02 := x1.trans x2
  refine ⟨_, rfl, ifP_beq.2 ⟨fun h => ⟨_, (hk.ext x2).c2, ?_⟩, fun h => ?_⟩⟩
  · have h2 : linkOk k = true := by
      by_cases h3 : linkOk k = true
      · exact h3
      · rw [if_neg h3] at h; exact absurd h (by decide)
    rw [lk, decide_eq_true_eq] at h2
    refine ⟨?_, x02⟩
    by_cases h0 : k.mp = 0
    · rw [h0]; rfl
    · rw [show (k.mp != 0) = true by simp [h0], decide_eq_true (by omega)]
  · have h2 : ¬ linkOk k = true := fun h3 => h (if_pos h3)
    rw [lk, decide_eq_true_eq] at h2
    refine ⟨?_, x02⟩
    rw [decide_eq_false (by omega)]
theorem rspace_spec : Run Try.prog 27 #[.agg #[.bool k.ac, .bool k.pf, .int .i64 k.mp]] w fun v w' => v = .int .u32 (spaceK k) ∧ Go.Rd.Ext w w' := by
  refine ref8_Space.ok (letA fun w1 h1 x1 s1 => ?_)
  have hk : LAt w1 w.heap.size k := h1
  refine ⟨_, hk.c2, ifP_beq.2 ⟨fun h => ⟨by rw [spaceK, if_pos h], x1⟩, fun h => ⟨by rw [spaceK, if_neg h], x1⟩⟩⟩

variable {B : Option Addr} {n bc m : Nat} {xs : List Int} {first : Int} {kb : Nat}
theorem rsplit_loop (hb : IBytes W B n xs) (hc : n ≤ bc) (hn : n ≤ 65535) (hm : 1 ≤ m) (hm2 : m ≤ 65527) (f0 : 0 ≤ first) (f1 : first < spaceK k) (hcnt : countP m n ≤ 4096) {W0 : World} (x0 : Go.Rd.Ext W W0) (hk : LAt W0 kb k) :
    ∀ (d i : Nat), countP m n - i = d → i ≤ countP m n → ∀ (w : World) (A : Option Addr) (c : Nat), Made W0 w A c ((List.range i).map (pieceAt k m first xs)) → ref9_Split.L1 (SplitOf W (.ok (piecesX k m first xs))) B n bc (m : Int) ⟨kb, 0, none⟩ A i c ((first + i) % spaceK k) ((i * m : Nat) : Int) w := by
  intro d
  have hl := hb.len
  have hsp := spaceK_two (k := k)
  induction d with
  | zero =>
    intro i hd hi w A c h
    have hic : i = countP m n := by omega
    have hnl : ¬ (i = 0 ∨ i * m < n) := fun h2 => by have := (count_lt hm).2 h2; omega
    have fin : ref9_Split.J1 (SplitOf W (.ok (piecesX k m first xs))) B n bc (m : Int) ⟨kb, 0, none⟩ A i c ((first + i) % spaceK k) ((i * m : Nat) : Int) (decide (((i * m : Nat) : Int) < (n : Int))) w := by
      refine ifP_no (by omega) ⟨A, c, ?_, ?_⟩
      · rw [piecesX, hl, List.length_map, List.length_range, hic]
      · obtain ⟨⟨ps, f, new⟩, x⟩ := h
        rw [piecesX, hl, ← hic]
        exact ⟨⟨ps, f, fun k hk => by have := new k hk; have := x0.size; omega⟩, x0.trans x⟩
    refine ref9_Split.L1_step (ifP_beq.2 ⟨fun h0 => ?_, fun _ => fin⟩)
    have : i * m = 0 := by omega
    rcases Nat.mul_eq_zero.1 this with h2 | h2 <;> omega
  | succ d ih =>
    intro i hd hi w A c h
    have hlt := (count_lt (m := m) (n := n) (i := i) hm).1 (by omega)
    have hbig : i * m ≤ n := by rcases hlt with h2 | h2 <;> (try subst h2) <;> omega
    have hfl : ((List.range i).map (pieceAt k m first xs)).length = i := by rw [List.length_map, List.length_range]
    have e1 : IntKind.i64.wrap (((i * m : Nat) : Int) + (m : Int)) = ((i * m + m : Nat) : Int) := wrap_i64 (by omega) (by omega)
    have e4 : (((i * m : Nat) : Int) == 0) = decide (i = 0) := by
      by_cases h2 : i = 0
      · subst h2; simp
      · have : i * m ≠ 0 := Nat.mul_ne_zero h2 (by omega)
        rw [decide_eq_false h2]
        exact beq_eq_false_iff_ne.2 (by omega)
    have htk : (xs.drop (i * m)).take (min (i * m + m) n - i * m) = (xs.drop (i * m)).take m := by
      by_cases h2 : i * m + m ≤ n
      · rw [Nat.min_eq_left h2, Nat.add_sub_cancel_left]
      · rw [Nat.min_eq_right (by omega), List.take_of_length_le (by rw [List.length_drop]; omega), List.take_of_length_le (by rw [List.length_drop]; omega)]
    have hhs := headSize_two (k := k)
    have j2 : ∀ (e : Bool) (to : Int), e = decide (xs.length ≤ (i + 1) * m) → to = ((min (i * m + m) n : Nat) : Int) → ref9_Split.J2 (SplitOf W (.ok (piecesX k m first xs))) B n bc (m : Int) ⟨kb, 0, none⟩ A i c ((first + i) % spaceK k) ((i * m : Nat) : Int) e to w := by
      rintro e to rfl rfl
      unfold ref9_Split.J2
      rw [e1, e4]
      refine letA fun w2 h2 x2 s2 => ((hk.ext h.x).ext x2).rd ((head_spec (k := k)).mono ?_)
      rintro v w3 ⟨H, hc', rfl, o3, l3, b3, x3⟩
      have o23 : OBytes w3 (some (newA w)) 4 [255, 3, 0, 61] := by
        have : OBytes w2 (some (newA w)) 4 [255, 3, 0, 61] := .inr ⟨_, [], rfl, h2, rfl⟩
        exact this.ext x3
      obtain ⟨A4, c4, w4, hr4, o4, l4, k4, b4⟩ := app_bytes (n := 4) (d := hc') o23 (show ([255, 3, 0, 61] : List Int).length = 4 from rfl) (o3.rd l3) (by rcases hhs with h2 | h2 <;> rw [h2] <;> omega)
      have x23 := x2.trans x3
      have x04 : Go.Rd.Ext w w4 := x23.fresh k4 fun i hi => by rw [blk_some.1 hi]; exact Nat.le_refl _
      have xW4 : Go.Rd.Ext W w4 := (x0.trans h.x).trans x04
      have n4 : ∀ q, blk A4 q → w.heap.size ≤ q := fun q hq => by
        rcases b4 q hq with h1 | h1
        · rw [blk_some.1 h1]; exact Nat.le_refl _
        · have := x23.size; omega
      have hch : IBytes w4 (subA B bc (i * m) 1) (min (i * m + m) n - i * m) ((xs.drop (i * m)).take m) := by
        have := IBytes.sub (hb.ext xW4) (i := i * m) (j := min (i * m + m) n) (by omega) (by omega) hc
        rwa [htk] at this
      refine ⟨_, _, _, rfl, _, w4, hr4, A4, _, c4, rfl, by omega, by omega, by omega, ?_⟩
      rw [Int.toNat_natCast, Int.toNat_natCast]
      obtain ⟨A5, c5, w5, hr5, o5, l5, k5, b5⟩ := app_bytes (d := bc - i * m) o4 l4 hch (by rcases hhs with h2 | h2 <;> rw [h2] <;> omega)
      have x05 : Go.Rd.Ext w w5 := x04.fresh k5 fun q hq => n4 q hq
      have n5 : ∀ q, blk A5 q → w.heap.size ≤ q := fun q hq => by
        rcases b5 q hq with h1 | h1
        · exact n4 q h1
        · have := x04.size; omega
      refine ⟨_, w5, hr5, A5, _, c5, rfl, ?_⟩
      have fin : ∀ A' c' w', Made W0 w' A' c' ((List.range i).map (pieceAt k m first xs) ++ [[255, 3, 0, 61] ++ headB k (decide (i = 0)) (decide (xs.length ≤ (i + 1) * m)) ((first + i) % spaceK k) ++ (xs.drop (i * m)).take m]) → (∃ t0 : Bool, w'.cell? ⟨kb, 0, none⟩ = some (.bool t0) ∧ ∃ t1 : Bool, w'.cell? ((Addr.mk kb 0 none).add 1) = some (.bool t1) ∧ ∃ t2 : Int, w'.cell? ((Addr.mk kb 0 none).add 2) = some (.int .i64 t2) ∧ Run Try.prog 27 #[.agg #[.bool t0, .bool t1, .int .i64 t2]] w' fun v_5 w_8 => ∃ t89 : Int, v_5 = (.int .u32 t89) ∧ t89 ≠ 0 ∧ ref9_Split.L1 (SplitOf W (.ok (piecesX k m first xs))) B n bc (m : Int) ⟨kb, 0, none⟩ A' (i + 1) c' (Int.tmod (IntKind.u32.wrap ((first + i) % spaceK k + 1)) t89) ((i * m + m : Nat) : Int) w_8) := by
        intro A' c' w' h'
        refine (hk.ext h'.x).rd ((rspace_spec (k := k)).mono ?_)
        rintro v w8 ⟨rfl, x8⟩
        have hmod := Int.emod_lt_of_pos (first + i) (show 0 < spaceK k by omega)
        have hmod0 := Int.emod_nonneg (first + i) (show spaceK k ≠ 0 by omega)
        refine ⟨_, rfl, by omega, ?_⟩
        have e5 : Int.tmod (IntKind.u32.wrap ((first + i) % spaceK k + 1)) (spaceK k) = (first + ((i + 1 : Nat) : Int)) % spaceK k := by
          rw [wrap_u32 (by omega) (by omega), Int.tmod_eq_emod_of_nonneg (by omega), Int.emod_add_emod, show first + (i : Int) + 1 = first + ((i + 1 : Nat) : Int) by omega]
        rw [e5, show i * m + m = (i + 1) * m by rw [Nat.add_mul, Nat.one_mul]]
        refine ih (i + 1) (by omega) (by omega) w8 A' c' ?_
        rw [List.range_succ, List.map_append]
        rw [List.append_assoc] at h'
        exact h'.ext x8
      exact h.push (φ := fun A' n' c' w' => ∃ t0 : Bool, w'.cell? ⟨kb, 0, none⟩ = some (.bool t0) ∧ ∃ t1 : Bool, w'.cell? ((Addr.mk kb 0 none).add 1) = some (.bool t1) ∧ ∃ t2 : Int, w'.cell? ((Addr.mk kb 0 none).add 2) = some (.int .i64 t2) ∧ Run Try.prog 27 #[.agg #[.bool t0, .bool t1, .int .i64 t2]] w' fun v_5 w_8 => ∃ t89 : Int, v_5 = (.int .u32 t89) ∧ t89 ≠ 0 ∧ ref9_Split.L1 (SplitOf W (.ok (piecesX k m first xs))) B n bc (m : Int) ⟨kb, 0, none⟩ A' n' c' (Int.tmod (IntKind.u32.wrap ((first + i) % spaceK k + 1)) t89) ((i * m + m : Nat) : Int) w_8) hfl x05 (by omega) o5 l5 n5 fin
    have e5 : IntKind.i64.wrap ((n : Int) - ((i * m : Nat) : Int)) = ((n - i * m : Nat) : Int) := by
      rw [wrap_i64 (by omega) (by omega)]; omega
    have e6 : decide (((n - i * m : Nat) : Int) ≤ (m : Int)) = decide (xs.length ≤ (i + 1) * m) := by
      rw [hl, Nat.add_mul, Nat.one_mul]
      by_cases h2 : n ≤ i * m + m
      · rw [decide_eq_true h2, decide_eq_true (by omega)]
      · rw [decide_eq_false h2, decide_eq_false (by omega)]
    have main : ref9_Split.J1 (SplitOf W (.ok (piecesX k m first xs))) B n bc (m : Int) ⟨kb, 0, none⟩ A i c ((first + i) % spaceK k) ((i * m : Nat) : Int) true w := by
      unfold ref9_Split.J1
      rw [e5, e1]
      refine ifP_t rfl (ifP_not.2 (ifP_decide.2 ⟨fun h2 => j2 _ _ e6 ?_, fun h2 => j2 _ _ e6 ?_⟩))
      · rw [Nat.min_eq_right (by omega)]
      · rw [Nat.min_eq_left (by omega)]
    refine ref9_Split.L1_step (ifP_beq.2 ⟨fun _ => main, fun h0 => ?_⟩)
    rw [decide_eq_true (show ((i * m : Nat) : Int) < (n : Int) by
      rcases hlt with h2 | h2
      · subst h2; omega
      · omega)]
    exact main

theorem rsplit_spec {most : Int} (hb : IBytes W B n xs) (hc : n ≤ bc) (hn : n ≤ 140737488351232) (m0 : -9223372036854775808 ≤ most) (m1 : most ≤ 9223372036854775807) (f0 : 0 ≤ first) :
    Run Try.prog 10 #[.agg #[.bool k.ac, .bool k.pf, .int .i64 k.mp], .slice B n bc, .int .i64 most, .int .u32 first] W (SplitOf W (splitX k most first xs)) := by
  have hl := hb.len
  refine ref9_Split.ok (letA fun w1 h1 x1 s1 => ?_)
  have hk1 : LAt w1 W.heap.size k := h1
  refine hk1.rd ((rmay_spec (k := k)).mono ?_)
  rintro v w2 ⟨rfl, x2⟩
  have x02 := x1.trans x2
  refine ⟨_, rfl, ifP_not.2 (ifP_decide.2 ⟨fun hg => ?_, fun hg => ?_⟩)⟩
  · have hgk : ¬ ¬ (k.mp = 1 ∨ k.mp = 2) := fun h => h hg
    have j0 : ∀ (t : Bool) (w4 : World), Go.Rd.Ext w2 w4 → (t = true ↔ (most < 1 ∨ most > 65527 ∨ first ≥ spaceK k)) → ref9_Split.J0 (SplitOf W (splitX k most first xs)) B n bc most first (newA W) t w4 := by
      intro t w4 x4 ht
      have x04 := x02.trans x4
      refine ifP_of (fun h => ?_) fun h => ?_
      · rw [splitX, if_neg hgk, if_pos (ht.1 h)]
        exact ⟨rfl, x04⟩
      · have hno : ¬ (most < 1 ∨ most > 65527 ∨ first ≥ spaceK k) := fun h2 => by rw [ht.2 h2] at h; cases h
        refine ifP_decide.2 ⟨fun h2 => ?_, fun h2 => ?_⟩
        · rw [splitX, if_neg hgk, if_neg hno, if_pos (by omega)]
          exact ⟨rfl, x04⟩
        · rw [wrap_i64 (by omega) (by omega)]
          refine ifP_decide.2 ⟨fun h3 => ?_, fun h3 => ?_⟩
          · rw [splitX, if_neg hgk, if_neg hno, if_neg (by omega), if_pos (by omega)]
            exact ⟨rfl, x04⟩
          · rw [splitX, if_neg hgk, if_neg hno, if_neg (by omega), if_neg (by omega)]
            obtain ⟨m, rfl⟩ := Int.eq_ofNat_of_zero_le (show 0 ≤ most by omega)
            have hcnt : countP m n ≤ 4096 := count_le (by omega) (by omega) (by omega)
            have key := rsplit_loop (k := k) (m := m) (first := first) (kb := W.heap.size) hb hc (by omega) (by omega) (by omega) f0 (by omega) hcnt x04 ((hk1.ext x2).ext x4) (countP m n) 0 rfl (by omega) w4 none 0 (Made.nil w4 w4 (Go.Rd.Ext.refl _))
            rw [Nat.zero_mul, show (first + ((0 : Nat) : Int)) % spaceK k = first from by
              rw [show first + ((0 : Nat) : Int) = first by omega]
              exact Int.emod_eq_of_lt f0 (by omega)] at key
            exact key
    refine ifP_decide.2 ⟨fun h => j0 _ _ (Go.Rd.Ext.refl _) ?_, fun h => ifP_decide.2 ⟨fun h2 => j0 _ _ (Go.Rd.Ext.refl _) ?_, fun h2 => (hk1.ext x2).rd ((rspace_spec (k := k)).mono ?_)⟩⟩
    · simp [h]
    · simp [h2]
    · rintro v w3 ⟨rfl, x3⟩
      refine ⟨_, rfl, j0 _ _ x3 ?_⟩
      rw [decide_eq_true_iff]
      exact ⟨fun h3 => .inr (.inr h3), fun h3 => by omega⟩
  · rw [splitX, if_pos (show ¬ (k.mp = 1 ∨ k.mp = 2) from hg)]
    exact ⟨rfl, x02⟩
end
end Go.Proofs.Ytgjabpgkiaojhaa
