/- The statement over what a queue refuses. -/
import Derived.Test.YthhfipjmjnfjlaaC8
import Derived.Test.YthhfipjmjnfjlaaM7
namespace Go.Proofs.Ythhfipjmjnfjlaa
open Go.Rd Go.RowKit
set_option linter.unusedVariables false
set_option linter.unusedSimpArgs false

theorem Since.keepX {W w w' : World} {q : Nat} {F X : Nat → Prop} {cl : List Cls} (h : Since W w q F cl) (k : Keep X w w') (hF : ∀ i, F i → ¬ X i) (hX : ∀ i, X i → W.heap.size ≤ i) : Since W w' q F cl :=
  ⟨h.ok.keep k hF, h.ext.fresh k hX, h.new⟩
theorem not_may {ds : List Int} {i : Nat} {x : Int} (hi : i < ds.length) (hx : x < 1 ∨ 1024 < x) : ¬ may (ds.set i x) := by
  rintro ⟨_, _, h⟩
  have := h x (List.mem_of_getElem? (i := i) (by rw [List.getElem?_set_self hi]))
  omega

section
variable {W : World} {D : Option Addr} {n dc : Nat} {ds : List Int} {at_ by_ : Int}

/-- One class holds a frame. -/
def oneOf (ds : List Int) (i : Nat) (zs : List Int) : List Cls := (ds.map fresh).set i { fresh (ds.getD i 0) with fr := [zs] }
theorem lens_one {i : Nat} {zs : List Int} (hi : i < ds.length) {j : Nat} (hj : j < ds.length) : (lensOf (oneOf ds i zs))[j]? = some (if j = i then 1 else 0) := by
  unfold lensOf oneOf
  rw [List.getElem?_map]
  by_cases h : j = i
  · subst h
    rw [List.getElem?_set_self (by rw [List.length_map]; exact hi), if_pos rfl]; rfl
  · rw [List.getElem?_set_ne (fun e => h e.symm), List.getElem?_map, List.getElem?_eq_getElem hj, if_neg h]; rfl

theorem QueueRefuses_main (h : IInts W D n ds) (hx : ∀ x ∈ ds, -9223372036854775808 ≤ x ∧ x ≤ 9223372036854775807) (hn : n * 8 ≤ 140737488351232) :
    Run Try.prog 6 #[.slice D n dc, .int .i64 at_, .int .i64 by_] W (Good W) := by
  have hl := h.len
  have aw : ∀ {w : World} {J : Bool → World → Prop}, Fr W w → (∀ w', Fr W w' → J true w') → Run Try.prog 11 #[] w fun v w' => ∃ t : Bool, v = .bool t ∧ J t w' := by
    intro w J f hJ
    refine awake_spec.mono ?_
    rintro v w' ⟨rfl, x⟩
    exact ⟨_, rfl, hJ _ (f.ext x)⟩
  refine law21_QueueRefuses.ok ((copyInts_spec h (by omega)).mono ?_)
  rintro v w1 ⟨A1, c1, rfl, o1, l1, b1, x1⟩
  refine ⟨_, _, _, rfl, (qnew_spec (o1.rd l1) (by omega)).mono ?_⟩
  rintro v w2 (⟨hm, q, F, rfl, ok2, x2, f2⟩ | ⟨hm, rfl, x2⟩)
  case inr =>
    refine ⟨_, _, rfl, ifP_bne.2 ⟨fun _ => ifP_t rfl (ifP_t rfl (ifP_t rfl (aw (Fr.of_ext (x1.trans x2)) fun w' f => ⟨rfl, f⟩))), fun h => by cases h⟩⟩
  have h1n : 1 ≤ n := by have := hm.1; omega
  have h17 : n ≤ 17 := by have := hm.2.1; omega
  have S2 : Since W w2 q F (ds.map fresh) := ⟨ok2, x1.trans x2, fun k hk => by have := f2 k hk; have := x1.size; omega⟩
  have hcl : (ds.map fresh).length = n := by rw [List.length_map]; exact hl
  refine ⟨_, _, rfl, ifP_bne.2 ⟨fun h => absurd rfl h, fun _ => ifP_f rfl (low_spec.mono ?_)⟩⟩
  rintro v w3 ⟨rfl, rfl⟩
  have r0 : 0 ≤ Int.tmod (lowV by_) 1000 ∧ Int.tmod (lowV by_) 1000 < 1000 := by
    rw [Int.tmod_eq_emod_of_nonneg (lowV_ge _)]; omega
  refine ⟨_, rfl, put_gen (ok := false) (e := 211) (cl' := ds.map fresh) S2 ?_ fun w4 F4 S4 => ⟨_, _, rfl, low_spec.mono ?_⟩⟩
  · rw [wrap_i64 (by omega) (by omega), putQ, if_pos (.inr (by omega))]
  rintro v w5 ⟨rfl, rfl⟩
  refine ⟨_, rfl, put_gen (ok := false) (e := 211) (cl' := ds.map fresh) S4 ?_ fun w6 F6 S6 => ⟨_, _, rfl, ?_⟩⟩
  · rw [wrap_i64 (by omega) (by omega), putQ, if_pos (.inl (by omega))]
  -- the class that is asked for
  obtain ⟨i, hi⟩ : ∃ i : Nat, Int.tmod (lowV at_) (n : Int) = i := ⟨(Int.tmod (lowV at_) (n : Int)).toNat, by
    have : 0 ≤ Int.tmod (lowV at_) (n : Int) := by rw [Int.tmod_eq_emod_of_nonneg (lowV_ge _)]; exact Int.emod_nonneg _ (by omega)
    omega⟩
  have hin : i < n := by
    have : Int.tmod (lowV at_) (n : Int) < n := by rw [Int.tmod_eq_emod_of_nonneg (lowV_ge _)]; exact Int.emod_lt_of_pos _ (by omega)
    omega
  have hn0 : ((n : Nat) : Int) ≠ 0 := by omega
  have hd := hm.2.2 (ds.getD i 0) (by rw [List.getD_eq_getElem?_getD, List.getElem?_eq_getElem (by omega)]; exact List.getElem_mem _)
  let zs : List Int := List.replicate (65535 : Int).toNat 0
  have p1 : putQ (ds.map fresh) i (List.replicate (65536 : Int).toNat 0) = ((false, 212), ds.map fresh) := by
    rw [putQ, if_neg (by omega), if_pos (by rw [List.length_replicate]; omega)]
  have p2 : putQ (ds.map fresh) i zs = ((true, 0), oneOf ds i zs) := by
    rw [putQ, if_neg (by omega), if_neg (by rw [List.length_replicate]; omega), Int.toNat_natCast, List.getElem?_map, List.getElem?_eq_getElem (by omega)]
    have e : ds[i]'(by omega) = ds.getD i 0 := by rw [List.getD_eq_getElem?_getD, List.getElem?_eq_getElem (by omega)]; rfl
    simp only [Option.map]
    rw [e]
    have : Cls.put (fresh (ds.getD i 0)) zs = (true, { fresh (ds.getD i 0) with fr := [zs] }) := by
      unfold Cls.put
      rw [if_neg (by show ¬ ((0 : Int) = ds.getD i 0); omega)]; rfl
    rw [this]; rfl
  -- behind all Puts
  have tail : ∀ w F', Since W w q F' (oneOf ds i zs) → law21_QueueRefuses.J3 (Good W) D n dc at_ by_ (some ⟨q, 0, none⟩) false 211 false 211 false 212 true 0 w := by
    intro w F S
    refine (copyInts_spec (h.ext S.ext) (by omega)).mono ?_
    rintro v w1 ⟨B, bc, rfl, o1, l1, b1, x1⟩
    refine ⟨_, _, _, rfl, letD fun w2 _ x2 => low_spec.mono ?_⟩
    rintro v w3 ⟨rfl, rfl⟩
    refine ⟨_, rfl, hn0, low_spec.mono ?_⟩
    rintro v w4 ⟨rfl, rfl⟩
    rw [hi]
    have q0 : 0 ≤ Int.tmod (lowV by_) 9 ∧ Int.tmod (lowV by_) 9 < 9 := by
      rw [Int.tmod_eq_emod_of_nonneg (lowV_ge _)]; omega
    have e25 : IntKind.i64.wrap (1025 + Int.tmod (lowV by_) 9) = 1025 + Int.tmod (lowV by_) 9 := wrap_i64 (by omega) (by omega)
    have S3 := (S.more x1).more x2
    have o3 := o1.ext x2
    have hB : ∀ k, F k → ¬ blk B k := fun k hk hb => by have := b1 k hb; have := S.lt k hk; omega
    have hW : ∀ k, blk B k → W.heap.size ≤ k := fun k hb => by have := b1 k hb; have := S.ext.size; omega
    have set_own : ∀ {w : World} {x : Int} {xs : List Int}, Own 3 1 w B bc ((xs.map (Value.int .i64)).set i (.int .i64 x)) → OInts w B bc (xs.set i x) := fun h => by rw [OInts, List.map_set]; exact h
    refine ⟨_, rfl, by omega, by omega, ?_⟩
    rw [e25]
    refine o3.put1 rfl (by rw [List.length_map]; omega) fun w5 o5 k5 z5 => ?_
    have S5 := S3.keepX k5 hB hW
    have o5 := set_own o5
    refine (qnew_spec (o5.rd (by rw [List.length_set]; exact l1)) (by omega)).mono ?_
    rintro v w6 (⟨hm2, _⟩ | ⟨_, rfl, x6⟩)
    · exact absurd hm2 (not_may (by omega) (.inr (by omega)))
    refine ⟨_, _, rfl, letD fun w7 _ x7 => low_spec.mono ?_⟩
    rintro v w8 ⟨rfl, rfl⟩
    refine ⟨_, rfl, hn0, low_spec.mono ?_⟩
    rintro v w9 ⟨rfl, rfl⟩
    rw [hi]
    have e09 : IntKind.i64.wrap (0 - Int.tmod (lowV by_) 9) = 0 - Int.tmod (lowV by_) 9 := wrap_i64 (by omega) (by omega)
    have S7 := (S5.more x6).more x7
    have o7 := (o5.ext x6).ext x7
    refine ⟨_, rfl, by omega, by omega, ?_⟩
    rw [e09]
    refine o7.put1 rfl (by rw [List.length_map, List.length_set]; omega) fun w10 o10 k10 z10 => ?_
    have S10 := S7.keepX k10 hB hW
    have o10 := set_own o10
    refine (qnew_spec (o10.rd (by rw [List.length_set, List.length_set]; exact l1)) (by omega)).mono ?_
    rintro v w11 (⟨hm2, _⟩ | ⟨_, rfl, x11⟩)
    · exact absurd hm2 (not_may (by rw [List.length_set]; omega) (.inl (by omega)))
    have S11 := S10.more x11
    refine ⟨_, _, rfl, (lens_spec S11.ok).mono ?_⟩
    rintro v w12 ⟨A2, c2, rfl, o2, l2, b2, x12⟩
    have hcl1 : (oneOf ds i zs).length = n := by unfold oneOf; rw [List.length_set]; exact hcl
    rw [hcl1] at l2 ⊢
    have i2 := o2.rd l2
    have loop : ∀ d j : Nat, n - j = d → j ≤ n → law21_QueueRefuses.L0 (Good W) false 211 false 211 false 212 true 0 none 210 none 210 A2 n c2 (if i < j then 1 else 0) j w12 := by
      intro d
      induction d with
      | zero =>
        intro j hd hj
        rw [if_pos (by omega)]
        exact law21_QueueRefuses.L0_step (ifP_no (by omega) (ifP_t rfl (ifP_t rfl (ifP_t rfl (ifP_t rfl (ifP_t rfl (ifP_t rfl (ifP_t rfl (ifP_t rfl (ifP_t rfl (ifP_t rfl (ifP_t rfl (ifP_t rfl (ifP_t rfl (aw (Fr.of_ext (S11.ext.trans x12)) fun w' f => ⟨rfl, f⟩)))))))))))))))
      | succ d ih =>
        intro j hd hj
        obtain ⟨p, hp, hc⟩ := i2.2 j _ (lens_one (zs := zs) (by omega : i < ds.length) (by omega : j < ds.length))
        refine law21_QueueRefuses.L0_step (ifP_yes (by omega) ⟨by omega, by omega, p, hp, _, by rw [Int.toNat_natCast]; exact hc, ?_⟩)
        have e1 : IntKind.i64.wrap ((j : Int) + 1) = ((j + 1 : Nat) : Int) := wrap_i64 (by omega) (by omega)
        have e2 : IntKind.i64.wrap ((if i < j then (1 : Int) else 0) + (if j = i then 1 else 0)) = if i < j + 1 then 1 else 0 := by
          rw [wrap_i64 (by split <;> split <;> omega) (by split <;> split <;> omega)]
          split <;> split <;> split <;> omega
        rw [e1, e2]
        exact ih (j + 1) (by omega) (by omega)
    exact ⟨_, _, _, rfl, loop n 0 (by omega) (by omega)⟩
  have j2 : ∀ w F', Since W w q F' (ds.map fresh) → law21_QueueRefuses.J2 (Good W) D n dc at_ by_ (some ⟨q, 0, none⟩) false 211 false 211 false 212 w := by
    intro w F S
    unfold law21_QueueRefuses.J2
    refine letD fun w1 _ x1 => ⟨low_spec.mono ?_, ?_⟩
    · rintro v w2 ⟨rfl, rfl⟩
      obtain ⟨A3, w3, hr, hb, x3⟩ := made (w := w2) (c := 65535) (by omega) (by omega)
      refine ⟨_, rfl, hn0, _, w3, hr, _, _, _, rfl, ?_⟩
      rw [hi]
      exact ((S.more x1).more x3).put hb (by omega) p2 fun w4 F4 S4 _ => ⟨_, _, rfl, tail w4 F4 S4⟩
    · obtain ⟨A3, w3, hr, hb, x3⟩ := made (w := w1) (c := 65535) (by omega) (by omega)
      refine ⟨_, w3, hr, _, _, _, rfl, low_spec.mono ?_⟩
      rintro v w2 ⟨rfl, rfl⟩
      refine ⟨_, rfl, hn0, ?_⟩
      rw [hi]
      exact ((S.more x1).more x3).put hb (by omega) p2 fun w4 F4 S4 _ => ⟨_, _, rfl, tail w4 F4 S4⟩
  refine letD fun w7 _ x7 => ⟨low_spec.mono ?_, ?_⟩
  · rintro v w8 ⟨rfl, rfl⟩
    obtain ⟨A3, w9, hr, hb, x9⟩ := made (w := w8) (c := 65536) (by omega) (by omega)
    refine ⟨_, rfl, hn0, _, w9, hr, _, _, _, rfl, ?_⟩
    rw [hi]
    exact ((S6.more x7).more x9).put hb (by omega) p1 fun w10 F10 S10 _ => ⟨_, _, rfl, j2 w10 F10 S10⟩
  · obtain ⟨A3, w9, hr, hb, x9⟩ := made (w := w7) (c := 65536) (by omega) (by omega)
    refine ⟨_, w9, hr, _, _, _, rfl, low_spec.mono ?_⟩
    rintro v w8 ⟨rfl, rfl⟩
    refine ⟨_, rfl, hn0, ?_⟩
    rw [hi]
    exact ((S6.more x7).more x9).put hb (by omega) p1 fun w10 F10 S10 _ => ⟨_, _, rfl, j2 w10 F10 S10⟩
end
end Go.Proofs.Ythhfipjmjnfjlaa
