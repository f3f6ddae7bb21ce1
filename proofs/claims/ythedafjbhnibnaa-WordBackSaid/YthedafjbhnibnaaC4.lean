/- The statements over words: Get, Put, Sum. -/
import Derived.Test.YthedafjbhnibnaaC3
namespace Go.Proofs.Ythedafjbhnibnaa
open Go.Rd Go.RowKit
set_option linter.unusedVariables false
set_option linter.unusedSimpArgs false

/-- What is lent reads as what it was made of. -/
theorem lent_reads {w : World} {A : Option Addr} {n c : Nat} {xs ms : List Int} (h : OBytes w A c (xs ++ ms)) (hl : xs.length = n) : IBytes w A n xs := by
  have := (h.cells).take n
  rw [← List.map_take, List.take_left' hl] at this
  exact this.rd hl

theorem lent_room {w : World} {A : Option Addr} {n c : Nat} {xs ms : List Int} (h : OBytes w A c (xs ++ ms)) (hl : xs.length = n) : n ≤ c := by
  have := h.le
  simp [hl] at this
  omega


/-! ## WordGets -/

theorem WordGets_main {W : World} {A : Option Addr} {n c : Nat} {xs : List Int} {at_ size : Int} (h : IBytes W A n xs) (hc : n ≤ c) (hn : n ≤ 140737488351232) :
    Run Try.prog 3 #[.slice A n c, .int .i64 at_, .int .i64 size] W (Good W) := by
  have loop : ∀ (d : Nat) (s : Int), (6 - s).toNat = d → -1 ≤ s → s ≤ 6 → ∀ w, Fr W w → law1_WordGets.L0 (Good W) A n c at_ size s w := by
    intro d
    induction d with
    | zero =>
      intro s hd h0 h1 w f
      refine law1_WordGets.L0_step (ifP_no (by omega) ((copyBytes_spec (h.fr f) (by omega)).mono ?_))
      rintro v w1 ⟨A1, c1, rfl, o1, l1, b1, x1⟩
      have f1 := f.ext x1
      refine ⟨_, _, _, rfl, (get_spec (o1.rd l1) (o1.len (by omega) (by simp [l1])) (by omega)).mono ?_⟩
      rintro v w2 ⟨rfl, rfl⟩
      have fin : ∀ (g : Int) (b : Bool), Run Try.prog 11 #[.slice A n c, .int .i64 at_, .int .i64 size] w2 fun v_3 w_4 => ∃ t690 : Int, ∃ t691 : Bool, v_3 = .tuple #[.int .u32 t690, .bool t691] ∧
          (g = t690 ∧ b = t691 → True) ∧ w_4 = w2 ∧ Value.tuple #[.int .u32 t690, .bool t691] = (if fitsB n at_ size then .tuple #[.int .u32 (getV xs at_ size), .bool true] else .tuple #[.int .u32 0, .bool false]) := by
        intro g b
        refine (rget_spec (h.fr f1) (by omega)).mono ?_
        rintro v w3 ⟨rfl, rfl⟩
        by_cases hf : fitsB n at_ size = true
        · rw [if_pos hf]; exact ⟨_, _, rfl, fun _ => trivial, rfl, rfl⟩
        · rw [if_neg hf]; exact ⟨_, _, rfl, fun _ => trivial, rfl, rfl⟩
      have last : ∀ (g : Int) (b : Bool), Value.tuple #[.int .u32 g, .bool b] = (if fitsB n at_ size then .tuple #[.int .u32 (getV xs at_ size), .bool true] else .tuple #[.int .u32 0, .bool false]) →
          Run Try.prog 11 #[.slice A n c, .int .i64 at_, .int .i64 size] w2 fun v_3 w_4 => ∃ t690 : Int, ∃ t691 : Bool, v_3 = .tuple #[.int .u32 t690, .bool t691] ∧ ifP (g == t690) (ifP (b == t691) (Run Try.prog 14 #[] w_4 fun v_4 w_5 => ∃ t81 : Bool, v_4 = .bool t81 ∧ law1_WordGets.J3 (Good W) t81 w_5) (law1_WordGets.J3 (Good W) false w_4)) (law1_WordGets.J3 (Good W) false w_4) := by
        intro g b hg
        refine (fin g b).mono ?_
        rintro v w3 ⟨g', b', rfl, _, rfl, he⟩
        rw [← hg] at he
        injection he with he
        injection he with he
        injection he with e1 he
        injection he with e2 _
        injection e1 with _ e1
        injection e2 with e2
        subst e1
        subst e2
        refine ⟨_, _, rfl, ifP_eq rfl (ifP_t (by simp) (awake_spec.mono ?_))⟩
        rintro v w4 ⟨rfl, x4⟩
        exact ⟨_, rfl, rfl, f1.ext x4⟩
      by_cases hf : fitsB n at_ size = true
      · rw [if_pos hf] at last ⊢
        exact ⟨_, _, rfl, last _ _ rfl⟩
      · rw [if_neg hf] at last ⊢
        exact ⟨_, _, rfl, last _ _ rfl⟩
    | succ d ih =>
      intro s hd h0 h1 w f
      have next : ∀ w, Fr W w → law1_WordGets.J2 (Good W) A n c at_ size s w := by
        intro w f
        unfold law1_WordGets.J2
        rw [wrap_i64 (by omega) (by omega)]
        exact ih (s + 1) (by omega) (by omega) (by omega) w f
      have doit : law1_WordGets.J0 (Good W) A n c at_ size s true w := by
        refine ifP_t rfl ((lendBytes_spec (h.fr f) (by omega)).mono ?_)
        rintro v w1 ⟨A1, c1, rfl, o1, b1, x1⟩
        have f1 := f.ext x1
        refine ⟨_, _, _, rfl, (get_spec (lent_reads o1 h.len) (lent_room o1 h.len) (by omega)).mono ?_⟩
        rintro v w2 ⟨rfl, rfl⟩
        have rest : ∀ (g : Int) (b : Bool), Value.tuple #[.int .u32 g, .bool b] = (if fitsB n at_ s then .tuple #[.int .u32 (getV xs at_ s), .bool true] else .tuple #[.int .u32 0, .bool false]) →
            Run Try.prog 11 #[.slice A n c, .int .i64 at_, .int .i64 s] w2 fun v_3 w_4 => ∃ t400 : Int, ∃ t401 : Bool, v_3 = .tuple #[.int .u32 t400, .bool t401] ∧ ifP (g != t400) (law1_WordGets.J1 (Good W) A n c at_ size s true w_4) (ifP (!(b == t401)) (law1_WordGets.J1 (Good W) A n c at_ size s true w_4) (Run Try.prog 12 #[.slice A1 n c1, .slice A n c] w_4 fun v_4 w_5 => ∃ t54 : Bool, v_4 = .bool t54 ∧ law1_WordGets.J1 (Good W) A n c at_ size s (!t54) w_5)) := by
          intro g b hg
          refine (rget_spec (h.fr f1) (by omega)).mono ?_
          rintro v w3 ⟨rfl, rfl⟩
          rw [← hg]
          refine ⟨_, _, rfl, ifP_nne rfl (ifP_f (by simp) ((keptBytes_spec o1 (h.fr f1) (by omega)).mono ?_))⟩
          rintro v w4 ⟨rfl, k4⟩
          exact ⟨_, rfl, ifP_f rfl (next w4 (f1.blk k4 fun k hk => by have := b1 k hk; have := f.size; omega))⟩
        by_cases hf : fitsB n at_ s = true
        · rw [if_pos hf] at rest ⊢
          exact ⟨_, _, rfl, rest _ _ rfl⟩
        · rw [if_neg hf] at rest ⊢
          exact ⟨_, _, rfl, rest _ _ rfl⟩
      refine law1_WordGets.L0_step (ifP_yes (by omega) (ifP_dec (fun _ => doit) (fun _ => ?_)))
      cases hb : (size == 3)
      · exact ifP_f rfl (next w f)
      · exact doit
  exact law1_WordGets.ok (loop _ (-1) rfl (by omega) (by omega) W (Fr.refl W))

/-! ## WordPuts -/

theorem WordPuts_main {W : World} {A : Option Addr} {n c : Nat} {xs : List Int} {at_ size v : Int} (h : IBytes W A n xs) (hc : n ≤ c) (hn : n ≤ 140737488351232) :
    Run Try.prog 4 #[.slice A n c, .int .i64 at_, .int .i64 size, .int .u32 v] W (Good W) := by
  have tail : ∀ (w : World), Fr W w → Run Try.prog 14 #[] w fun v_3 w_4 => ∃ t67 : Bool, v_3 = .bool t67 ∧ law1_WordPuts.J1 (Good W) t67 w_4 := by
    intro w f
    refine awake_spec.mono ?_
    rintro v w1 ⟨rfl, x1⟩
    exact ⟨_, rfl, rfl, f.ext x1⟩
  refine law1_WordPuts.ok ((rput_spec h (by omega)).mono ?_)
  intro u1 w1 p1
  by_cases hf : fitsB n at_ size = true
  · have fits : ∀ {w w' : World} {u : Value}, PutOf w n xs at_ size v u w' → ∃ A c, u = .tuple #[.slice A n c, .bool true] ∧ OBytes w' A c (putL size.toNat xs at_.toNat v) ∧ (∀ k, blk A k → w.heap.size ≤ k) ∧ Ext w w' := by
      intro w w' u hp
      unfold PutOf at hp
      rw [if_pos hf] at hp
      obtain ⟨A, c, e, o, _, b, x⟩ := hp
      exact ⟨A, c, e, o, b, x⟩
    obtain ⟨A1, c1, rfl, o1, b1, x1⟩ := fits p1
    have hl : (putL size.toNat xs at_.toNat v).length = n := by rw [putL_length]; exact h.len
    have f1 := (Fr.refl W).ext x1
    refine ⟨_, _, _, _, rfl, (lendBytes_spec (h.fr f1) (by omega)).mono ?_⟩
    rintro u w2 ⟨A2, c2, rfl, o2, b2, x2⟩
    have f2 := f1.ext x2
    refine ⟨_, _, _, rfl, (put_spec (lent_reads o2 h.len) (by omega)).mono ?_⟩
    intro u3 w3 p3
    obtain ⟨A3, c3, rfl, o3, b3, x3⟩ := fits p3
    have f3 := f2.ext x3
    refine ⟨_, _, _, _, rfl, (keptBytes_spec (o2.ext x3) (h.fr f3) (by omega)).mono ?_⟩
    rintro u w4 ⟨rfl, k4⟩
    have l2 := o2.lt
    have l1 := o1.lt
    have f4 := f3.blk k4 fun k hk => by have := b2 k hk; have := f1.size; omega
    have o1 := ((o1.ext x2).ext x3).keep k4 fun k hk hk2 => by have := l1 k hk; have := b2 k hk2; omega
    have o3 := o3.keep k4 fun k hk hk2 => by have := b3 k hk; have := l2 k hk2; omega
    refine ⟨_, rfl, ifP_f rfl ((copyBytes_spec (h.fr f4) (by omega)).mono ?_)⟩
    rintro u w5 ⟨A5, c5, rfl, o5, l5, b5, x5⟩
    have f5 := f4.ext x5
    refine ⟨_, _, _, rfl, (put_spec (o5.rd l5) (by omega)).mono ?_⟩
    intro u6 w6 p6
    obtain ⟨A6, c6, rfl, o6, b6, x6⟩ := fits p6
    have f6 := f5.ext x6
    have o1 := (o1.ext x5).ext x6
    have o3 := (o3.ext x5).ext x6
    refine ⟨_, _, _, _, rfl, ifP_f (by simp) (ifP_f (by simp) ((sameBytes_spec (o3.rd hl) (o1.rd hl) (by omega)).mono ?_))⟩
    rintro u w7 ⟨rfl, x7⟩
    have o1 := o1.ext x7
    have o3 := o3.ext x7
    have o6 := o6.ext x7
    have f7 := f6.ext x7
    have l3 : ∀ k, blk A3 k → k < w3.heap.size := by
      obtain ⟨A, c, e, o, b, x⟩ := fits p3
      injection e with e
      injection e with e
      injection e with e1 _
      injection e1 with e1 _ _
      subst e1
      exact o.lt
    refine ⟨_, rfl, ifP_f (by simp) ((spoilBytes_spec o3 (by simp [hl]) (by omega)).mono ?_)⟩
    rintro u w8 ⟨rfl, k8⟩
    have s4 : w3.heap.size ≤ w4.heap.size := k4.size
    have s5 := x5.size
    have f8 := f7.blk k8 fun k hk => by have := b3 k hk; have := f2.size; omega
    have o6 := o6.keep k8 fun k hk hk2 => by have := b6 k hk; have := l3 k hk2; omega
    have o1 := o1.keep k8 fun k hk hk2 => by have := l1 k hk; have := b3 k hk2; have := x2.size; omega
    refine ⟨rfl, (sameBytes_spec (o6.rd hl) (o1.rd hl) (by omega)).mono ?_⟩
    rintro u w9 ⟨rfl, x9⟩
    exact ⟨_, rfl, ifP_t (by simp) (tail w9 (f8.ext x9))⟩
  · have fits : ∀ {w w' : World} {u : Value}, PutOf w n xs at_ size v u w' → u = .tuple #[.slice none 0 0, .bool false] ∧ w' = w := by
      intro w w' u hp
      unfold PutOf at hp
      rwa [if_neg hf] at hp
    obtain ⟨rfl, rfl⟩ := fits p1
    refine ⟨_, _, _, _, rfl, (lendBytes_spec h (by omega)).mono ?_⟩
    rintro u w2 ⟨A2, c2, rfl, o2, b2, x2⟩
    have f2 := (Fr.refl w1).ext x2
    refine ⟨_, _, _, rfl, (put_spec (lent_reads o2 h.len) (by omega)).mono ?_⟩
    intro u3 w3 p3
    obtain ⟨rfl, rfl⟩ := fits p3
    refine ⟨_, _, _, _, rfl, (keptBytes_spec o2 (h.fr f2) (by omega)).mono ?_⟩
    rintro u w4 ⟨rfl, k4⟩
    have f4 := f2.blk k4 fun k hk => b2 k hk
    refine ⟨_, rfl, ifP_f rfl ((copyBytes_spec (h.fr f4) (by omega)).mono ?_)⟩
    rintro u w5 ⟨A5, c5, rfl, o5, l5, b5, x5⟩
    have f5 := f4.ext x5
    refine ⟨_, _, _, rfl, (put_spec (o5.rd l5) (by omega)).mono ?_⟩
    intro u6 w6 p6
    obtain ⟨rfl, rfl⟩ := fits p6
    have z : ∀ w : World, IBytes w none 0 [] := fun w => Rd.nil
    refine ⟨_, _, _, _, rfl, ifP_f (by simp) (ifP_f (by simp) ((sameBytes_spec (z _) (z _) (by omega)).mono ?_))⟩
    rintro u w7 ⟨rfl, x7⟩
    have f7 := f5.ext x7
    refine ⟨_, rfl, ifP_f (by simp) ((spoilBytes_spec Own.empty rfl (by simp)).mono ?_)⟩
    rintro u w8 ⟨rfl, k8⟩
    have f8 := f7.blk k8 fun k hk => (blk_none hk).elim
    refine ⟨rfl, (sameBytes_spec (z _) (z _) (by omega)).mono ?_⟩
    rintro u w9 ⟨rfl, x9⟩
    exact ⟨_, rfl, ifP_t (by simp) (tail w9 (f8.ext x9))⟩

end Go.Proofs.Ythedafjbhnibnaa
