/- The statement over the order in which a queue tells: the walk. -/
import Derived.Test.YthhfipjmjnfjlaaC11
namespace Go.Proofs.Ythhfipjmjnfjlaa
open Go.Rd Go.RowKit
set_option linter.unusedVariables false
set_option linter.unusedSimpArgs false

section
variable {W : World} {D : Option Addr} {n dc : Nat} {ds : List Int} {B T : Option Addr} {m bc tn tc : Nat} {ps : List Int} {ts : List Bool} {q : Nat}

theorem order_four (h17 : n ≤ 17) (hm : m ≤ 250) {A : Option Addr} {c : Nat} : ∀ (d i : Nat), m + 1 - i = d → i ≤ m + 1 → ∀ (w : World) (F : Nat → Prop) (cl : List Cls) (qs : List Part), Ord ds W w q F cl A c qs → qs.length = n → (drainL cl).length ≤ m + 1 - i →
    law21_QueueOrder.L4 (Good W) B m bc (some ⟨q, 0, none⟩) A n c i w := by
  intro d
  induction d with
  | zero =>
    intro i hd hi w F cl qs h hn hl
    refine law21_QueueOrder.L4_step (ifP_no (by omega) ((drain_spec h.since.ok (by omega)).mono ?_))
    rintro v w1 ⟨A1, an, ac, rs, F1, rfl, hf, ok1, k1, s1, d1⟩
    have han := hf.length
    have han0 : an = 0 := by omega
    subst han0
    have f1 : Fr W w1 := Fr.of_ext (h.since.ext.fresh k1 h.since.new)
    refine ⟨_, _, _, rfl, ifP_t rfl (awake_spec.mono ?_)⟩
    rintro v w2 ⟨rfl, x2⟩
    exact ⟨_, rfl, rfl, f1.ext x2⟩
  | succ d ih =>
    intro i hd hi w F cl qs h hn hl
    refine law21_QueueOrder.L4_step (ifP_yes (by omega) ((first_spec h hn h17).mono ?_))
    rintro v w1 ⟨rfl, F1, cl1, qs1, h1, hn1, hl1⟩
    have hw : IntKind.i64.wrap ((i : Int) + 1) = ((i + 1 : Nat) : Int) := wrap_i64 (by omega) (by omega)
    refine ⟨_, rfl, ifP_f rfl ?_⟩
    rw [hw]
    exact ih (i + 1) (by omega) (by omega) w1 F1 cl1 qs1 h1 hn1 (by omega)

theorem order_two (h1n : 1 ≤ n) (h17 : n ≤ 17) (hd0 : IInts W D n ds) (hb : IInts W B m ps) (ht : Rd Value.bool W T tn ts) (hm : m ≤ 250) {A : Option Addr} {c : Nat} : ∀ (d i : Nat), m - i = d → i ≤ m → ∀ (w : World) (F : Nat → Prop) (cl : List Cls) (qs : List Part), Ord ds W w q F cl A c qs → qs.length = n → (drainL cl).length ≤ i →
    law21_QueueOrder.L2 (Good W) D n dc B m bc T tn tc (some ⟨q, 0, none⟩) A n c i w := by
  intro d
  induction d with
  | zero =>
    intro i hd hi w F cl qs h hn hl
    exact law21_QueueOrder.L2_step (ifP_no (by omega) (order_four h17 hm (m + 1) 0 rfl (by omega) w F cl qs h hn (by omega)))
  | succ d ih =>
    intro i hd hi w F cl qs h hn hl
    have hlt : i < m := by omega
    obtain ⟨a, ha, hc⟩ := (hb.ext h.since.ext).at hlt
    refine law21_QueueOrder.L2_step (ifP_yes (by omega) ⟨by omega, by omega, a, ha, _, by rw [Int.toNat_natCast]; exact hc, low_spec.mono ?_⟩)
    rintro v w1 ⟨rfl, rfl⟩
    refine ⟨_, rfl, by omega, ?_⟩
    generalize hx : lowV _ = x
    have hx0 : 0 ≤ x := by rw [← hx]; exact lowV_ge _
    obtain ⟨k, hk⟩ : ∃ k : Nat, Int.tmod x (n : Int) = k := ⟨(Int.tmod x (n : Int)).toNat, by
      have : 0 ≤ Int.tmod x (n : Int) := by rw [Int.tmod_eq_emod_of_nonneg hx0]; exact Int.emod_nonneg _ (by omega)
      omega⟩
    have hkn : k < n := by
      have : Int.tmod x (n : Int) < n := by rw [Int.tmod_eq_emod_of_nonneg hx0]; exact Int.emod_lt_of_pos _ (by omega)
      omega
    rw [hk, wrap_u8 (x := (i : Int)) (by omega) (by omega)]
    have hcn : cl.length = n := h.cor.len.trans hn
    have hC : cl[k]? = some (cl[k]'(by omega)) := List.getElem?_eq_getElem _
    generalize cl[k]'(by omega) = C at hC
    have hp : qs[k]? = some (qs[k]'(by omega)) := List.getElem?_eq_getElem _
    generalize qs[k]'(by omega) = p at hp
    obtain ⟨e1, e2, e3, e4⟩ := h.cor.at_ k C p hC hp
    have hput : putQ cl k [(i : Int)] = (((C.put [(i : Int)]).1, 0), cl.set k (C.put [(i : Int)]).2) := by
      rw [putQ, if_neg (by omega), if_neg (by show ¬ 65535 < 1; omega), Int.toNat_natCast, hC]
    refine letA fun w2 hw2 x2 s2 => ?_
    have h2 := h.ext x2
    have i2 : IBytes w2 (some (newA w1)) 1 [(i : Int)] := (lit_bytes (xs := [(i : Int)]) hw2 rfl).rd rfl
    refine (qput_spec h2.since.ok i2 (by omega)).mono ?_
    rintro v w3 ⟨rfl, s⟩
    rw [hput] at s ⊢
    obtain ⟨F3, ok3, K3, sub3⟩ := s
    have S3 : Since W w3 q F3 (cl.set k (C.put [(i : Int)]).2) := ⟨ok3, h2.since.ext.fresh K3 h2.since.new, fun j hj => (sub3 j hj).elim (h2.since.new j) fun h5 => by have := h2.since.ext.size; omega⟩
    have W3 : WOk w3 A c qs := h2.ok.keep K3 fun j hj hF => h2.dis j hj hF
    have D3 : ∀ j, wfp A qs j → ¬ F3 j := fun j hj hF => by
      rcases sub3 j hF with h5 | h5
      · exact h2.dis j hj h5
      · have := h2.ok.lt hj; omega
    refine ⟨_, _, rfl, letD fun w4 _ x4 => ifP_bne.2 ⟨fun h => absurd rfl h, fun _ => ?_⟩⟩
    have S4 := S3.more x4
    have W4 := W3.ext x4
    obtain ⟨a4, ha4, hc4⟩ := W4.cell hp
    obtain ⟨b4, hb4, hbc4⟩ := (hd0.ext S4.ext).2 k C.d e2
    refine ⟨by omega, by omega, a4, ha4, _, _, _, by rw [Int.toNat_natCast]; exact hc4, by omega, by omega, b4, hb4, _, by rw [Int.toNat_natCast]; exact hbc4, ?_⟩
    obtain ⟨po, pl⟩ := W4.part p (List.mem_of_getElem? hp)
    have hfl : C.fr.length = p.n := by rw [e1, List.length_map, pl]
    have hdlen := drain_set (C' := (C.put [(i : Int)]).2) hC
    -- on with the next one
    have next : ∀ w' F' cl' qs', Ord ds W w' q F' cl' A c qs' → qs'.length = n → (drainL cl').length ≤ i + 1 → law21_QueueOrder.L2 (Good W) D n dc B m bc T tn tc (some ⟨q, 0, none⟩) A n c (IntKind.i64.wrap ((i : Int) + 1)) w' := by
      intro w' F' cl' qs' h' hn' hl'
      have hw : IntKind.i64.wrap ((i : Int) + 1) = ((i + 1 : Nat) : Int) := wrap_i64 (by omega) (by omega)
      rw [hw]
      exact ih (i + 1) (by omega) (by omega) w' F' cl' qs' h' hn' hl'
    have j3 : ∀ w' F' cl' qs', Ord ds W w' q F' cl' A c qs' → qs'.length = n → (drainL cl').length ≤ i + 1 → law21_QueueOrder.J3 (Good W) D n dc B m bc T tn tc (some ⟨q, 0, none⟩) A n c i w' := by
      intro w' F' cl' qs' h' hn' hl'
      refine ifP_decide.2 ⟨fun hit => ⟨by omega, by omega, ?_⟩, fun _ => ifP_f rfl (next w' F' cl' qs' h' hn' hl')⟩
      obtain ⟨z, hz, hzc⟩ := (ht.ext h'.since.ext).at (i := i) (by omega)
      refine ⟨z, hz, _, by rw [Int.toNat_natCast]; exact hzc, ifP_of (fun _ => (first_spec h' hn' h17).mono ?_) fun _ => ifP_f rfl (next w' F' cl' qs' h' hn' hl')⟩
      rintro v w5 ⟨rfl, F5, cl5, qs5, h5, hn5, hl5⟩
      exact ⟨_, rfl, ifP_f rfl (next w5 F5 cl5 qs5 h5 hn5 (by omega))⟩
    by_cases hfull : (C.fr.length : Int) = C.d
    · have hput2 : C.put [(i : Int)] = (false, { C with lost := min (C.lost + 1) 4294967295 }) := if_pos hfull
      rw [hput2] at S4 hdlen ⊢
      have ed : decide ((p.n : Int) < C.d) = false := decide_eq_false (by omega)
      show law21_QueueOrder.J2 _ _ _ _ _ _ _ _ _ _ _ _ _ _ _ _ _ (!(false == decide ((p.n : Int) < C.d))) _
      rw [ed]
      have hset : qs.set k p = qs := by
        apply List.ext_getElem?
        intro j
        by_cases hj : k = j
        · subst hj; rw [List.getElem?_set_self (by omega), hp]
        · rw [List.getElem?_set_ne hj]
      have cor4 : Cor ds (cl.set k { C with lost := min (C.lost + 1) 4294967295 }) qs := by
        have := h.cor.set (C' := { C with lost := min (C.lost + 1) 4294967295 }) (p' := p) hC hp e1 rfl e3 e4
        rwa [hset] at this
      refine ifP_f rfl (ifP_f rfl (j3 w4 F3 _ qs ⟨S4, W4, cor4, h.new, D3⟩ hn ?_))
      simp only at hdlen ⊢
      omega
    · have hput2 : C.put [(i : Int)] = (true, { C with fr := C.fr ++ [[(i : Int)]] }) := if_neg hfull
      rw [hput2] at S4 hdlen ⊢
      have ed : decide ((p.n : Int) < C.d) = true := decide_eq_true (by omega)
      show law21_QueueOrder.J2 _ _ _ _ _ _ _ _ _ _ _ _ _ _ _ _ _ (!(true == decide ((p.n : Int) < C.d))) _
      rw [ed]
      refine ifP_f rfl (ifP_t rfl ⟨by omega, by omega, a4, ha4, _, _, _, by rw [Int.toNat_natCast]; exact hc4, letA fun w5 hw5 x5 s5 => ?_⟩)
      have S5 := S4.more x5
      have W5 := W4.ext x5
      have po5 := po.ext x5
      have hB : RdC w5 (some (newA w4)) [.int .i64 (i : Int)] := by
        have : Own 3 1 w5 (some (newA w4)) 1 [.int .i64 (i : Int)] := .inr ⟨_, [], rfl, hw5, rfl⟩
        exact this.cells
      have hdl : (C.fr.length : Int) ≤ (drainL cl).length := by
        have := drain_set (C' := { C with fr := [] }) hC
        simp only [List.length_nil] at this
        omega
      have fin : ∀ (w6 : World) (X : Nat → Prop) (p' : Part), Keep X w5 w6 → (∀ j, X j → blkC p.A p.c j) → OwnS 3 1 w6 p'.A p'.c (p'.xs.map (Value.int .i64)) → p'.xs = p.xs ++ [(i : Int)] → p'.n = p.n + 1 → (∀ j, blkC p'.A p'.c j → blkC p.A p.c j ∨ w5.heap.size ≤ j) →
          ∃ a, A = some a ∧ (∃ u, w6.cell? (a.add (Int.toNat (k : Int) * 1)) = some u) ∧ w6.frozen? (a.add (Int.toNat (k : Int) * 1)) = false ∧ letW (w6.setCell (a.add (Int.toNat (k : Int) * 1)) p'.v) fun w7 => law21_QueueOrder.J3 (Good W) D n dc B m bc T tn tc (some ⟨q, 0, none⟩) A n c i w7 := by
        intro w6 X p' hk6 hX ho hxs hpn hbk
        refine W5.upd hp hk6 hX ho (by rw [hxs, List.length_append, pl, hpn]; rfl) hbk rfl fun w7 W7 k7 => ?_
        have S6 := S5.keepX hk6 (fun j hF hx => D3 j (.inr ⟨p, List.mem_of_getElem? hp, hX j hx⟩) hF) fun j hx => h.new j (.inr ⟨p, List.mem_of_getElem? hp, hX j hx⟩)
        have S7 := S6.keepX k7 (fun j hF hA => D3 j (.inl hA) hF) fun j hA => h.new j (.inl hA)
        refine j3 w7 F3 _ (qs.set k p') ⟨S7, W7, ?_, fun j hj => ?_, fun j hj hF => ?_⟩ (by rw [List.length_set]; exact hn) ?_
        · refine h.cor.set hC hp ?_ rfl ?_ ?_
          · show C.fr ++ [[(i : Int)]] = _
            rw [e1, hxs, List.map_append]; rfl
          · show ((C.fr ++ [[(i : Int)]]).length : Int) ≤ C.d
            rw [List.length_append]
            simp only [List.length_cons, List.length_nil]
            omega
          · intro y hy
            rw [hxs] at hy
            rcases List.mem_append.1 hy with hy | hy
            · exact e4 y hy
            · rw [List.mem_singleton.1 hy]; omega
        · rcases wfp_set (N := w5.heap.size) hp hbk hj with h8 | h8
          · exact h.new j h8
          · have := S5.ext.size; omega
        · rcases wfp_set (N := w5.heap.size) hp hbk hj with h8 | h8
          · exact D3 j h8 hF
          · have := S5.lt j hF; omega
        · simp only [List.length_append, List.length_cons, List.length_nil] at hdlen ⊢
          omega
      rcases append_casesS slInts (ty := 22) (n := p.n) (d := 1) po5 (by rw [List.length_map, pl]; omega) hB (m := 1) rfl rfl (by omega) (by omega) with ⟨hroom, w6, hr, ho, k6, _⟩ | ⟨hroom, c6, w6, hr, ho, hc6, x6, _⟩
      · refine ⟨_, w6, hr, _, _, _, rfl, by omega, by omega, fin w6 _ ⟨p.A, p.n + 1, p.c, p.xs ++ [(i : Int)]⟩ k6 (fun j hj => hj) (by rw [List.map_append]; exact ho) rfl rfl fun j hj => .inl hj⟩
      · refine ⟨_, w6, hr, _, _, _, rfl, by omega, by omega, fin w6 (fun _ => False) ⟨some ⟨w5.heap.size, 0, none⟩, p.n + 1, c6, p.xs ++ [(i : Int)]⟩ x6 (fun j hj => hj.elim) (by rw [List.map_append]; exact ho) rfl rfl fun j hj => .inr (by rw [blk_some.1 hj.2]; exact Nat.le_refl _)⟩

/-- The lists that wait, none of them yet. -/
theorem order_zero (h1n : 1 ≤ n) (h17 : n ≤ 17) (hl : ds.length = n) (hmay : may ds) (hd0 : IInts W D n ds) (hb : IInts W B m ps) (ht : Rd Value.bool W T tn ts) (hm : m ≤ 250) {F : Nat → Prop} : ∀ (d i : Nat), n - i = d → i ≤ n → ∀ (w : World) (A : Option Addr) (c : Nat), Since W w q F (ds.map fresh) → WOk w A c (List.replicate i ⟨none, 0, 0, []⟩) → (∀ k, blk A k → W.heap.size ≤ k) → (∀ k, blk A k → ¬ F k) →
    law21_QueueOrder.L0 (Good W) D n dc B m bc T tn tc (some ⟨q, 0, none⟩) A i c i w := by
  intro d
  induction d with
  | zero =>
    intro i hd hi w A c S hw hA hF
    have : i = n := by omega
    subst this
    have no : ∀ k, wfp A (List.replicate i (⟨none, 0, 0, []⟩ : Part)) k → blk A k := by
      rintro k (hk | ⟨p, hp, hk⟩)
      · exact hk
      · rw [List.eq_of_mem_replicate hp] at hk
        exact absurd hk.1 (by show ¬ 0 < 0; omega)
    refine law21_QueueOrder.L0_step (ifP_no (by omega) (order_two h1n h17 hd0 hb ht hm m 0 rfl (by omega) w F _ _ ⟨S, hw, ⟨by rw [List.length_map, List.length_replicate]; exact hl, fun j C p hC hp => ?_⟩, fun k hk => hA k (no k hk), fun k hk => hF k (no k hk)⟩ (by rw [List.length_replicate]) ?_))
    · rw [List.getElem?_map] at hC
      cases hj : ds[j]? with
      | none => rw [hj] at hC; cases hC
      | some x =>
        rw [hj] at hC
        obtain rfl := Option.some.inj hC
        have hpe := List.eq_of_mem_replicate (List.mem_of_getElem? hp)
        rw [hpe]
        have := hmay.2.2 x (List.mem_of_getElem? hj)
        exact ⟨rfl, rfl, by show ((0 : Nat) : Int) ≤ x; omega, fun x hx => by cases hx⟩
    · have : drainL (ds.map fresh) = [] := by
        unfold drainL
        rw [List.flatMap_eq_nil_iff]
        intro C hC
        obtain ⟨x, _, rfl⟩ := List.mem_map.1 hC
        rfl
      rw [this]; exact Nat.le_refl _
  | succ d ih =>
    intro i hd hi w A c S hw hA hF
    refine law21_QueueOrder.L0_step (ifP_yes (by omega) (letA fun w1 h1 x1 s1 => ?_))
    have hB : RdC w1 (some (newA w)) [.slice none 0 0] := by
      have : Own 22 1 w1 (some (newA w)) 1 [.slice none 0 0] := .inr ⟨_, [], rfl, h1, rfl⟩
      exact this.cells
    obtain ⟨A', c', w2, hr, ho, hc', hk, hb2⟩ := append_own slIntLists (ty := 40) (n := i) (d := 1) (hw.own.ext x1) (by rw [List.length_map, List.length_replicate]; omega) hB (m := 1) rfl rfl (by omega) (by omega)
    have hw1 : IntKind.i64.wrap ((i : Int) + 1) = ((i + 1 : Nat) : Int) := wrap_i64 (by omega) (by omega)
    refine ⟨_, w2, hr, _, _, _, rfl, ?_⟩
    rw [hw1]
    refine ih (i + 1) (by omega) (by omega) w2 A' c' ((S.more x1).keepX hk (fun k hf hA2 => hF k hA2 hf) hA) ⟨?_, fun p hp => ?_, ?_⟩ (fun k hk2 => ?_) fun k hk2 hf => ?_
    · have : ((List.replicate (i + 1) (⟨none, 0, 0, []⟩ : Part)).map Part.v) = ((List.replicate i (⟨none, 0, 0, []⟩ : Part)).map Part.v) ++ [.slice none 0 0] := by
        rw [List.replicate_succ', List.map_append]; rfl
      rw [this]; exact ho
    · rw [List.eq_of_mem_replicate hp]
      exact ⟨.inl ⟨rfl, rfl⟩, rfl⟩
    · rw [List.pairwise_replicate]
      right
      intro k hk2
      exact absurd hk2.1 (by show ¬ 0 < 0; omega)
    · rcases hb2 k hk2 with h3 | h3
      · exact hA k h3
      · have := (S.more x1).ext.size; omega
    · rcases hb2 k hk2 with h3 | h3
      · exact hF k h3 hf
      · have := (S.more x1).lt k hf; omega

theorem QueueOrder_main (h : IInts W D n ds) (hn : n * 8 ≤ 140737488351232) (hb : IInts W B m ps) (ht : Rd Value.bool W T tn ts) : Run Try.prog 4 #[.slice D n dc, .slice B m bc, .slice T tn tc] W (Good W) := by
  have hl := h.len
  refine law21_QueueOrder.ok ((copyInts_spec h (by omega)).mono ?_)
  rintro v w1 ⟨A1, c1, rfl, o1, l1, b1, x1⟩
  refine ⟨_, _, _, rfl, (qnew_spec (o1.rd l1) (by omega)).mono ?_⟩
  have aw : ∀ {w : World} {J : Bool → World → Prop}, Fr W w → (∀ w', Fr W w' → J true w') → Run Try.prog 11 #[] w fun v w' => ∃ t : Bool, v = .bool t ∧ J t w' := by
    intro w J f hJ
    refine awake_spec.mono ?_
    rintro v w' ⟨rfl, x⟩
    exact ⟨_, rfl, hJ _ (f.ext x)⟩
  rintro v w2 (⟨hm, q, F, rfl, ok2, x2, f2⟩ | ⟨hm, rfl, x2⟩)
  · have S2 : Since W w2 q F (ds.map fresh) := ⟨ok2, x1.trans x2, fun k hk => by have := f2 k hk; have := x1.size; omega⟩
    refine ⟨_, _, rfl, ifP_bne.2 ⟨fun h => absurd rfl h, fun _ => ifP_f rfl ?_⟩⟩
    by_cases hbig : (m : Int) > 250
    · rw [decide_eq_true hbig]
      exact ifP_t rfl (ifP_bne.2 ⟨fun h => absurd rfl h, fun _ => ifP_yes hbig (aw (Fr.of_ext S2.ext) fun w' f => ⟨rfl, f⟩)⟩)
    · rw [decide_eq_false hbig]
      exact ifP_f rfl (order_zero (by have := hm.1; omega) (by have := hm.2.1; omega) hl hm h hb ht (by omega) n 0 rfl (by omega) w2 none 0 S2 ⟨.inl ⟨rfl, rfl, rfl⟩, fun p hp => (by cases hp), .nil⟩ (fun k hk => absurd hk blk_none) fun k hk => absurd hk blk_none)
  · refine ⟨_, _, rfl, ifP_bne.2 ⟨fun _ => ifP_t rfl (ifP_bne.2 ⟨fun _ => ifP_t rfl (aw (Fr.of_ext (x1.trans x2)) fun w' f => ifP_t rfl ⟨rfl, f⟩), fun h => by cases h⟩), fun h => by cases h⟩⟩
end
end Go.Proofs.Ythhfipjmjnfjlaa
