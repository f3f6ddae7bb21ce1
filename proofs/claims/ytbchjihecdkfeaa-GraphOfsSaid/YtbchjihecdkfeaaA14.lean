/- The document's Of. -/
import Derived.Test.YtbchjihecdkfeaaA5
import Derived.Test.YtbchjihecdkfeaaA10
namespace Go.Proofs.Ytbchjihecdkfeaa
open Go.Rd Go.RowKit
set_option linter.unusedVariables false
set_option linter.unusedSimpArgs false
set_option maxRecDepth 100000
theorem take_drop_succ {xs : List Ins} {a i : Nat} {x : Ins} (ha : a ≤ i) (hi : xs[i]? = some x) : (xs.take (i + 1)).drop a = (xs.take i).drop a ++ [x] := by
  have hlt := (List.getElem?_eq_some_iff.1 hi).1
  rw [List.take_add_one, hi, List.drop_append_of_le_length (by rw [List.length_take]; omega)]
  rfl
theorem endN_eq {xs : List Ins} {a e : Nat} (ha : a < e) (he : e ≤ xs.length) (hl : leadB xs e = true ∨ e = xs.length) (hn : ∀ j, a < j → j < e → leadB xs j = false) : endN xs a = e := by
  obtain ⟨h1, h2⟩ := endN_gt (xs := xs) (a := a) (by omega)
  have n1 : ∀ j, a + 1 ≤ j → j < endN xs a → leadB xs j = false := fun j => nextLead_none (xs.length - (a + 1)) (a + 1) j
  have n2 : endN xs a < a + 1 + (xs.length - (a + 1)) → leadB xs (endN xs a) = true := nextLead_at (xs := xs) (xs.length - (a + 1)) (a + 1)
  by_cases c1 : endN xs a < e
  · have := n2 (by omega)
    rw [hn _ h1 c1] at this
    cases this
  · by_cases c2 : e < endN xs a
    · rcases hl with hl | hl
      · rw [n1 e (by omega) c2] at hl
        cases hl
      · omega
    · omega
section
variable {w : World} {A N : Option Addr} {n c nc : Nat} {xs : List Ins} {i : Ins}
theorem rbegins_spec (hx : IInsns w A n xs) (hok : Inss xs) (T : Taken xs) : Run Try.prog 55 #[.slice A n c] w fun v w' => ∃ L, v = .slice L (n + 1) (n + 1) ∧ OBools w' L (n + 1) (leadL xs) ∧ (∀ k, blk L k → w.heap.size ≤ k) ∧ Go.Rd.Ext w w' := by
  have hl := hx.len
  have hle := T.le
  subst hl
  have e1 : IntKind.i64.wrap (((xs.length : Nat) : Int) + 1) = ((xs.length + 1 : Nat) : Int) := by rw [wrap_i64 (by omega) (by omega)]; rfl
  refine ref15_begins.ok ?_
  rw [ref15_begins.vc, e1]
  refine made_boolsN (n := xs.length + 1) (by omega) rfl fun L w1 o1 b1 x1 => ?_
  refine ⟨_, _, _, rfl, by omega, by omega, put_true (t := 0) o1 rfl (by simp) fun w2 o2 k2 => ?_⟩
  have x2 : Go.Rd.Ext w w2 := x1.fresh k2 b1
  suffices H : ∀ (d k : Nat), xs.length - k = d → k ≤ xs.length → ∀ (w' : World) (o : List Bool), LeadsAt xs k o → OBools w' L (xs.length + 1) o → Go.Rd.Ext w w' →
      ref15_begins.L0 (fun v w' => ∃ L, v = .slice L (xs.length + 1) (xs.length + 1) ∧ OBools w' L (xs.length + 1) (leadL xs) ∧ (∀ k, blk L k → w.heap.size ≤ k) ∧ Go.Rd.Ext w w') A xs.length c L (xs.length + 1) (xs.length + 1) (k : Int) w' from H xs.length 0 (by omega) (by omega) w2 _ leads_start o2 x2
  intro d
  induction d with
  | zero =>
    intro k hd hk w' o hL ho x
    obtain rfl : k = xs.length := by omega
    refine ref15_begins.L0_step (ifP_no (by omega) ⟨L, rfl, ?_, b1, x⟩)
    rw [← hL.done]
    exact ho
  | succ d ih =>
    intro k hd hk w' o hL ho x
    have hkn : k < xs.length := by omega
    obtain ⟨q, i, hq, hi, h4⟩ := IInsns.at4 (RdM.ext hx x) (i := k) hkn
    have hio : i.ok := hok i (List.mem_of_getElem? hi)
    obtain ⟨_, ⟨t0, t1⟩, ⟨f0, f1⟩, kk0, kk1⟩ := hio
    have ht : Int.toNat ((k : Nat) : Int) = k := Int.toNat_natCast k
    have ew : IntKind.i64.wrap (((k : Nat) : Int) + 1) = ((k + 1 : Nat) : Int) := wrap_i64 (by omega) (by omega)
    have ol := hL.1
    have next : ∀ (w3 : World) (o' : List Bool), OBools w3 L (xs.length + 1) o' → Go.Rd.Ext w w3 → o'.length = xs.length + 1 → (∀ j, o'[j]? = some true ↔ (o[j]? = some true ∨ j ≤ xs.length ∧ LeadBy i k j)) →
        ref15_begins.J2 (fun v w' => ∃ L, v = .slice L (xs.length + 1) (xs.length + 1) ∧ OBools w' L (xs.length + 1) (leadL xs) ∧ (∀ k, blk L k → w.heap.size ≤ k) ∧ Go.Rd.Ext w w') A xs.length c L (xs.length + 1) (xs.length + 1) (k : Int) w3 := by
      intro w3 o' ho' x3 hl' h'
      unfold ref15_begins.J2
      rw [ew]
      exact ih (k + 1) (by omega) (by omega) w3 o' (hL.step hi hl' h') ho' x3
    -- behind the goals
    have j0 : ∀ (w3 : World) (o3 : List Bool), OBools w3 L (xs.length + 1) o3 → Go.Rd.Ext w w3 → o3.length = xs.length + 1 → (∀ j : Nat, o3[j]? = some true ↔ (o[j]? = some true ∨ j ≤ xs.length ∧ ((i.c = 5 ∧ j = k + 1 + i.k.toNat) ∨ (classOf i.c = 5 ∧ i.c ≠ 5 ∧ (j = k + 1 + i.t.toNat ∨ j = k + 1 + i.f.toNat))))) →
        ref15_begins.J0 (fun v w' => ∃ L, v = .slice L (xs.length + 1) (xs.length + 1) ∧ OBools w' L (xs.length + 1) (leadL xs) ∧ (∀ k, blk L k → w.heap.size ≤ k) ∧ Go.Rd.Ext w w') A xs.length c L (xs.length + 1) (xs.length + 1) (k : Int) i.c w3 := by
      intro w3 o3 ho3 x3 hl3 h3
      have yes : (classOf i.c = 5 ∨ classOf i.c = 6) → ∀ (w4 : World), Go.Rd.Ext w3 w4 → ref15_begins.J1 (fun v w' => ∃ L, v = .slice L (xs.length + 1) (xs.length + 1) ∧ OBools w' L (xs.length + 1) (leadL xs) ∧ (∀ k, blk L k → w.heap.size ≤ k) ∧ Go.Rd.Ext w w') A xs.length c L (xs.length + 1) (xs.length + 1) (k : Int) true w4 := by
        intro hcl w4 x4
        refine ifP_t rfl ?_
        rw [ew]
        refine ⟨by omega, by omega, put_true (t := k + 1) (ho3.ext x4) rfl (by omega) fun w5 o5 k5 => next w5 _ o5 ((x3.trans x4).fresh k5 b1) (by rw [set_length]; exact hl3) fun j => ?_⟩
        rw [set_true (by omega), h3 j]
        unfold LeadBy
        constructor
        · rintro ((h | ⟨hj, h | h⟩) | rfl)
          · exact .inl h
          · exact .inr ⟨hj, .inr (.inl h)⟩
          · exact .inr ⟨hj, .inr (.inr h)⟩
          · exact .inr ⟨by omega, .inl ⟨hcl, rfl⟩⟩
        · rintro (h | ⟨hj, ⟨_, h⟩ | h | h⟩)
          · exact .inl (.inl h)
          · exact .inr h
          · exact .inl (.inr ⟨hj, .inl h⟩)
          · exact .inl (.inr ⟨hj, .inr h⟩)
      refine rClass_spec.mono ?_
      rintro v w4 ⟨rfl, rfl⟩
      rw [← class_eq]
      refine ⟨_, rfl, ifP_beq.2 ⟨fun h5 => yes (.inl h5) _ (Go.Rd.Ext.refl _), fun h5 => rReturn_spec.mono ?_⟩⟩
      rintro v w5 ⟨rfl, rfl⟩
      refine ⟨_, rfl, ?_⟩
      by_cases h6 : classOf i.c = 6
      · rw [decide_eq_true h6]
        exact yes (.inr h6) _ (Go.Rd.Ext.refl _)
      · rw [decide_eq_false h6]
        refine ifP_f rfl (next _ o3 ho3 x3 hl3 fun j => ?_)
        rw [h3 j]
        have c5 : i.c ≠ 5 := fun h => h5 (by rw [h]; rfl)
        unfold LeadBy
        constructor
        · rintro (h | ⟨hj, ⟨h, _⟩ | ⟨h, _⟩⟩)
          · exact .inl h
          · exact absurd h c5
          · exact absurd h h5
        · rintro (h | ⟨hj, ⟨h, _⟩ | ⟨h, _⟩ | ⟨h, _⟩⟩)
          · exact .inl h
          · exact absurd h (by rintro (h | h); exact h5 h; exact h6 h)
          · exact absurd h c5
          · exact absurd h h5
    refine ref15_begins.L0_step (ifP_yes (by omega) ⟨by omega, by omega, q, hq, ?_⟩)
    rw [ht, ew]
    refine ⟨_, h4.c, ifP_beq.2 ⟨fun c5 => ?_, fun c5 => rJump_spec.mono ?_⟩⟩
    · have h5 : classOf i.c = 5 := by rw [c5]; rfl
      have hg := T.goal hi h5
      rw [if_pos c5] at hg
      refine ⟨by omega, by omega, q, hq, _, h4.k, ?_⟩
      rw [wrap_i64 (x := i.k) (by omega) (by omega), wrap_i64 (by omega) (by omega)]
      refine ⟨by omega, by omega, put_true (t := k + 1 + i.k.toNat) ho (by omega) (by omega) fun w3 o3 k3 => j0 w3 _ o3 (x.fresh k3 b1) (by rw [set_length]; exact ol) fun j => ?_⟩
      rw [set_true (by omega)]
      constructor
      · rintro (h | rfl)
        · exact .inl h
        · exact .inr ⟨by omega, .inl ⟨c5, rfl⟩⟩
      · rintro (h | ⟨_, ⟨_, h⟩ | ⟨_, h, _⟩⟩)
        · exact .inl h
        · exact .inr h
        · exact absurd c5 h
    rintro v w3 ⟨rfl, rfl⟩
    refine ⟨_, rfl, ifP_of (fun hj => ?_) fun hj => ?_⟩
    · have h5 : classOf i.c = 5 := (jmp_iff i.c).2 (.inr (of_decide_eq_true hj))
      have hg := T.goal hi h5
      rw [if_neg c5] at hg
      refine ⟨by omega, by omega, q, hq, _, h4.t, ?_⟩
      rw [wrap_i64 (x := i.t) (by omega) (by omega), wrap_i64 (x := ((k + 1 : Nat) : Int) + i.t) (by omega) (by omega)]
      refine ⟨by omega, by omega, put_true (t := k + 1 + i.t.toNat) ho (by omega) (by omega) fun w4 o4 k4 => ?_⟩
      have x4 : Go.Rd.Ext w w4 := x.fresh k4 b1
      obtain ⟨q', i', hq', hi', h4'⟩ := IInsns.at4 (RdM.ext hx x4) (i := k) hkn
      obtain rfl : i' = i := by rw [hi] at hi'; exact (Option.some.inj hi').symm
      refine ⟨by omega, by omega, q', hq', _, h4'.f, ?_⟩
      rw [wrap_i64 (x := i'.f) (by omega) (by omega), wrap_i64 (x := ((k + 1 : Nat) : Int) + i'.f) (by omega) (by omega)]
      refine ⟨by omega, by omega, put_true (t := k + 1 + i'.f.toNat) o4 (by omega) (by rw [set_length]; omega) fun w5 o5 k5 => j0 w5 _ o5 (x4.fresh k5 b1) (by rw [set_length, set_length]; exact ol) fun j => ?_⟩
      rw [set_true (by rw [set_length]; omega), set_true (by omega)]
      constructor
      · rintro ((h | rfl) | rfl)
        · exact .inl h
        · exact .inr ⟨by omega, .inr ⟨h5, c5, .inl rfl⟩⟩
        · exact .inr ⟨by omega, .inr ⟨h5, c5, .inr rfl⟩⟩
      · rintro (h | ⟨_, ⟨h, _⟩ | ⟨_, _, h | h⟩⟩)
        · exact .inl (.inl h)
        · exact absurd h c5
        · exact .inl (.inr h)
        · exact .inr h
    · have hj := of_decide_eq_false hj
      refine j0 _ o ho x ol fun j => ?_
      constructor
      · exact .inl
      · rintro (h | ⟨_, ⟨h, _⟩ | ⟨h, _⟩⟩)
        · exact h
        · exact absurd h c5
        · exact absurd ((jmp_iff i.c).1 h) (by rintro (h | h); exact c5 h; exact hj h)
theorem rlast_spec : Run Try.prog 58 #[.agg #[.int .u16 i.c, .int .u8 i.t, .int .u8 i.f, .int .u32 i.k]] w fun v w' => v = .agg #[.int .u16 (plainI i).c, .int .u8 (plainI i).t, .int .u8 (plainI i).f, .int .u32 (plainI i).k] ∧ Go.Rd.Ext w w' := by
  refine ref15_last.ok (letA fun w1 h1 x1 s1 => letA fun w2 h2 x2 s2 => ?_)
  have i2 : IAt w2 w.heap.size i := x2.heap h1
  refine ⟨_, i2.c0, rUses_spec.mono ?_⟩
  rintro v w3 ⟨rfl, rfl⟩
  rw [← uses_eq]
  have hb := heap_lt h1
  refine ⟨_, _, _, rfl, cell_put i2 (show 1 < 4 by decide) (by rw [newA, add_mk]) fun w4 h4 k4 => cell_put h4 (show 2 < 4 by decide) (by rw [newA, add_mk]) fun w5 h5 k5 => ?_⟩
  have k35 := k4.trans' k5
  have t5 := k35.heap h2 (by omega)
  have j0 : ∀ (w6 : World), IAt w6 w.heap.size (plainI i) → w6.heap[w1.heap.size]? = some (.cells #[.int .u16 0, .int .u8 0, .int .u8 0, .int .u32 0] 47 (0, 0)) → Go.Rd.Ext w w6 → ref15_last.J0 (fun v w' => v = .agg #[.int .u16 (plainI i).c, .int .u8 (plainI i).t, .int .u8 (plainI i).f, .int .u32 (plainI i).k] ∧ Go.Rd.Ext w w') (newA w) (newA w1) w6 := by
    intro w6 h6 t6 x6
    refine IAt.rd h6 (storeRow_block t6 (show 0 + 0 + 4 ≤ 4 by decide) rfl fun w7 h7 k7 _ => ?_)
    rw [setFrom_all [.int .u16 0, .int .u8 0, .int .u8 0, .int .u32 0] [.int .u16 (plainI i).c, .int .u8 (plainI i).t, .int .u8 (plainI i).f, .int .u32 (plainI i).k] rfl] at h7
    have h7 : IAt w7 w1.heap.size (plainI i) := h7
    exact IAt.rd h7 ⟨rfl, x6.fresh k7 fun j hj => by rw [hj]; exact x1.size⟩
  have x02 := x1.trans x2
  refine ifP_not.2 (ifP_of (fun hk => ?_) fun hk => ?_)
  · refine j0 w5 ?_ t5 (x02.fresh k35 fun j hj => by rw [hj]; exact Nat.le_refl _)
    have hp : plainI i = ⟨i.c, 0, 0, i.k⟩ := by rw [plainI, if_pos hk]
    rw [hp]
    exact h5
  · refine cell_put h5 (show 3 < 4 by decide) (by rw [newA, add_mk]) fun w6 h6 k6 => j0 w6 ?_ (k6.heap t5 (by omega)) (x02.fresh (k35.trans' k6) fun j hj => by rw [hj]; exact Nat.le_refl _)
    have hp : plainI i = ⟨i.c, 0, 0, 0⟩ := by rw [plainI, if_neg (by rw [hk]; decide)]
    rw [hp]
    exact h6
end
end Go.Proofs.Ytbchjihecdkfeaa
