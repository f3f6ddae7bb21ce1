/- The statement over what a program is that is taken. -/
import Derived.Test.YtkkfdpmjockelaaC4
import Derived.Test.YtkkfdpmjockelaaV2
namespace Go.Proofs.Ytkkfdpmjockelaa
open Go.Rd Go.RowKit
set_option linter.unusedVariables false
set_option linter.unusedSimpArgs false

theorem fault_words {x : Ins} (h : faultOf x = 0) (hc : x.c ∈ wordsL) : x.k ≤ 15 := by
  unfold faultOf at h
  split at h
  · split at h
    · cases h
    · rename_i h1
      have : ¬ 16 ≤ x.k := fun h2 => h1 ⟨hc, h2⟩
      omega
  · cases h
theorem fault_zero {x : Ins} (h : faultOf x = 0) (hc : x.c = 52 ∨ x.c = 148) : x.k ≠ 0 := by
  unfold faultOf at h
  split at h
  · split at h
    · cases h
    · split at h
      · cases h
      · rename_i h1
        exact fun h2 => h1 ⟨hc, h2⟩
  · cases h
theorem fault_known {x : Ins} (h : faultOf x = 0) : isKnown x.c = true := by
  unfold faultOf at h
  split at h
  · assumption
  · cases h

theorem CheckSafe_main {W : World} {A : Option Addr} {n c : Nat} {xs : List Ins} (h : IInsns W A n xs) (hi : Inss xs) (hn : n * 8 ≤ 140737488351232) :
    Run Try.prog 5 #[.slice A n c] W (Good W) := by
  have hl := h.len
  have hr := check_range (xs := xs)
  refine law4_CheckSafe.ok ((copyInsns_spec h (by omega)).mono ?_)
  rintro v w1 ⟨A1, c1, rfl, o1, l1, b1, x1⟩
  have f1 := Fr.of_ext x1
  refine ⟨_, _, _, rfl, (check_spec (o1.rdM l1) hi (by omega)).mono ?_⟩
  rintro v w2 ⟨rfl, x2⟩
  have f2 := f1.ext x2
  refine ⟨_, _, rfl, ifP_bne.2 ⟨fun _ => ?_, fun e1 => ?_⟩⟩
  · have hm : (4096 : Int) ≤ maxI ((n : Nat) : Int) 4096 := by unfold maxI; split <;> omega
    have t1 : decide ((checkV xs).1 ≥ 0) = true := decide_eq_true hr.1
    have t2 : decide ((checkV xs).1 ≤ maxI ((n : Nat) : Int) 4096) = true := decide_eq_true (Int.le_trans hr.2 hm)
    rw [t1, t2]
    refine ifP_t rfl (ifP_t rfl (awake_spec.mono ?_))
    rintro v w3 ⟨rfl, x3⟩
    exact ⟨_, rfl, rfl, f2.ext x3⟩
  obtain ⟨T, e0⟩ := taken_of e1
  have hp := T.pos
  have hle := T.le
  rw [e0]
  refine ifP_neq (by omega) (ifP_no (by omega) ?_)
  obtain ⟨a, x, rfl, hx, hc⟩ := IInsns.at4 (h.fr f2) (i := n - 1) (by omega)
  have el : Int.toNat ((n : Int) - 1) = n - 1 := by omega
  rw [wrap_i64 (x := (n : Int) - 1) (by omega) (by omega)]
  refine ⟨by omega, by omega, a, rfl, x.c, by rw [el]; exact hc.c, rReturn_spec.mono ?_⟩
  rintro v w3 ⟨rfl, rfl⟩
  have h6 := T.last (x := x) (by rw [hl]; exact hx)
  refine ⟨_, rfl, ?_⟩
  rw [decide_eq_true h6]
  refine ifP_f rfl ?_
  have loop : ∀ (d i : Nat), n - i = d → i ≤ n → ∀ w, Fr W w → law4_CheckSafe.L0 (Good W) (some a) n c 0 n i w := by
    intro d
    induction d with
    | zero =>
      intro i hd hi w f
      refine law4_CheckSafe.L0_step (ifP_no (by omega) (ifP_eq rfl (awake_spec.mono ?_)))
      rintro v w4 ⟨rfl, x4⟩
      exact ⟨_, rfl, rfl, f.ext x4⟩
    | succ d ih =>
      intro i hd hi' w f
      obtain ⟨b, x, hb, hx, hc⟩ := IInsns.at4 (h.fr f) (i := i) (by omega)
      obtain rfl := Option.some.inj hb
      obtain ⟨oc, ot, of, ok⟩ := hi x (List.mem_of_getElem? hx)
      obtain ⟨hf0, hj0⟩ := T.at_ i x hx
      have at4 : ∀ {w' : World}, Fr W w' → At4 w' (a.add (i * 4)) x := by
        intro w' f'
        obtain ⟨b2, y, hb2, hy, hc2⟩ := IInsns.at4 (h.fr f') (i := i) (by omega)
        obtain rfl := Option.some.inj hb2
        rw [hx] at hy
        obtain rfl := Option.some.inj hy
        exact hc2
      have j7 : ∀ w', Fr W w' → law4_CheckSafe.J9 (Good W) (some a) n c 0 n i false w' := by
        intro w' f'
        refine ifP_f rfl ?_
        rw [wrap_i64 (by omega) (by omega)]
        exact ih (i + 1) (by omega) (by omega) w' f'
      have j6 : ∀ (far : Int) (words zero jumps : Bool) (w' : World), Fr W w' → (jumps = true → i ≠ n - 1 ∧ far ≤ (n : Int) - 2 - i) → (words = true → x.k ≤ 15) → (zero = true → x.k ≠ 0) →
          law4_CheckSafe.J8 (Good W) (some a) n c 0 n i x.c far words zero jumps w' := by
        intro far words zero jumps w' f' hjmp hw hz
        have c2 := at4 f'
        refine rKnown_spec.mono ?_
        rintro v w4 ⟨rfl, rfl⟩
        have kn : decide (x.c ∈ rKnownL ++ (rJumpL ++ rOperationL)) = true := by
          have := fault_known hf0
          rw [known_eq] at this
          exact this
        have zz : ifP zero (0 ≤ (i : Int) ∧ (i : Int) < ((n : Nat) : Int) ∧ ∃ t144p : Addr, some a = some t144p ∧ ∃ t146 : Int, w4.cell? ((t144p.add (Int.toNat i * 4)).add 3) = some (.int .u32 t146) ∧ law4_CheckSafe.J9 (Good W) (some a) n c 0 n i ((t146 : Int) == 0) w4) (law4_CheckSafe.J9 (Good W) (some a) n c 0 n i false w4) := by
          refine ifP_of (fun hzt => ⟨by omega, by omega, a, rfl, _, c2.k, ?_⟩) fun _ => j7 w4 f'
          rw [beq_eq_false_iff_ne.2 (hz hzt)]
          exact j7 w4 f'
        have ww : ifP words (0 ≤ (i : Int) ∧ (i : Int) < ((n : Nat) : Int) ∧ ∃ t133p : Addr, some a = some t133p ∧ ∃ t135 : Int, w4.cell? ((t133p.add (Int.toNat i * 4)).add 3) = some (.int .u32 t135) ∧ ifP (decide ((t135 : Int) > 15)) (law4_CheckSafe.J9 (Good W) (some a) n c 0 n i true w4)
            (ifP zero (0 ≤ (i : Int) ∧ (i : Int) < ((n : Nat) : Int) ∧ ∃ t144p : Addr, some a = some t144p ∧ ∃ t146 : Int, w4.cell? ((t144p.add (Int.toNat i * 4)).add 3) = some (.int .u32 t146) ∧ law4_CheckSafe.J9 (Good W) (some a) n c 0 n i ((t146 : Int) == 0) w4) (law4_CheckSafe.J9 (Good W) (some a) n c 0 n i false w4)))
            (ifP zero (0 ≤ (i : Int) ∧ (i : Int) < ((n : Nat) : Int) ∧ ∃ t144p : Addr, some a = some t144p ∧ ∃ t146 : Int, w4.cell? ((t144p.add (Int.toNat i * 4)).add 3) = some (.int .u32 t146) ∧ law4_CheckSafe.J9 (Good W) (some a) n c 0 n i ((t146 : Int) == 0) w4) (law4_CheckSafe.J9 (Good W) (some a) n c 0 n i false w4)) := by
          refine ifP_of (fun hwt => ⟨by omega, by omega, a, rfl, _, c2.k, ?_⟩) fun _ => zz
          have := hw hwt
          exact ifP_no (by omega) zz
        refine ⟨_, rfl, ?_⟩
        rw [kn]
        refine ifP_f rfl ?_
        rw [wrap_i64 (x := (n : Int) - 1) (by omega) (by omega)]
        refine ifP_of (fun hjt => ?_) fun _ => ww
        obtain ⟨g1, g2⟩ := hjmp hjt
        refine ifP_neq (by omega) ?_
        rw [wrap_i64 (x := (n : Int) - 2) (by omega) (by omega), wrap_i64 (x := (n : Int) - 2 - i) (by omega) (by omega), wrap_u32 (x := (n : Int) - 2 - i) (by omega) (by omega)]
        exact ifP_no (by omega) ww
      have j5 : ∀ (far : Int) (words zero : Bool) (w' : World), Fr W w' → (classOf x.c = 5 → i ≠ n - 1 ∧ far ≤ (n : Int) - 2 - i) → (words = true → x.k ≤ 15) → (zero = true → x.k ≠ 0) →
          law4_CheckSafe.J7 (Good W) (some a) n c 0 n i x.c far words zero w' := by
        intro far words zero w' f' hjmp hw hz
        refine ifP_beq.2 ⟨fun h5 => j6 _ _ _ _ _ f' (fun _ => hjmp ((jmp_iff _).2 (.inl h5))) hw hz, fun h5 => rJump_spec.mono ?_⟩
        rintro v w4 ⟨rfl, rfl⟩
        exact ⟨_, rfl, j6 _ _ _ _ _ f' (fun hj => hjmp ((jmp_iff _).2 (.inr (of_decide_eq_true hj)))) hw hz⟩
      have j4 : ∀ (far : Int) (words : Bool) (w' : World), Fr W w' → (classOf x.c = 5 → i ≠ n - 1 ∧ far ≤ (n : Int) - 2 - i) → (words = true → x.k ≤ 15) →
          law4_CheckSafe.J6 (Good W) (some a) n c 0 n i x.c far words w' := by
        intro far words w' f' hjmp hw
        refine ifP_beq.2 ⟨fun h5 => j5 _ _ _ _ f' hjmp hw fun _ => fault_zero hf0 (.inl h5), fun h5 => j5 _ _ _ _ f' hjmp hw fun h6 => fault_zero hf0 (.inr (beq_iff_eq.1 h6))⟩
      have j3 : ∀ (far : Int) (w' : World), Fr W w' → (classOf x.c = 5 → i ≠ n - 1 ∧ far ≤ (n : Int) - 2 - i) → law4_CheckSafe.J5 (Good W) (some a) n c 0 n i x.c far w' := by
        intro far w' f' hjmp
        have mem : x.c = 2 ∨ x.c = 3 ∨ x.c = 96 ∨ x.c = 97 → x.k ≤ 15 := fun h => fault_words hf0 (by simpa [wordsL] using h)
        refine ifP_beq.2 ⟨fun h1 => j4 _ _ _ f' hjmp fun _ => mem (.inl h1), fun _ => ifP_beq.2 ⟨fun h1 => j4 _ _ _ f' hjmp fun _ => mem (.inr (.inl h1)), fun _ => ifP_beq.2 ⟨fun h1 => j4 _ _ _ f' hjmp fun _ => mem (.inr (.inr (.inl h1))), fun _ => j4 _ _ _ f' hjmp fun h1 => mem (.inr (.inr (.inr (beq_iff_eq.1 h1))))⟩⟩⟩
      have notlast : classOf x.c = 5 → i ≠ n - 1 := fun h5 he => by
        have := T.next (k := i) hx (by rw [h5]; decide)
        omega
      have j2 : ∀ (far : Int) (w' : World), Fr W w' → (x.c = 5 → far = x.k) → (x.c ≠ 5 → far = 0) → law4_CheckSafe.J4 (Good W) (some a) n c 0 n i x.c far w' := by
        intro far w' f' hf hg
        refine rJump_spec.mono ?_
        rintro v w4 ⟨rfl, rfl⟩
        refine ⟨_, rfl, ifP_decide.2 ⟨fun hj => letD fun w5 hh5 x5 => ?_, fun hj => j3 _ _ f' fun h5 => ⟨notlast h5, ?_⟩⟩⟩
        · have f5 := f'.ext x5
          have c5 := at4 f5
          have hcl := (jmp_iff x.c).2 (.inr hj)
          have hg := T.goal hx hcl
          have hc5 : x.c ≠ 5 := fun h => by rw [h] at hj; revert hj; decide
          rw [if_neg hc5] at hg
          refine ⟨by omega, by omega, a, rfl, _, c5.t, by omega, by omega, a, rfl, _, c5.f, j3 _ _ f5 fun h5 => ⟨notlast h5, ?_⟩⟩
          have : maxI x.t x.f = x.t ∨ maxI x.t x.f = x.f := by unfold maxI; split <;> simp
          rw [wrap_u32 (by rcases this with h | h <;> omega) (by rcases this with h | h <;> omega)]
          rcases this with h | h <;> omega
        · have hg := T.goal hx h5
          rcases (jmp_iff x.c).1 h5 with h | h
          · rw [if_pos h] at hg
            rw [hf h]
            omega
          · exact absurd h hj
      refine law4_CheckSafe.L0_step (ifP_yes (by omega) ⟨by omega, by omega, a, rfl, _, hc.c, ifP_beq.2 ⟨fun h5 => ⟨by omega, by omega, a, rfl, _, hc.k, j2 _ _ f (fun _ => rfl) fun h => absurd h5 h⟩, fun h5 => j2 _ _ f (fun h => absurd h h5) fun _ => rfl⟩⟩)
  exact loop n 0 (by omega) (by omega) w3 f2
end Go.Proofs.Ytkkfdpmjockelaa
