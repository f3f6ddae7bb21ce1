/- Package check: Reach; the document's too. -/
import Derived.Test.YtllooifbiapeoaaCK2
import Derived.Test.YtllooifbiapeoaaM7
import Derived.Test.YtllooifbiapeoaaHBools
namespace Go.Proofs.Ytllooifbiapeoaa
open Go.Rd Go.RowKit
set_option linter.unusedVariables false
set_option linter.unusedSimpArgs false

/-! ## Laws of Check -/

theorem wrongFrom_none {n : Int} : ∀ {xs : List Ins} {a : Int}, wrongFrom n a xs = none → ∀ (k : Nat) (x : Ins), xs[k]? = some x → wrongAt n (a + k) x = 0
  | [], a, h, k, x, hx => by simp at hx
  | i :: r, a, h, k, x, hx => by
    simp only [wrongFrom] at h
    split at h
    · cases h
    · rename_i h0
      cases k with
      | zero =>
        obtain rfl : i = x := by simpa using hx
        have : a + ((0 : Nat) : Int) = a := by omega
        rw [this]
        exact Classical.not_not.1 h0
      | succ k =>
        have := wrongFrom_none h k x (by simpa using hx)
        rwa [show a + ((k + 1 : Nat) : Int) = a + 1 + k by omega]
theorem wrongFrom_of {n : Int} : ∀ {xs : List Ins} {a : Int}, (∀ (k : Nat) (x : Ins), xs[k]? = some x → wrongAt n (a + k) x = 0) → wrongFrom n a xs = none
  | [], a, h => rfl
  | i :: r, a, h => by
    have h0 := h 0 i rfl
    rw [show a + ((0 : Nat) : Int) = a by omega] at h0
    simp only [wrongFrom]
    rw [if_neg (by rw [h0]; decide)]
    refine wrongFrom_of fun k x hx => ?_
    have := h (k + 1) x (by simpa using hx)
    rwa [show a + ((k + 1 : Nat) : Int) = a + 1 + k by omega] at this
theorem wrongFrom_some {n : Int} : ∀ {xs : List Ins} {a : Int} {k : Nat} {x : Ins}, xs[k]? = some x → wrongAt n (a + k) x ≠ 0 → (∀ (j : Nat) (y : Ins), j < k → xs[j]? = some y → wrongAt n (a + j) y = 0) →
    wrongFrom n a xs = some (a + k, wrongAt n (a + k) x)
  | [], a, k, x, hx, _, _ => by simp at hx
  | i :: r, a, k, x, hx, hw, h => by
    simp only [wrongFrom]
    cases k with
    | zero =>
      obtain rfl : i = x := by simpa using hx
      rw [show a + ((0 : Nat) : Int) = a by omega] at hw ⊢
      rw [if_pos hw]
    | succ k =>
      have h0 := h 0 i (by omega) rfl
      rw [show a + ((0 : Nat) : Int) = a by omega] at h0
      rw [if_neg (by rw [h0]; decide)]
      rw [show a + ((k + 1 : Nat) : Int) = a + 1 + k by omega] at hw ⊢
      exact wrongFrom_some (by simpa using hx) hw fun j y hj hy => by
        have := h (j + 1) y (by omega) (by simpa using hy)
        rwa [show a + ((j + 1 : Nat) : Int) = a + 1 + j by omega] at this
theorem wrongFrom_code {n : Int} : ∀ {xs : List Ins} {a : Int} {p : Int × Int}, wrongFrom n a xs = some p → p.2 ≠ 0 ∧ a ≤ p.1 ∧ p.1 < a + xs.length
  | [], a, p, h => by cases h
  | i :: r, a, p, h => by
    simp only [wrongFrom] at h
    split at h
    · rename_i h0
      obtain rfl := Option.some.inj h
      exact ⟨h0, by omega, by simp only [List.length_cons]; omega⟩
    · have := wrongFrom_code h
      simp only [List.length_cons]
      omega

/-- What it means that a program is taken. -/
structure Taken (xs : List Ins) : Prop where
  pos : 0 < xs.length
  le : xs.length ≤ 4096
  at_ : ∀ (k : Nat) (x : Ins), xs[k]? = some x → faultOf x = 0 ∧ jumpBad x ((xs.length : Int) - 1 - k) = false
  ret : endsRet xs = true

theorem wrongAt_zero {n a : Int} {x : Ins} (h : wrongAt n a x = 0) : faultOf x = 0 ∧ jumpBad x (n - 1 - a) = false := by
  unfold wrongAt at h
  split at h
  · contradiction
  · rename_i h0
    refine ⟨Classical.not_not.1 h0, ?_⟩
    split at h
    · cases h
    · rename_i hj; simpa using hj
theorem wrongAt_of {n a : Int} {x : Ins} (h : faultOf x = 0) (hj : jumpBad x (n - 1 - a) = false) : wrongAt n a x = 0 := by
  unfold wrongAt
  rw [if_neg (by rw [h]; decide), if_neg (by rw [hj]; decide)]

theorem taken_of {xs : List Ins} (h : (checkV xs).2 = 0) : Taken xs ∧ (checkV xs).1 = 0 := by
  unfold checkV at h ⊢
  split at h
  · cases h
  · rename_i h0
    split at h
    · cases h
    · rename_i h1
      rw [if_neg h0, if_neg h1]
      cases hw : wrongFrom xs.length 0 xs with
      | some p =>
        rw [hw] at h
        exact absurd h (wrongFrom_code hw).1
      | none =>
        rw [hw] at h
        simp only [] at h ⊢
        split at h
        · rename_i hr
          rw [if_pos hr]
          refine ⟨⟨by omega, by omega, fun k x hx => wrongAt_zero ?_, hr⟩, rfl⟩
          have := wrongFrom_none hw k x hx
          rwa [Int.zero_add] at this
        · cases h
theorem Taken.check {xs : List Ins} (h : Taken xs) : checkV xs = (0, 0) := by
  have h0 := h.pos
  have h1 := h.le
  unfold checkV
  rw [if_neg (by omega), if_neg (by omega), wrongFrom_of fun k x hx => by rw [Int.zero_add]; exact wrongAt_of (h.at_ k x hx).1 (h.at_ k x hx).2]
  simp only []
  rw [if_pos h.ret]
theorem check_range {xs : List Ins} : 0 ≤ (checkV xs).1 ∧ (checkV xs).1 ≤ 4096 := by
  unfold checkV
  split
  · exact ⟨by decide, by decide⟩
  · split
    · exact ⟨by decide, by decide⟩
    · cases hw : wrongFrom xs.length 0 xs with
      | some p =>
        have := wrongFrom_code hw
        show 0 ≤ p.1 ∧ p.1 ≤ 4096
        omega
      | none =>
        simp only []
        split
        · exact ⟨by decide, by decide⟩
        · show 0 ≤ (xs.length : Int) - 1 ∧ (xs.length : Int) - 1 ≤ 4096
          omega
theorem Taken.last {xs : List Ins} (h : Taken xs) {x : Ins} (hx : xs[xs.length - 1]? = some x) : classOf x.c = 6 := by
  have := h.ret
  unfold endsRet at this
  rw [getLast_at rfl hx] at this
  exact of_decide_eq_true this
/-- A jump's goals are places. -/
theorem Taken.goal {xs : List Ins} (h : Taken xs) {k : Nat} {x : Ins} (hx : xs[k]? = some x) (h5 : classOf x.c = 5) : if x.c = 5 then (k : Int) + 1 + x.k < xs.length else (k : Int) + 1 + x.t < xs.length ∧ (k : Int) + 1 + x.f < xs.length := by
  have := (h.at_ k x hx).2
  unfold jumpBad at this
  rw [if_pos h5] at this
  split at this
  · rename_i hc
    rw [if_pos hc]
    have := of_decide_eq_false this
    omega
  · rename_i hc
    rw [if_neg hc]
    simp only [Bool.or_eq_false_iff, decide_eq_false_iff_not] at this
    omega
theorem Taken.next {xs : List Ins} (h : Taken xs) {k : Nat} {x : Ins} (hx : xs[k]? = some x) (h6 : classOf x.c ≠ 6) : k + 1 < xs.length := by
  have hk := (List.getElem?_eq_some_iff.1 hx).1
  by_cases he : k = xs.length - 1
  · exact absurd (h.last (by rw [← he]; exact hx)) h6
  · omega

/-! ## Reach -/

def reachStep (k : Nat) (i : Ins) (out : List Bool) : List Bool :=
  if out[k]? = some true then
    if i.c = 5 then out.set (k + 1 + i.k.toNat) true else if classOf i.c = 5 then (out.set (k + 1 + i.t.toNat) true).set (k + 1 + i.f.toNat) true else if classOf i.c ≠ 6 then out.set (k + 1) true else out
  else out
def reachFrom : Nat → List Ins → List Bool → List Bool
  | _, [], out => out
  | k, i :: r, out => reachFrom (k + 1) r (reachStep k i out)
def reachV (xs : List Ins) : List Bool := reachFrom 0 xs ((List.replicate xs.length false).set 0 true)
def reachR (xs : List Ins) : List Bool := if (checkV xs).2 = 0 then reachV xs else []

theorem reachStep_length {k : Nat} {i : Ins} {out : List Bool} : (reachStep k i out).length = out.length := by
  unfold reachStep
  repeat' split
  all_goals simp
theorem reachFrom_length : ∀ {xs : List Ins} {k : Nat} {out : List Bool}, (reachFrom k xs out).length = out.length
  | [], _, _ => rfl
  | i :: r, k, out => by rw [reachFrom, reachFrom_length, reachStep_length]
theorem reachV_length {xs : List Ins} : (reachV xs).length = xs.length := by rw [reachV, reachFrom_length]; simp
theorem reachR_length {xs : List Ins} : (reachR xs).length ≤ xs.length := by
  unfold reachR
  split
  · rw [reachV_length]; exact Nat.le_refl _
  · simp
theorem reachR_small {xs : List Ins} : (reachR xs).length ≤ 4096 := by
  unfold reachR
  split
  · rename_i h; rw [reachV_length]; exact (taken_of h).1.le
  · simp

/-- What Reach tells. -/
def ReachOf (w : World) (xs : List Ins) (v : Value) (w' : World) : Prop :=
  ∃ O oc, v = .tuple #[.slice O (reachR xs).length oc, .int .i64 (checkV xs).2] ∧ OBools w' O oc (reachR xs) ∧ (∀ k, blk O k → w.heap.size ≤ k) ∧ Ext w w'

section
variable {W : World} {A O : Option Addr} {n c oc : Nat} {xs : List Ins} {R : Value → World → Prop}

theorem reach_loop (h : IInsns W A n xs) (hi : Inss xs) (T : Taken xs) (hO : ∀ k, blk O k → W.heap.size ≤ k) (hR : ∀ w, Fr W w → OBools w O oc (reachV xs) → R (.tuple #[.slice O n oc, .int .i64 0]) w) :
    ∀ (d k : Nat), n - k = d → k ≤ n → ∀ out, out.length = n → reachFrom k (xs.drop k) out = reachV xs → ∀ w, Fr W w → OBools w O oc out → check_Reach.L0 R O n oc A n c n k w := by
  have hl := h.len
  have hn := T.le
  intro d
  induction d with
  | zero =>
    intro k hd hk out ho he w f o
    rw [List.drop_of_length_le (by omega)] at he
    simp only [reachFrom] at he
    subst he
    exact check_Reach.L0_step (ifP_no (by omega) (hR w f o))
  | succ d ih =>
    intro k hd hk out ho he w f o
    obtain ⟨b, x, rfl, hx, hc⟩ := IInsns.at4 (h.fr f) (i := k) (by omega)
    obtain ⟨oc1, ot1, of1, ok1⟩ := hi x (List.mem_of_getElem? hx)
    have hdr : xs.drop k = x :: xs.drop (k + 1) := by
      obtain ⟨hk2, hk3⟩ := List.getElem?_eq_some_iff.1 hx
      rw [List.drop_eq_getElem_cons hk2, hk3]
    rw [hdr] at he
    simp only [reachFrom] at he
    refine check_Reach.L0_step (ifP_yes (by omega) ⟨by omega, by omega, b, rfl, _, hc.c, _, hc.t, _, hc.f, _, hc.k, letA fun w2 h2 x2 s2 => ?_⟩)
    refine storeRow_block (cs := #[.int .u16 0, .int .u8 0, .int .u8 0, .int .u32 0]) (off := 0) h2 (by simp) rfl fun w3 h3 k3 s3 => ?_
    have x3 : Ext w w3 := x2.fresh k3 fun k hk => by have : k = w.heap.size := hk; omega
    have b3 : At4 w3 (newA w) x := At4.box (w := w) (i := x) h3
    have olt := o.lt
    have o3 := o.ext x3
    have f3 := f.ext x3
    have hnO : ¬ blk O (newA w).block := fun hb => by have : w.heap.size < w.heap.size := olt _ hb; omega
    have next : ∀ w4 out', reachStep k x out = out' → Fr W w4 → OBools w4 O oc out' → check_Reach.J0 R O n oc (some b) n c n k w4 := by
      intro w4 out' e f4 o4
      show check_Reach.L0 _ _ _ _ _ _ _ _ _ _
      rw [wrap_i64 (by omega) (by omega)]
      refine ih (k + 1) (by omega) (by omega) out' (by rw [← e, reachStep_length, ho]) (by rw [← e]; exact he) w4 f4 o4
    have put : ∀ {w4 : World} {out' : List Bool} {i : Nat} {j : Int} {φ : World → Prop}, Fr W w4 → OBools w4 O oc out' → j = i → i < out'.length → (∀ w5, Fr W w5 → OBools w5 O oc (out'.set i true) → Keep (blk O) w4 w5 → φ w5) →
        ∃ p, O = some p ∧ (∃ u, w4.cell? (p.add (Int.toNat j * 1)) = some u) ∧ w4.frozen? (p.add (Int.toNat j * 1)) = false ∧ letW (w4.setCell (p.add (Int.toNat j * 1)) (.bool true)) φ := by
      intro w4 out' i j φ f4 o4 hj hi hφ
      refine Own.put1 o4 hj (by simpa using hi) fun w5 o5 k5 s5 => hφ w5 (f4.blk k5 hO) ?_ k5
      rw [OBools, List.map_set]
      exact o5
    have hge : out[k]? = some (out[k]'(by omega)) := List.getElem?_eq_getElem _
    obtain ⟨a, ha, hcell⟩ := (o3.rd ho).at (i := k) (by omega)
    refine ⟨by omega, by omega, a, ha, _, hcell, ifP_not.2 (ifP_of (fun ht => ?_) fun hf => next w3 out (by unfold reachStep; rw [if_neg (by rw [hge, hf]; simp)]) f3 o3)⟩
    rw [ht] at hge
    refine ⟨_, b3.c, ifP_beq.2 ⟨fun h5 => ⟨_, b3.k, ?_⟩, fun h5 => ⟨_, b3.c, class_spec.mono ?_⟩⟩⟩
    · have hg := T.goal hx ((jmp_iff x.c).2 (.inl h5))
      rw [if_pos h5] at hg
      rw [wrap_i64 (x := (k : Int) + 1) (by omega) (by omega), wrap_i64 (x := x.k) (by omega) (by omega), wrap_i64 (x := (k : Int) + 1 + x.k) (by omega) (by omega)]
      refine ⟨by omega, by omega, put f3 o3 (i := k + 1 + x.k.toNat) (by omega) (by omega) fun w4 f4 o4 k4 => next w4 _ ?_ f4 o4⟩
      unfold reachStep; rw [if_pos hge, if_pos h5]
    · rintro v w4 ⟨rfl, rfl⟩
      refine ⟨_, rfl, ifP_beq.2 ⟨fun hc5 => ⟨_, b3.t, ?_⟩, fun hc5 => ⟨_, b3.c, class_spec.mono ?_⟩⟩⟩
      · have hg := T.goal hx hc5
        rw [if_neg h5] at hg
        rw [wrap_i64 (x := (k : Int) + 1) (by omega) (by omega), wrap_i64 (x := x.t) (by omega) (by omega), wrap_i64 (x := (k : Int) + 1 + x.t) (by omega) (by omega)]
        refine ⟨by omega, by omega, put f3 o3 (i := k + 1 + x.t.toNat) (by omega) (by omega) fun w5 f5 o5 k5 => ⟨_, (b3.keep k5 hnO).f, ?_⟩⟩
        rw [wrap_i64 (x := x.f) (by omega) (by omega), wrap_i64 (x := (k : Int) + 1 + x.f) (by omega) (by omega)]
        refine ⟨by omega, by omega, put f5 o5 (i := k + 1 + x.f.toNat) (by omega) (by rw [List.length_set]; omega) fun w6 f6 o6 k6 => next w6 _ ?_ f6 o6⟩
        unfold reachStep; rw [if_pos hge, if_neg h5, if_pos hc5]
      · rintro v w5 ⟨rfl, rfl⟩
        refine ⟨_, rfl, ifP_bne.2 ⟨fun h6 => ?_, fun h6 => next w5 out ?_ f3 o3⟩⟩
        · have hg := T.next hx h6
          rw [wrap_i64 (x := (k : Int) + 1) (by omega) (by omega)]
          refine ⟨by omega, by omega, put f3 o3 (i := k + 1) (by omega) (by omega) fun w6 f6 o6 k6 => next w6 _ ?_ f6 o6⟩
          unfold reachStep; rw [if_pos hge, if_neg h5, if_neg hc5, if_pos h6]
        · unfold reachStep; rw [if_pos hge, if_neg h5, if_neg hc5, if_neg (by rw [h6]; decide)]

end

theorem made_bools {w : World} {n : Nat} (h0 : 0 < n) (hn : n ≤ 4096) {φ : Value → World → Prop}
    (hφ : ∀ A w', OBools w' A n ((List.replicate n false)) → (∀ k, blk A k → w.heap.size ≤ k) → Ext w w' → φ (.slice A n n) w') :
    ∃ (v : Value) (w' : World), (Instr.makeSlice 54 (.int .i64 ((n : Nat) : Int)) (.int .i64 ((n : Nat) : Int))).run Try.prog w = .ok v w' ∧ φ v w' := by
  obtain ⟨w', hr, o, x, _⟩ := make_full slBools rfl (w := w) (c := (n : Int)) (by omega) (by omega) (by omega)
  refine ⟨_, w', hr, hφ _ _ ?_ (fun k hk => by rw [blk_some.1 hk]; exact Nat.le_refl _) x⟩
  have e : List.replicate (n : Int).toNat (Value.bool false) = (List.replicate n false).map Value.bool := by simp
  rw [e] at o
  exact o

theorem reach_spec {w : World} {A : Option Addr} {n c : Nat} {xs : List Ins} (h : IInsns w A n xs) (hi : Inss xs) (hn : n ≤ 281474976710656) :
    Run Try.prog 41 #[.slice A n c] w fun v w' => ReachOf w xs v w' := by
  have hl := h.len
  refine check_Reach.ok ((check_spec h hi hn).mono ?_)
  rintro v w2 ⟨rfl, x2⟩
  refine ⟨_, _, rfl, ifP_bne.2 ⟨fun hne => ?_, fun h0 => ?_⟩⟩
  · have e : reachR xs = [] := by unfold reachR; rw [if_neg hne]
    exact ⟨none, 0, by rw [e]; rfl, by rw [e]; exact Own.empty, fun k hk => (blk_none hk).elim, x2⟩
  · obtain ⟨T, _⟩ := taken_of h0
    have hp := T.pos
    have hle := T.le
    have e : reachR xs = reachV xs := by unfold reachR; rw [if_pos h0]
    refine made_bools (by omega) (by omega) fun O w3 o3 b3 x3 => ⟨O, n, n, rfl, by omega, by omega, ?_⟩
    refine Own.put1 (i := 0) o3 rfl (by simp; omega) fun w4 o4 k4 s4 => ?_
    have f4 : Fr w2 w4 := (Fr.of_ext x3).blk k4 b3
    refine reach_loop (W := w2) (h.ext x2) hi T b3 (fun w5 f5 o5 => ?_) n 0 (by omega) (by omega) ((List.replicate n false).set 0 true) (by simp) (by rw [reachV, hl]; rfl) w4 f4 (by rw [OBools, List.map_set]; exact o4)
    refine ⟨O, n, by rw [e, reachV_length, hl, h0], by rw [e]; exact o5, fun k hk => by have := b3 k hk; have := x2.size; omega, ?_⟩
    exact x2.trans ((Keep.of_below f5).mono fun k hk hs => by have : w2.heap.size ≤ k := hs; omega)

end Go.Proofs.Ytllooifbiapeoaa
