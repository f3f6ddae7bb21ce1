/- Package word and the document's answers for it: what each function computes. -/
import Derived.Test.YthedafjbhnibnaaHBytes
import Derived.Test.YthedafjbhnibnaaHWords
namespace Go.Proofs.Ythedafjbhnibnaa
open Go.Rd Go.RowKit
set_option linter.unusedVariables false
set_option linter.unusedSimpArgs false

def isByte (x : Int) : Prop := 0 ≤ x ∧ x ≤ 255
abbrev Bytes (xs : List Int) : Prop := ∀ x ∈ xs, 0 ≤ x ∧ x ≤ 255

/-! ## fits -/

def fitsB (n at_ size : Int) : Bool := (size == 1 || size == 2 || size == 4) && decide (at_ ≥ 0) && decide (at_ ≤ n - size)

theorem fits_spec {w : World} {n at_ size : Int} (h0 : 0 ≤ n) (h1 : n ≤ 140737488355328) : Run Try.prog 28 #[.int .i64 n, .int .i64 at_, .int .i64 size] w fun v w' => v = .bool (fitsB n at_ size) ∧ w' = w := by
  have key : ∀ s : Int, s = 1 ∨ s = 2 ∨ s = 4 → size = s →
      ifP (decide (at_ ≥ 0)) (word_fits.J0 (fun v w' => v = .bool (fitsB n at_ size) ∧ w' = w) (decide (at_ ≤ IntKind.i64.wrap (n - size))) w) (word_fits.J0 (fun v w' => v = .bool (fitsB n at_ size) ∧ w' = w) false w) := by
    intro s hs he
    have hb : (size == 1 || size == 2 || size == 4) = true := by rcases hs with h | h | h <;> simp [he, h]
    have e : IntKind.i64.wrap (n - size) = n - size := by rcases hs with h | h | h <;> exact wrap_i64 (by omega) (by omega)
    rw [e]
    refine ifP_dec (fun h => ⟨?_, rfl⟩) (fun h => ⟨?_, rfl⟩) <;> simp [fitsB, hb, h]
  refine word_fits.ok (ifP_int (fun h => key 1 (by omega) h) (fun h1 => ifP_int (fun h => key 2 (by omega) h) (fun h2 => ifP_int (fun h => key 4 (by omega) h) (fun h4 => ?_))))
  refine ⟨?_, rfl⟩
  simp [fitsB, h1, h2, h4]

theorem fitsB_iff {n at_ size : Int} : fitsB n at_ size = true ↔ (size = 1 ∨ size = 2 ∨ size = 4) ∧ 0 ≤ at_ ∧ at_ ≤ n - size := by
  simp [fitsB, or_assoc, and_assoc]

/-! ## Get -/

def be (v : Int) (xs : List Int) : Int := xs.foldl (fun v b => orI .u32 (IntKind.u32.wrap (v * 2 ^ 8)) (IntKind.u32.wrap b)) v
def getV (xs : List Int) (at_ size : Int) : Int := be 0 ((xs.drop at_.toNat).take size.toNat)

theorem get_loop {w : World} {A : Option Addr} {n c : Nat} {xs : List Int} {R : Value → World → Prop} (h : IBytes w A n xs) (hn : n ≤ 140737488355328) (hR : R (.tuple #[.int .u32 (be 0 xs), .bool true]) w) :
    ∀ (k i : Nat), n - i = k → i ≤ n → ∀ v : Int, v = be 0 (xs.take i) → word_Get.L0 R v A n c n i w := by
  intro k
  induction k with
  | zero =>
    intro i hk hi v hv
    rw [List.take_of_length_le (by rw [h.len]; omega)] at hv
    subst hv
    exact word_Get.L0_step (ifP_no (by omega) hR)
  | succ k ih =>
    intro i hk hi v hv
    have hlt : i < n := by omega
    obtain ⟨a, rfl, ha⟩ := h.at hlt
    refine word_Get.L0_step (ifP_yes (by omega) ⟨by omega, by omega, a, rfl, _, ha, ?_⟩)
    rw [wrap_i64 (by omega) (by omega)]
    refine ih (i + 1) (by omega) (by omega) _ ?_
    rw [hv, be, be, List.take_add_one, List.foldl_append, List.getElem?_eq_getElem (by rw [h.len]; exact hlt)]
    rfl

theorem sub_bytes {w : World} {A : Option Addr} {n c : Nat} {xs : List Int} (h : IBytes w A n xs) {i k : Nat} (hc : n ≤ c) (hi : i + k ≤ n) (hk : 0 < k) :
    IBytes w (subA A c i 1) k ((xs.drop i).take k) := by
  have := (h.cells.drop i (c := c) (by omega)).take k
  rw [← List.map_drop, ← List.map_take] at this
  exact this.rd (by simp [h.len]; omega)

theorem get_spec {w : World} {A : Option Addr} {n c : Nat} {xs : List Int} {at_ size : Int} (h : IBytes w A n xs) (hc : n ≤ c) (hn : n ≤ 140737488355328) :
    Run Try.prog 10 #[.slice A n c, .int .i64 at_, .int .i64 size] w fun v w' =>
      v = (if fitsB n at_ size then .tuple #[.int .u32 (getV xs at_ size), .bool true] else .tuple #[.int .u32 0, .bool false]) ∧ w' = w := by
  refine word_Get.ok ((fits_spec (by omega) (by omega)).mono ?_)
  rintro v w1 ⟨rfl, rfl⟩
  refine ⟨_, rfl, ifP_not.2 (ifP_of (fun hf => ?_) (fun hf => ?_))⟩
  · obtain ⟨hs, h0, h1⟩ := fitsB_iff.1 hf
    have e : IntKind.i64.wrap (at_ + size) = at_ + size := wrap_i64 (by omega) (by omega)
    rw [e]
    refine ⟨h0, by omega, by omega, ?_⟩
    have hk : Int.toNat (at_ + size) - Int.toNat at_ = size.toNat := by omega
    rw [hk]
    refine get_loop (n := size.toNat) (sub_bytes (i := at_.toNat) h hc (by omega) (by omega)) (by omega) ?_ size.toNat 0 (by omega) (by omega) 0 rfl
    rw [hf]
    exact ⟨rfl, rfl⟩
  · rw [hf]; exact ⟨rfl, rfl⟩

/-! ### The document's -/

def inB (n at_ size : Int) : Bool := decide (at_ ≥ 0) && decide (size ≥ 0) && decide (size ≤ n) && decide (at_ ≤ n - size)

theorem in_spec {w : World} {n at_ size : Int} (h0 : 0 ≤ n) (h1 : n ≤ 140737488355328) : Run Try.prog 29 #[.int .i64 n, .int .i64 at_, .int .i64 size] w fun v w' => v = .bool (inB n at_ size) ∧ w' = w := by
  refine ref1_In.ok (ifP_dec (fun h1 => ifP_dec (fun h2 => ifP_dec (fun h3 => ?_) (fun h3 => ?_)) (fun h2 => ?_)) (fun h1 => ?_))
  · rw [wrap_i64 (by omega) (by omega)]
    exact ⟨by simp [inB, h1, h2, h3], rfl⟩
  all_goals
    have : inB n at_ size = false := by simp [inB]; omega
    exact ⟨by rw [this], rfl⟩

theorem fitsB_in {n at_ size : Int} (hs : size = 1 ∨ size = 2 ∨ size = 4) (h0 : 0 ≤ n) : inB n at_ size = fitsB n at_ size := by
  have hb : (size == 1 || size == 2 || size == 4) = true := by rcases hs with h | h | h <;> simp [h]
  simp only [fitsB, hb, Bool.true_and, inB]
  by_cases h1 : at_ ≥ 0
  · by_cases h2 : at_ ≤ n - size
    · have h3 : size ≤ n := by omega
      have h4 : size ≥ 0 := by omega
      simp [h1, h2, h3, h4]
    · simp [h1, h2]
  · simp [h1]

theorem fitsB_not {n at_ size : Int} (h1 : size ≠ 1) (h2 : size ≠ 2) (h4 : size ≠ 4) : fitsB n at_ size = false := by simp [fitsB, h1, h2, h4]

theorem rget_loop {w : World} {A : Option Addr} {n c : Nat} {xs : List Int} {R : Value → World → Prop} {at_ size : Int} (h : IBytes w A n xs) (hn : n ≤ 140737488355328) (h0 : 0 ≤ at_) (h1 : at_ + size ≤ n) (hs : 0 ≤ size)
    (hR : R (.tuple #[.int .u32 (getV xs at_ size), .bool true]) w) :
    ∀ (k i : Nat), size.toNat - i = k → (i : Int) ≤ size → ∀ v : Int, v = be 0 ((xs.drop at_.toNat).take i) → ref1_Get.L0 R A n c at_ size v i w := by
  intro k
  induction k with
  | zero =>
    intro i hk hi v hv
    have : i = size.toNat := by omega
    subst this
    rw [← getV] at hv
    subst hv
    exact ref1_Get.L0_step (ifP_no (by omega) hR)
  | succ k ih =>
    intro i hk hi v hv
    have hlt : at_.toNat + i < n := by omega
    obtain ⟨a, rfl, ha⟩ := h.at hlt
    have e : IntKind.i64.wrap (at_ + i) = ((at_.toNat + i : Nat) : Int) := by rw [wrap_i64 (by omega) (by omega)]; omega
    refine ref1_Get.L0_step ?_
    rw [ref1_Get.B0, e]
    refine ifP_yes (by omega) ⟨by omega, by omega, a, rfl, _, ha, ?_⟩
    rw [wrap_i64 (by omega) (by omega)]
    refine ih (i + 1) (by omega) (by omega) _ ?_
    rw [hv, be, be, List.take_add_one, List.foldl_append, List.getElem?_drop, List.getElem?_eq_getElem (by rw [h.len]; exact hlt)]
    rfl

theorem rget_spec {w : World} {A : Option Addr} {n c : Nat} {xs : List Int} {at_ size : Int} (h : IBytes w A n xs) (hn : n ≤ 140737488355328) :
    Run Try.prog 11 #[.slice A n c, .int .i64 at_, .int .i64 size] w fun v w' =>
      v = (if fitsB n at_ size then .tuple #[.int .u32 (getV xs at_ size), .bool true] else .tuple #[.int .u32 0, .bool false]) ∧ w' = w := by
  have key : size = 1 ∨ size = 2 ∨ size = 4 → Run Try.prog 29 #[.int .i64 (n : Int), .int .i64 at_, .int .i64 size] w fun v w_2 => ∃ t25 : Bool, v = .bool t25 ∧
      ref1_Get.J0 (fun v w' => v = (if fitsB n at_ size then .tuple #[.int .u32 (getV xs at_ size), .bool true] else .tuple #[.int .u32 0, .bool false]) ∧ w' = w) A n c at_ size (!t25) w_2 := by
    intro hs
    refine (in_spec (by omega) (by omega)).mono ?_
    rintro v w1 ⟨rfl, rfl⟩
    rw [fitsB_in hs (by omega)]
    refine ⟨_, rfl, ifP_not.2 (ifP_of (fun hf => ?_) (fun hf => ?_))⟩
    · obtain ⟨_, h0, h1⟩ := fitsB_iff.1 hf
      refine rget_loop h hn h0 (by omega) (by omega) ?_ _ 0 rfl (by omega) 0 rfl
      rw [hf]; exact ⟨rfl, rfl⟩
    · rw [hf]; exact ⟨rfl, rfl⟩
  refine ref1_Get.ok (ifP_bne.2 ⟨fun h1 => ifP_bne.2 ⟨fun h2 => ifP_bne.2 ⟨fun h4 => ?_, fun h4 => key (by omega)⟩, fun h2 => key (by omega)⟩, fun h1 => key (by omega)⟩)
  rw [fitsB_not h1 h2 h4]
  exact ⟨rfl, rfl⟩

/-! ## Join -/

structure Part where
  A : Option Addr
  n : Nat
  c : Nat
  xs : List Int

def Part.v (p : Part) : Value := .slice p.A p.n p.c
def total (ps : List Part) : Nat := (ps.map (·.n)).sum
def flat (ps : List Part) : List Int := ps.flatMap (·.xs)

theorem total_take (ps : List Part) (i : Nat) : total (ps.take i) ≤ total ps := by
  have : total ps = total (ps.take i) + total (ps.drop i) := by
    unfold total
    rw [← List.sum_append, ← List.map_append, List.take_append_drop]
  omega

theorem flat_length {w : World} {ps : List Part} (h : ∀ p ∈ ps, IBytes w p.A p.n p.xs) : (flat ps).length = total ps := by
  induction ps with
  | nil => rfl
  | cons p ps ih =>
    have h1 := (h p (List.mem_cons_self ..)).len
    have h2 := ih fun q hq => h q (List.mem_cons_of_mem _ hq)
    simp only [flat, List.flatMap_cons, List.length_append, total, List.map_cons, List.sum_cons] at h2 ⊢
    omega

theorem join_spec {w : World} {A : Option Addr} {k c : Nat} {ps : List Part} (h : Rd Part.v w A k ps) (hk : k ≤ 140737488355328) (hp : ∀ p ∈ ps, IBytes w p.A p.n p.xs) (ht : total ps ≤ 140737488355328) :
    Run Try.prog 19 #[.slice A k c] w fun v w' => NewBytes w w' v (total ps) (flat ps) := by
  have two : ∀ (d i : Nat), k - i = d → i ≤ k → ∀ (w' : World) (O : Option Addr) (oc : Nat), Ext w w' → OBytes w' O oc (flat (ps.take i)) → (∀ b, blk O b → w.heap.size ≤ b) →
      word_Join.L2 (fun v w' => NewBytes w w' v (total ps) (flat ps)) O (total (ps.take i)) oc A k c k i w' := by
    intro d
    induction d with
    | zero =>
      intro i hd hi w' O oc hx hO hb
      have e : ps.take i = ps := List.take_of_length_le (by rw [h.len]; omega)
      rw [e] at hO ⊢
      exact word_Join.L2_step (ifP_no (by omega) ⟨O, oc, rfl, hO, flat_length hp, hb, hx⟩)
    | succ d ih =>
      intro i hd hi w' O oc hx hO hb
      have hlt : i < k := by omega
      obtain ⟨a, rfl, ha⟩ := (h.ext hx).at hlt
      have hmem : ps[i]'(by rw [h.len]; exact hlt) ∈ ps := List.getElem_mem _
      have hget : ps[i]? = some (ps[i]'(by rw [h.len]; exact hlt)) := List.getElem?_eq_getElem _
      generalize ps[i]'(by rw [h.len]; exact hlt) = p at *
      have hpi := (hp p hmem).ext hx
      have et : total (ps.take (i + 1)) = total (ps.take i) + p.n := by
        unfold total
        rw [List.take_add_one, hget]
        simp
      have ef : flat (ps.take (i + 1)) = flat (ps.take i) ++ p.xs := by
        unfold flat
        rw [List.take_add_one, hget]
        simp
      have hle := total_take ps (i + 1)
      have hfl := flat_length (ps := ps.take i) (w := w) fun q hq => hp q (List.mem_of_mem_take hq)
      obtain ⟨O', oc', w2, hr, hO', hc', hk', hb'⟩ := append_own slBytes (ty := 22) (d := p.c) hO (n := total (ps.take i)) (by simp [hfl]) hpi.cells (m := p.n) (by simp [hpi.len]) (cellsBytes _) (by omega) (by omega)
      refine word_Join.L2_step (ifP_yes (by omega) ⟨by omega, by omega, a, rfl, p.A, p.n, p.c, ha, _, w2, hr, _, _, _, rfl, ?_⟩)
      rw [wrap_i64 (by omega) (by omega), ← et]
      refine ih (i + 1) (by omega) (by omega) w2 O' oc' (hx.fresh hk' hb) ?_ ?_
      · rw [ef, OBytes, List.map_append]; exact hO'
      · intro b hbb
        rcases hb' b hbb with h | h
        · exact hb b h
        · have := hx.size; omega
  have one : ∀ (d i : Nat), k - i = d → i ≤ k → word_Join.L0 (fun v w' => NewBytes w w' v (total ps) (flat ps)) A k c (total (ps.take i)) A k c k i w := by
    intro d
    induction d with
    | zero =>
      intro i hd hi
      have e : ps.take i = ps := List.take_of_length_le (by rw [h.len]; omega)
      rw [e]
      obtain ⟨w2, hr, hO, hx, hs⟩ := make_zero (slBytes) (w := w) (c := (total ps : Int)) (by omega) (by omega) (by omega)
      refine word_Join.L0_step (ifP_no (by omega) ⟨_, w2, hr, _, _, _, rfl, ?_⟩)
      exact two k 0 (by omega) (by omega) w2 _ _ hx hO fun b hb => by rw [blk_some.1 hb]; exact Nat.le_refl _
    | succ d ih =>
      intro i hd hi
      have hlt : i < k := by omega
      obtain ⟨a, rfl, ha⟩ := h.at hlt
      have hget : ps[i]? = some (ps[i]'(by rw [h.len]; exact hlt)) := List.getElem?_eq_getElem _
      generalize ps[i]'(by rw [h.len]; exact hlt) = p at *
      have et : total (ps.take (i + 1)) = total (ps.take i) + p.n := by
        unfold total
        rw [List.take_add_one, hget]
        simp
      have hle := total_take ps (i + 1)
      refine word_Join.L0_step (ifP_yes (by omega) ⟨by omega, by omega, a, rfl, p.A, p.n, p.c, ha, ?_⟩)
      rw [wrap_i64 (x := (i : Int) + 1) (by omega) (by omega), wrap_i64 (by omega) (by omega)]
      have e3 : ((total (ps.take i) : Nat) : Int) + (p.n : Int) = ((total (ps.take (i + 1)) : Nat) : Int) := by omega
      rw [e3]
      exact ih (i + 1) (by omega) (by omega)
  exact word_Join.ok (one k 0 (by omega) (by omega))

/-! ## Put -/

/-- The lowest bytes of a number, the high one first, laid at a place. -/
def putL : Nat → List Int → Nat → Int → List Int
  | 0, xs, _, _ => xs
  | k + 1, xs, at_, v => putL k (xs.set (at_ + k) (v % 256)) at_ (v / 256)

theorem putL_length : ∀ (k : Nat) (xs : List Int) (at_ : Nat) (v : Int), (putL k xs at_ v).length = xs.length
  | 0, _, _, _ => rfl
  | k + 1, xs, at_, v => by rw [putL, putL_length k]; simp

theorem fdiv_pow8 (v : Int) : Int.fdiv v (2 ^ 8) = v / 256 := by
  show Int.fdiv v 256 = _
  rw [Int.fdiv_eq_ediv_of_nonneg v (by omega)]

theorem set_own {w w1 : World} {b i c : Nat} {xs : List Int} {sp : List Value} {x : Int} (hi : i < xs.length) (hcl : ((xs.map (Value.int .u8)) ++ sp).length = c * 1)
    (h1 : w1.heap[b]? = some (.cells (((xs.map (Value.int .u8)) ++ sp).toArray.setIfInBounds i (.int .u8 x)) 5 (0, 0))) : OBytes w1 (some ⟨b, 0, none⟩) c (xs.set i x) := by
  refine .inr ⟨b, sp, rfl, ?_, by simpa using hcl⟩
  rw [h1]
  congr 2
  simp [List.set_append, hi, List.map_set]

theorem put_loop {w : World} {at_ : Int} {n : Nat} {R : Value → World → Prop} {A : Option Addr} {c : Nat} (ha : 0 ≤ at_) (hn : n ≤ 140737488355328) :
    ∀ (k : Nat) (xs : List Int) (v : Int) (w' : World), at_ + k ≤ n → xs.length = n → OBytes w' A c xs →
      (∀ w2, OBytes w2 A c (putL k xs at_.toNat v) → Keep (blk A) w' w2 → R (.tuple #[.slice A n c, .bool true]) w2) → word_Put.L0 R at_ v A n c (at_ + k - 1) w' := by
  intro k
  induction k with
  | zero =>
    intro xs v w' hk hl hO hR
    exact word_Put.L0_step (ifP_no (by omega) (hR w' hO (Keep.refl w')))
  | succ k ih =>
    intro xs v w' hk hl hO hR
    have e : at_ + ((k + 1 : Nat) : Int) - 1 = ((at_.toNat + k : Nat) : Int) := by omega
    rw [e]
    rcases hO with ⟨rfl, rfl, hnil⟩ | ⟨b, sp, rfl, hb, hcl⟩
    · have : xs = [] := by simpa using hnil
      subst this
      simp at hl; omega
    · have ea : (Addr.mk b 0 none).add (Int.toNat ((at_.toNat + k : Nat) : Int) * 1) = ⟨b, at_.toNat + k, none⟩ := by rw [add_mk]; simp; omega
      have hi : at_.toNat + k < xs.length := by omega
      refine word_Put.L0_step (ifP_yes (by omega) ⟨by omega, by omega, _, rfl, ?_⟩)
      rw [ea]
      refine ⟨st_cell hb (by simp; omega), frozen_of hb, letS hb fun w1 h1 k1 s1 => ?_⟩
      rw [wrap_u8_mod] at h1
      rw [fdiv_pow8, wrap_i64 (by omega) (by omega)]
      have e2 : ((at_.toNat + k : Nat) : Int) - 1 = at_ + (k : Int) - 1 := by omega
      rw [e2]
      exact ih (xs.set (at_.toNat + k) (v % 256)) (v / 256) w1 (by omega) (by simpa using hl) (set_own (w := w') hi hcl h1)
        fun w2 hO2 hk2 => hR w2 hO2 ((k1.mono fun _ _ h => blk_some.2 h).trans' hk2)

/-- What Put tells: the bytes with the number in them, in new memory; or nothing. -/
def PutOf (w : World) (n : Nat) (xs : List Int) (at_ size v : Int) (u : Value) (w' : World) : Prop :=
  if fitsB n at_ size then ∃ A c, u = .tuple #[.slice A n c, .bool true] ∧ OBytes w' A c (putL size.toNat xs at_.toNat v) ∧ xs.length = n ∧ (∀ k, blk A k → w.heap.size ≤ k) ∧ Ext w w'
  else u = .tuple #[.slice none 0 0, .bool false] ∧ w' = w

theorem put_spec {w : World} {A : Option Addr} {n c : Nat} {xs : List Int} {at_ size v : Int} (h : IBytes w A n xs) (hn : n ≤ 140737488355328) :
    Run Try.prog 16 #[.slice A n c, .int .i64 at_, .int .i64 size, .int .u32 v] w (PutOf w n xs at_ size v) := by
  refine word_Put.ok ((fits_spec (by omega) (by omega)).mono ?_)
  rintro u w1 ⟨rfl, rfl⟩
  refine ⟨_, rfl, ifP_not.2 (ifP_of (fun hf => letA fun w2 h2 x2 s2 => ?_) (fun hf => ?_))⟩
  · obtain ⟨hs, h0, h1⟩ := fitsB_iff.1 hf
    have hr : Rd Part.v w2 (some (newA w1)) 1 [Part.mk A n c xs] := Rd.block h2 fun i x hx => by
      match i with
      | 0 => simp at hx; subst hx; rfl
      | i + 1 => simp at hx
    have e1 : total [Part.mk A n c xs] = n := by simp [total]
    have e2 : flat [Part.mk A n c xs] = xs := by simp [flat]
    refine (join_spec hr (by omega) (by simpa using h.ext x2) (by omega)).mono ?_
    rintro u w3 ⟨O, oc, rfl, hO, hl, hb, x3⟩
    rw [e1, e2] at *
    refine ⟨_, _, _, rfl, ?_⟩
    have e : IntKind.i64.wrap (IntKind.i64.wrap (at_ + size) - 1) = at_ + ((size.toNat : Nat) : Int) - 1 := by
      rw [wrap_i64 (x := at_ + size) (by omega) (by omega), wrap_i64 (by omega) (by omega)]; omega
    rw [e]
    refine put_loop (w := w1) h0 hn size.toNat xs v w3 (by omega) hl hO fun w4 hO4 k4 => ?_
    unfold PutOf
    rw [if_pos hf]
    exact ⟨O, oc, rfl, hO4, hl, fun k hk => by have := hb k hk; omega, (x2.trans x3).fresh k4 fun k hk => by have := hb k hk; omega⟩
  · unfold PutOf
    rw [if_neg (by simp [hf])]
    exact ⟨rfl, rfl⟩

theorem rput_loop {w : World} {at_ : Int} {n : Nat} {R : Value → World → Prop} {A : Option Addr} {c : Nat} (ha : 0 ≤ at_) (hn : n ≤ 140737488355328) :
    ∀ (k : Nat) (xs : List Int) (v : Int) (w' : World), at_ + k ≤ n → xs.length = n → OBytes w' A c xs →
      (∀ w2, OBytes w2 A c (putL k xs at_.toNat v) → Keep (blk A) w' w2 → R (.tuple #[.slice A n c, .bool true]) w2) → ref1_Put.L0 R at_ v A n c ((k : Int) - 1) w' := by
  intro k
  induction k with
  | zero =>
    intro xs v w' hk hl hO hR
    exact ref1_Put.L0_step (ifP_no (by omega) (hR w' hO (Keep.refl w')))
  | succ k ih =>
    intro xs v w' hk hl hO hR
    have e : IntKind.i64.wrap (at_ + (((k + 1 : Nat) : Int) - 1)) = ((at_.toNat + k : Nat) : Int) := by rw [wrap_i64 (by omega) (by omega)]; omega
    rcases hO with ⟨rfl, rfl, hnil⟩ | ⟨b, sp, rfl, hb, hcl⟩
    · have : xs = [] := by simpa using hnil
      subst this
      simp at hl; omega
    · have ea : (Addr.mk b 0 none).add (Int.toNat ((at_.toNat + k : Nat) : Int) * 1) = ⟨b, at_.toNat + k, none⟩ := by rw [add_mk]; simp; omega
      have hi : at_.toNat + k < xs.length := by omega
      refine ref1_Put.L0_step ?_
      rw [ref1_Put.B0, e]
      refine ifP_yes (by omega) ⟨by omega, by omega, _, rfl, ?_⟩
      rw [ea]
      refine ⟨st_cell hb (by simp; omega), frozen_of hb, letS hb fun w1 h1 k1 s1 => ?_⟩
      rw [wrap_u8_mod] at h1
      rw [fdiv_pow8, wrap_i64 (by omega) (by omega)]
      have e2 : ((k + 1 : Nat) : Int) - 1 - 1 = (k : Int) - 1 := by omega
      rw [e2]
      exact ih (xs.set (at_.toNat + k) (v % 256)) (v / 256) w1 (by omega) (by simpa using hl) (set_own (w := w') hi hcl h1)
        fun w2 hO2 hk2 => hR w2 hO2 ((k1.mono fun _ _ h => blk_some.2 h).trans' hk2)

theorem rput_spec {w : World} {A : Option Addr} {n c : Nat} {xs : List Int} {at_ size v : Int} (h : IBytes w A n xs) (hn : n ≤ 140737488355328) :
    Run Try.prog 15 #[.slice A n c, .int .i64 at_, .int .i64 size, .int .u32 v] w (PutOf w n xs at_ size v) := by
  have key : size = 1 ∨ size = 2 ∨ size = 4 → Run Try.prog 29 #[.int .i64 (n : Int), .int .i64 at_, .int .i64 size] w fun u w_2 => ∃ t27 : Bool, u = .bool t27 ∧ ref1_Put.J0 (PutOf w n xs at_ size v) A n c at_ size v (!t27) w_2 := by
    intro hs
    refine (in_spec (by omega) (by omega)).mono ?_
    rintro u w1 ⟨rfl, rfl⟩
    rw [fitsB_in hs (by omega)]
    refine ⟨_, rfl, ifP_not.2 (ifP_of (fun hf => letA fun w2 h2 x2 s2 => ?_) (fun hf => ?_))⟩
    · obtain ⟨_, h0, h1⟩ := fitsB_iff.1 hf
      have hO : Own 5 1 w2 (some (newA w1)) 0 [] := .inr ⟨_, [], rfl, h2, rfl⟩
      obtain ⟨A', c', w3, hr, hO', hc', hk, hb⟩ := append_own slBytes (ty := 22) (n := 0) (d := c) hO rfl (h.cells.ext x2) (m := n) (by simp [h.len]) (cellsBytes xs) (by omega) (by omega)
      refine ⟨_, w3, hr, _, _, _, rfl, ?_⟩
      rw [Nat.zero_add]
      have hnew : ∀ k, blk A' k → w1.heap.size ≤ k := by
        intro k hk'
        rcases hb k hk' with h | h
        · rw [blk_some.1 h]; exact Nat.le_refl _
        · omega
      have x3 : Ext w1 w3 := x2.fresh hk fun k h => by rw [blk_some.1 h]; exact Nat.le_refl _
      have e : IntKind.i64.wrap (size - 1) = ((size.toNat : Nat) : Int) - 1 := by rw [wrap_i64 (by omega) (by omega)]; omega
      rw [e]
      refine rput_loop (w := w1) h0 hn size.toNat xs v w3 (by omega) h.len (by simpa using hO') fun w4 hO4 k4 => ?_
      unfold PutOf
      rw [if_pos hf]
      exact ⟨A', c', rfl, hO4, h.len, hnew, x3.fresh k4 hnew⟩
    · unfold PutOf
      rw [if_neg (by simp [hf])]
      exact ⟨rfl, rfl⟩
  refine ref1_Put.ok (ifP_bne.2 ⟨fun h1 => ifP_bne.2 ⟨fun h2 => ifP_bne.2 ⟨fun h4 => ?_, fun h4 => key (by omega)⟩, fun h2 => key (by omega)⟩, fun h1 => key (by omega)⟩)
  show PutOf w n xs at_ size v _ w
  unfold PutOf
  rw [fitsB_not h1 h2 h4]
  exact ⟨rfl, rfl⟩

end Go.Proofs.Ythedafjbhnibnaa
