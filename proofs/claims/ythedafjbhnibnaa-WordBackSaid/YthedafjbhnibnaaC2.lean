/- Sums, digits; what every program answers. -/
import Derived.Test.YthedafjbhnibnaaC1
namespace Go.Proofs.Ythedafjbhnibnaa
open Go.Rd Go.RowKit
set_option linter.unusedVariables false
set_option linter.unusedSimpArgs false

/-! ## Sum -/

abbrev Words (xs : List Int) : Prop := ∀ x ∈ xs, 0 ≤ x ∧ x ≤ 4294967295
def satSum (xs : List Int) : Int := min xs.sum 4294967295

theorem sum_nonneg {xs : List Int} (h : Words xs) : 0 ≤ xs.sum := by
  induction xs with
  | nil => simp
  | cons x xs ih =>
    have := (h x (List.mem_cons_self ..)).1
    have := ih fun y hy => h y (List.mem_cons_of_mem _ hy)
    simp; omega

theorem upTo_loop {w : World} {A : Option Addr} {n cc : Nat} {xs : List Int} {R : Value → World → Prop} (h : IWords w A n xs) (hx : Words xs) (hn : n ≤ 140737488355328) (hR : R (.int .u32 (satSum xs)) w) :
    ∀ (d i : Nat), n - i = d → i ≤ n → word_upTo.L0 R 4294967295 (satSum (xs.take i)) A n cc n i w := by
  intro d
  induction d with
  | zero =>
    intro i hd hi
    have e : xs.take i = xs := List.take_of_length_le (by rw [h.len]; omega)
    rw [e]
    refine word_upTo.L0_step (ifP_no (by omega) ?_)
    have h0 := sum_nonneg hx
    have h1 : 0 ≤ satSum xs ∧ satSum xs ≤ 4294967295 := by unfold satSum; omega
    rw [wrap_u32 h1.1 h1.2]
    exact hR
  | succ d ih =>
    intro i hd hi
    have hlt : i < n := by omega
    obtain ⟨a, rfl, hc⟩ := h.at hlt
    have hb := hx _ (List.getElem_mem (l := xs) (n := i) (by rw [h.len]; exact hlt))
    have hget : xs[i]? = some (xs[i]'(by rw [h.len]; exact hlt)) := List.getElem?_eq_getElem _
    generalize xs[i]'(by rw [h.len]; exact hlt) = y at *
    refine word_upTo.L0_step (ifP_yes (by omega) ⟨by omega, by omega, a, rfl, y, hc, ?_⟩)
    have hs := sum_nonneg (xs := xs.take i) fun z hz => hx z (List.mem_of_mem_take hz)
    have h1 : 0 ≤ satSum (xs.take i) ∧ satSum (xs.take i) ≤ 4294967295 := by unfold satSum; omega
    rw [wrap_u64 (x := y) (by omega) (by omega), wrap_u64 (by omega) (by omega), wrap_i64 (by omega) (by omega)]
    have e3 : minI (satSum (xs.take i) + y) 4294967295 = satSum (xs.take (i + 1)) := by
      unfold minI satSum
      rw [List.take_add_one, hget]
      simp only [List.sum_append, Option.toList_some, List.sum_cons, List.sum_nil]
      split <;> omega
    rw [e3]
    exact ih (i + 1) (by omega) (by omega)

theorem sum_spec {w : World} {A : Option Addr} {n cc : Nat} {xs : List Int} (h : IWords w A n xs) (hx : Words xs) (hn : n ≤ 140737488355328) :
    Run Try.prog 21 #[.slice A n cc] w fun v w' => v = .int .u32 (satSum xs) ∧ w' = w := by
  refine word_Sum.ok (Run.mono (R := fun v w' => v = .int .u32 (satSum xs) ∧ w' = w) ?_ ?_)
  · exact word_upTo.ok (upTo_loop h hx hn ⟨rfl, rfl⟩ n 0 (by omega) (by omega))
  · rintro v w' ⟨rfl, rfl⟩
    exact ⟨_, rfl, rfl, rfl⟩

/-! ## Digits -/

def DIG : ByteArray := ByteArray.mk #[48, 49, 50, 51, 52, 53, 54, 55, 56, 57, 97, 98, 99, 100, 101, 102]
def digC (k : Int) : Int := btAt DIG k
def hexL (xs : List Int) : List Int := xs.flatMap fun b => [digC (b / 16), digC (b % 16)]
def digV (c : Int) : Int := if 48 ≤ c ∧ c ≤ 57 then c - 48 else if 97 ≤ c ∧ c ≤ 102 then c - 87 else -1
def unhex : List Int → Option (List Int)
  | [] => some []
  | [_] => none
  | a :: b :: r => if digV a < 0 ∨ digV b < 0 then none else (unhex r).map ((16 * digV a + digV b) :: ·)

theorem digV_lt (c : Int) : digV c ≤ 15 := by unfold digV; split <;> (try split) <;> omega
theorem digV_ge (c : Int) : -1 ≤ digV c := by unfold digV; split <;> (try split) <;> omega
theorem digC_V : ∀ k : Nat, k < 16 → digV (digC (k : Int)) = k := by decide +kernel
theorem digC_byte : ∀ k : Nat, k < 16 → 0 ≤ digC (k : Int) ∧ digC (k : Int) ≤ 255 := by decide +kernel
theorem digV_C {c : Int} (h : 0 ≤ digV c) : digC (digV c) = c := by
  have : ∀ k : Nat, k < 256 → 0 ≤ digV (k : Int) → digC (digV (k : Int)) = k := by decide +kernel
  have hc : 0 ≤ c ∧ c < 256 := by unfold digV at h; split at h <;> (try split at h) <;> omega
  have := this c.toNat (by omega)
  rw [show ((c.toNat : Nat) : Int) = c by omega] at this
  exact this h
theorem digC_int {k : Int} (h0 : 0 ≤ k) (h1 : k < 16) : digV (digC k) = k := by
  have := digC_V k.toNat (by omega)
  rwa [show ((k.toNat : Nat) : Int) = k by omega] at this
theorem andI_15 {b : Int} (h0 : 0 ≤ b) (h1 : b ≤ 255) : andI .u8 b 15 = b % 16 := by
  have : ∀ k : Nat, k < 256 → andI .u8 (k : Int) 15 = (k : Int) % 16 := by decide +kernel
  have := this b.toNat (by omega)
  rwa [show ((b.toNat : Nat) : Int) = b by omega] at this
theorem fdiv_16 (b : Int) : Int.fdiv b (2 ^ 4) = b / 16 := by
  show Int.fdiv b 16 = _
  rw [Int.fdiv_eq_ediv_of_nonneg b (by omega)]
theorem or_pair {h l : Int} (h0 : 0 ≤ h) (h1 : h ≤ 15) (l0 : 0 ≤ l) (l1 : l ≤ 15) : IntKind.u8.wrap (orI .i64 (IntKind.i64.wrap (h * 2 ^ 4)) l) = 16 * h + l := by
  have : ∀ a : Nat, a < 16 → ∀ b : Nat, b < 16 → IntKind.u8.wrap (orI .i64 (IntKind.i64.wrap ((a : Int) * 2 ^ 4)) (b : Int)) = 16 * (a : Int) + b := by decide +kernel
  have := this h.toNat (by omega) l.toNat (by omega)
  rwa [show ((h.toNat : Nat) : Int) = h by omega, show ((l.toNat : Nat) : Int) = l by omega] at this

theorem hex_unhex {xs : List Int} (h : Bytes xs) : unhex (hexL xs) = some xs := by
  induction xs with
  | nil => rfl
  | cons b xs ih =>
    have hb := h b (List.mem_cons_self ..)
    have ih := ih fun y hy => h y (List.mem_cons_of_mem _ hy)
    have e1 := digC_int (k := b / 16) (by omega) (by omega)
    have e2 := digC_int (k := b % 16) (by omega) (by omega)
    have : hexL (b :: xs) = digC (b / 16) :: digC (b % 16) :: hexL xs := by simp [hexL]
    rw [this, unhex, e1, e2, ih, if_neg (by omega)]
    simp
    omega

theorem unhex_hex : ∀ {l xs : List Int}, unhex l = some xs → hexL xs = l ∧ Bytes xs
  | [], xs, h => by simp [unhex] at h; subst h; exact ⟨rfl, fun x hx => by simp at hx⟩
  | [_], xs, h => by simp [unhex] at h
  | a :: b :: r, xs, h => by
    rw [unhex] at h
    split at h
    · cases h
    · rename_i hd
      cases hr : unhex r with
      | none => simp [hr] at h
      | some ys =>
        simp [hr] at h
        subst h
        obtain ⟨e, hb⟩ := unhex_hex hr
        have va := digV_lt a
        have vb := digV_lt b
        have ga : 0 ≤ digV a := by omega
        have gb : 0 ≤ digV b := by omega
        refine ⟨?_, fun x hx => ?_⟩
        · have e1 : (16 * digV a + digV b) / 16 = digV a := by omega
          have e2 : (16 * digV a + digV b) % 16 = digV b := by omega
          have : hexL ((16 * digV a + digV b) :: ys) = digC ((16 * digV a + digV b) / 16) :: digC ((16 * digV a + digV b) % 16) :: hexL ys := by simp [hexL]
          rw [this, e1, e2, digV_C ga, digV_C gb, e]
        · rcases List.mem_cons.1 hx with rfl | hx
          · omega
          · exact hb x hx

theorem digit_spec {w : World} {c : Int} (h0 : 0 ≤ c) (h1 : c ≤ 255) : Run Try.prog 34 #[.int .u8 c] w fun v w' => v = .int .i64 (digV c) ∧ w' = w := by
  have j1 : ∀ t : Bool, t = decide (97 ≤ c ∧ c ≤ 102) → ¬ (48 ≤ c ∧ c ≤ 57) → word_digit.J1 (fun v w' => v = .int .i64 (digV c) ∧ w' = w) c t w := by
    intro t ht hn
    refine ifP_of (fun h => ?_) (fun h => ?_)
    · have hc : 97 ≤ c ∧ c ≤ 102 := by rw [h] at ht; exact of_decide_eq_true ht.symm
      rw [wrap_u8 (by omega) (by omega), wrap_i64 (x := c - 97) (by omega) (by omega), wrap_i64 (by omega) (by omega)]
      have : digV c = c - 97 + 10 := by unfold digV; rw [if_neg hn, if_pos hc]; omega
      rw [this]; exact ⟨rfl, rfl⟩
    · have hc : ¬ (97 ≤ c ∧ c ≤ 102) := by rw [h] at ht; exact of_decide_eq_false ht.symm
      have : digV c = -1 := by unfold digV; rw [if_neg hn, if_neg hc]
      rw [this]; exact ⟨rfl, rfl⟩
  have j0 : ∀ t : Bool, t = decide (48 ≤ c ∧ c ≤ 57) → word_digit.J0 (fun v w' => v = .int .i64 (digV c) ∧ w' = w) c t w := by
    intro t ht
    refine ifP_of (fun h => ?_) (fun h => ?_)
    · have hc : 48 ≤ c ∧ c ≤ 57 := by rw [h] at ht; exact of_decide_eq_true ht.symm
      rw [wrap_u8 (by omega) (by omega), wrap_i64 (by omega) (by omega)]
      have : digV c = c - 48 := by unfold digV; rw [if_pos hc]
      rw [this]; exact ⟨rfl, rfl⟩
    · have hc : ¬ (48 ≤ c ∧ c ≤ 57) := by rw [h] at ht; exact of_decide_eq_false ht.symm
      refine ifP_dec (fun h => j1 _ ?_ hc) (fun h => j1 _ ?_ hc)
      · simp; omega
      · simp; omega
  refine word_digit.ok (ifP_dec (fun h => j0 _ ?_) (fun h => j0 _ ?_))
  · simp; omega
  · simp; omega

theorem rdigit_spec {w : World} {c : Int} (h0 : 0 ≤ c) (h1 : c ≤ 255) : Run Try.prog 35 #[.int .u8 c] w fun v w' => v = .int .i64 (digV c) ∧ w' = w := by
  have j1 : ∀ t : Bool, t = decide (97 ≤ c ∧ c ≤ 102) → ¬ (48 ≤ c ∧ c ≤ 57) → ref1_Digit.J1 (fun v w' => v = .int .i64 (digV c) ∧ w' = w) c t w := by
    intro t ht hn
    refine ifP_of (fun h => ?_) (fun h => ?_)
    · have hc : 97 ≤ c ∧ c ≤ 102 := by rw [h] at ht; exact of_decide_eq_true ht.symm
      rw [wrap_i64 (x := c) (by omega) (by omega), wrap_i64 (x := c - 97) (by omega) (by omega), wrap_i64 (by omega) (by omega)]
      have : digV c = c - 97 + 10 := by unfold digV; rw [if_neg hn, if_pos hc]; omega
      rw [this]; exact ⟨rfl, rfl⟩
    · have hc : ¬ (97 ≤ c ∧ c ≤ 102) := by rw [h] at ht; exact of_decide_eq_false ht.symm
      have : digV c = -1 := by unfold digV; rw [if_neg hn, if_neg hc]
      rw [this]; exact ⟨rfl, rfl⟩
  have j0 : ∀ t : Bool, t = decide (48 ≤ c ∧ c ≤ 57) → ref1_Digit.J0 (fun v w' => v = .int .i64 (digV c) ∧ w' = w) c t w := by
    intro t ht
    refine ifP_of (fun h => ?_) (fun h => ?_)
    · have hc : 48 ≤ c ∧ c ≤ 57 := by rw [h] at ht; exact of_decide_eq_true ht.symm
      rw [wrap_i64 (x := c) (by omega) (by omega), wrap_i64 (by omega) (by omega)]
      have : digV c = c - 48 := by unfold digV; rw [if_pos hc]
      rw [this]; exact ⟨rfl, rfl⟩
    · have hc : ¬ (48 ≤ c ∧ c ≤ 57) := by rw [h] at ht; exact of_decide_eq_false ht.symm
      refine ifP_dec (fun h => j1 _ ?_ hc) (fun h => j1 _ ?_ hc)
      · simp; omega
      · simp; omega
  refine ref1_Digit.ok (ifP_dec (fun h => j0 _ ?_) (fun h => j0 _ ?_))
  · simp; omega
  · simp; omega

theorem DIG_size : ByteArray.size (ByteArray.mk #[48, 49, 50, 51, 52, 53, 54, 55, 56, 57, 97, 98, 99, 100, 101, 102]) = 16 := rfl

/-- One byte's two digits are appended. -/
theorem hex_step {w w1 : World} {O : Option Addr} {oc : Nat} {ys : List Int} {b : Int} (hO : OBytes w O oc ys)
    (h1 : w1.heap[w.heap.size]? = some (.cells #[.int .u8 (digC (b / 16)), .int .u8 (digC (b % 16))] 5 (0, 0))) (x1 : Ext w w1) (hn : ys.length + 2 ≤ 140737488355328) :
    ∃ O' oc' w2, (Builtin.append_ #[22, 22] 22 #[.slice O ys.length oc, .slice (some (newA w)) 2 2]).run Try.prog w1 = .ok (.slice O' (ys ++ [digC (b / 16), digC (b % 16)]).length oc') w2 ∧
      OBytes w2 O' oc' (ys ++ [digC (b / 16), digC (b % 16)]) ∧ Keep (blk O) w1 w2 ∧ (∀ k, blk O' k → blk O k ∨ w1.heap.size ≤ k) := by
  have hB : RdC w1 (some (newA w)) ([digC (b / 16), digC (b % 16)].map (Value.int .u8)) := by
    have : Own 5 1 w1 (some (newA w)) 2 ([digC (b / 16), digC (b % 16)].map (Value.int .u8)) := .inr ⟨_, [], rfl, h1, rfl⟩
    exact this.cells
  obtain ⟨O', oc', w2, hr, hO', hc', hk, hb⟩ := append_own slBytes (ty := 22) (d := 2) (hO.ext x1) (n := ys.length) (by simp) hB (m := 2) rfl (cellsBytes _) (by omega) (by omega)
  refine ⟨O', oc', w2, by simpa using hr, by rw [OBytes, List.map_append]; exact hO', hk, hb⟩

theorem hexL_length (xs : List Int) : (hexL xs).length = 2 * xs.length := by
  induction xs with
  | nil => rfl
  | cons b xs ih => simp [hexL] at ih ⊢; omega

theorem hexL_take {xs : List Int} {i : Nat} {b : Int} (h : xs[i]? = some b) : hexL (xs.take (i + 1)) = hexL (xs.take i) ++ [digC (b / 16), digC (b % 16)] := by
  rw [List.take_add_one, h]
  simp [hexL]

theorem str_t : Try.prog.underlying 9 = some .string := by kernel_rfl
theorem u8_t : Try.prog.underlying 5 = some (.int .u8) := by kernel_rfl

theorem hex_spec {w : World} {A : Option Addr} {n c : Nat} {xs : List Int} (h : IBytes w A n xs) (hx : Bytes xs) (hn : 2 * n ≤ 140737488355328) :
    Run Try.prog 24 #[.slice A n c] w fun v w' => v = .string (ofBytes (hexL xs)) ∧ Ext w w' := by
  have loop : ∀ (d i : Nat), n - i = d → i ≤ n → ∀ (w' : World) (O : Option Addr) (oc : Nat), Ext w w' → OBytes w' O oc (hexL (xs.take i)) → (∀ k, blk O k → w.heap.size ≤ k) →
      word_Hex.L0 (fun v w' => v = .string (ofBytes (hexL xs)) ∧ Ext w w') O (hexL (xs.take i)).length oc A n c n i w' := by
    intro d
    induction d with
    | zero =>
      intro i hd hi w' O oc hw hO hb
      have e : xs.take i = xs := List.take_of_length_le (by rw [h.len]; omega)
      rw [e] at hO ⊢
      exact word_Hex.L0_step (ifP_no (by omega) ⟨_, w', bytes_string slBytes.und u8_t str_t hO.cells rfl, _, rfl, rfl, hw⟩)
    | succ d ih =>
      intro i hd hi w' O oc hw hO hb
      have hlt : i < n := by omega
      obtain ⟨a, rfl, ha⟩ := (h.ext hw).at hlt
      have hget : xs[i]? = some (xs[i]'(by rw [h.len]; exact hlt)) := List.getElem?_eq_getElem _
      have hby := hx _ (List.getElem_mem (l := xs) (n := i) (by rw [h.len]; exact hlt))
      generalize xs[i]'(by rw [h.len]; exact hlt) = b at *
      have hl : (hexL (xs.take i)).length + 2 ≤ 140737488355328 := by rw [hexL_length, List.length_take]; omega
      refine word_Hex.L0_step ?_
      rw [word_Hex.B0]
      refine ifP_yes (by omega) ⟨by omega, by omega, a, rfl, b, ha, letD fun w1 h1 x1 => ?_⟩
      rw [fdiv_16, andI_15 hby.1 hby.2, DIG_size]
      refine ⟨by omega, by omega, by omega, by omega, letA fun w2 h2 x2 s2 => ?_⟩
      obtain ⟨O', oc', w3, hr, hO', hk, hb'⟩ := hex_step (b := b) (hO.ext x1) h2 x2 hl
      refine ⟨_, w3, hr, _, _, _, rfl, ?_⟩
      unfold word_Hex.J0
      rw [wrap_i64 (by omega) (by omega), ← hexL_take hget] at *
      refine ih (i + 1) (by omega) (by omega) w3 O' oc' (((hw.trans x1).trans x2).fresh hk hb) hO' fun k hk' => ?_
      rcases hb' k hk' with h | h
      · exact hb k h
      · have := ((hw.trans x1).trans x2).size; omega
  have e : IntKind.i64.wrap (2 * (n : Int)) = ((2 * n : Nat) : Int) := by rw [wrap_i64 (by omega) (by omega)]; omega
  refine word_Hex.ok ?_
  rw [word_Hex.vc, e]
  obtain ⟨w2, hr, hO, hx2, hs⟩ := make_zero slBytes (w := w) (c := ((2 * n : Nat) : Int)) (by omega) (by omega) (by omega)
  exact ⟨_, w2, hr, _, _, _, rfl, loop n 0 (by omega) (by omega) w2 _ _ hx2 hO fun k hk => by rw [blk_some.1 hk]; exact Nat.le_refl _⟩

theorem rhex_spec {w : World} {A : Option Addr} {n c : Nat} {xs : List Int} (h : IBytes w A n xs) (hx : Bytes xs) (hn : 2 * n ≤ 140737488355328) :
    Run Try.prog 25 #[.slice A n c] w fun v w' => v = .string (ofBytes (hexL xs)) ∧ Ext w w' := by
  have loop : ∀ (d i : Nat), n - i = d → i ≤ n → ∀ (w' : World) (O : Option Addr) (oc : Nat), Ext w w' → OBytes w' O oc (hexL (xs.take i)) → (∀ k, blk O k → w.heap.size ≤ k) →
      ref1_Hex.L0 (fun v w' => v = .string (ofBytes (hexL xs)) ∧ Ext w w') A n c O (hexL (xs.take i)).length oc i w' := by
    intro d
    induction d with
    | zero =>
      intro i hd hi w' O oc hw hO hb
      have e : xs.take i = xs := List.take_of_length_le (by rw [h.len]; omega)
      rw [e] at hO ⊢
      exact ref1_Hex.L0_step (ifP_no (by omega) ⟨_, w', bytes_string slBytes.und u8_t str_t hO.cells rfl, _, rfl, rfl, hw⟩)
    | succ d ih =>
      intro i hd hi w' O oc hw hO hb
      have hlt : i < n := by omega
      obtain ⟨a, rfl, ha⟩ := (h.ext hw).at hlt
      have hw0 : ∃ ha0 : Addr, True := ⟨a, trivial⟩
      have hget : xs[i]? = some (xs[i]'(by rw [h.len]; exact hlt)) := List.getElem?_eq_getElem _
      have hby := hx _ (List.getElem_mem (l := xs) (n := i) (by rw [h.len]; exact hlt))
      obtain ⟨a0, ea0, ha0⟩ := h.at hlt
      obtain rfl := Option.some.inj ea0
      generalize xs[i]'(by rw [h.len]; exact hlt) = b at *
      have hl : (hexL (xs.take i)).length + 2 ≤ 140737488355328 := by rw [hexL_length, List.length_take]; omega
      refine ref1_Hex.L0_step ?_
      rw [ref1_Hex.B0]
      refine ifP_yes (by omega) ⟨fun u => Ext w u, hw.trans (Ext.drew _), letD fun w1 h1 x1 => ⟨by omega, by omega, a, rfl, b, fun u hu => hu.cell ha0, ?_⟩⟩
      rw [fdiv_16, DIG_size]
      refine ⟨by omega, by omega, by omega, by omega, a, rfl, b, fun u hu => hu.cell ha0, ?_⟩
      rw [andI_15 hby.1 hby.2]
      refine ⟨by omega, by omega, letA fun w2 h2 x2 s2 => ⟨(hw.trans x1).trans x2, ?_⟩⟩
      obtain ⟨O', oc', w3, hr, hO', hk, hb'⟩ := hex_step (b := b) (hO.ext x1) h2 x2 hl
      have x3 : Ext w w3 := ((hw.trans x1).trans x2).fresh hk hb
      refine ⟨_, w3, hr, _, _, _, rfl, x3, ?_⟩
      unfold ref1_Hex.J0
      rw [wrap_i64 (by omega) (by omega), ← hexL_take hget] at *
      refine ih (i + 1) (by omega) (by omega) w3 O' oc' x3 hO' fun k hk' => ?_
      rcases hb' k hk' with h | h
      · exact hb k h
      · have := ((hw.trans x1).trans x2).size; omega
  exact ref1_Hex.ok (loop n 0 (by omega) (by omega) w none 0 (Ext.refl w) Own.empty fun k hk => (blk_none hk).elim)

end Go.Proofs.Ythedafjbhnibnaa
