/- Package check: Check; the document's too. -/
import Derived.Test.YtbchjihecdkfeaaCK1
namespace Go.Proofs.Ytbchjihecdkfeaa
open Go.Rd Go.RowKit
set_option linter.unusedVariables false
set_option linter.unusedSimpArgs false

/-! ## What it is -/

abbrev Inss (xs : List Ins) : Prop := ∀ i ∈ xs, i.ok
/-- The first place at which something is wrong, and what. -/
def wrongFrom (n : Int) : Int → List Ins → Option (Int × Int)
  | _, [] => none
  | a, i :: r => if wrongAt n a i ≠ 0 then some (a, wrongAt n a i) else wrongFrom n (a + 1) r
/-- Is the last one a return? -/
def endsRet (xs : List Ins) : Bool := match xs.getLast? with | some i => decide (classOf i.c = 6) | none => false
def checkV (xs : List Ins) : Int × Int :=
  if xs.length = 0 then (0, 40) else if 4096 < xs.length then (4096, 41) else
  match wrongFrom xs.length 0 xs with
  | some p => p
  | none => if endsRet xs = true then (0, 0) else ((xs.length : Int) - 1, 47)

theorem getLast_at {xs : List Ins} {n : Nat} {x : Ins} (hl : xs.length = n) (h : xs[n - 1]? = some x) : xs.getLast? = some x := by
  rw [List.getLast?_eq_getElem?, hl]; exact h

/-! ## The walk -/

section
variable {W : World} {A B : Option Addr} {n c bc : Nat} {xs : List Ins} {R : Value → World → Prop} {L : AskList}

theorem check_end (h : IInsns W A n xs) (hn0 : 0 < n) (hn1 : n ≤ 4096) {p e : Int} (hR : ∀ w, Ext W w → (if e = 0 then (if endsRet xs = true then R (.tuple #[.int .i64 p, .int .i64 e]) w else R (.tuple #[.int .i64 ((n : Int) - 1), .int .i64 47]) w) else R (.tuple #[.int .i64 p, .int .i64 e]) w)) :
    ∀ w, Ext W w → check_Check.J0 R A n c p e w := by
  intro w hw
  have hr := hR w hw
  refine ifP_beq.2 ⟨fun he => ?_, fun hne => ?_⟩
  · rw [if_pos he] at hr
    rw [wrap_i64 (by omega) (by omega)]
    obtain ⟨a, x, rfl, hx, hc⟩ := IInsns.at4 (h.ext hw) (i := n - 1) (by omega)
    have e1 : Int.toNat ((n : Int) - 1) = n - 1 := by omega
    refine ⟨by omega, by omega, a, rfl, x.c, by rw [e1]; exact hc.c, class_spec.mono ?_⟩
    rintro v w2 ⟨rfl, rfl⟩
    have el : endsRet xs = decide (classOf x.c = 6) := by unfold endsRet; rw [getLast_at h.len hx]
    refine ⟨_, rfl, ifP_bne.2 ⟨fun h6 => ?_, fun h6 => ?_⟩⟩
    · rw [el, decide_eq_false h6] at hr; exact hr
    · rw [el, decide_eq_true h6] at hr; exact hr
  · rw [if_neg hne] at hr
    exact hr

theorem ask_loop (hL : Rd Prod.fst W B L.length L) (hll : L.length ≤ 100) (ha : ∀ p ∈ L, Asks n W p.1 p.2) {a : Nat} {i : Ins} {q : Addr} (hi : i.ok) (han : a < n)
    (hR : ∀ w, Ext W w → if firstE a i L ≠ 0 then check_Check.J0 R A n c a (firstE a i L) w else check_Check.L0 R A n c B L.length bc 0 0 A n c n (IntKind.i64.wrap ((a : Int) + 1)) w) (hq : At4 W q i) :
    ∀ (d j : Nat), L.length - j = d → j ≤ L.length → firstE a i L = firstE a i (L.drop j) → ∀ w, Ext W w → check_Check.L2 R A n c B L.length bc 0 0 a q A n c n a B L.length bc L.length j w := by
  intro d
  induction d with
  | zero =>
    intro j hd hj he w hw
    refine check_Check.L2_step (ifP_no (by omega) ?_)
    have e0 : firstE a i L = 0 := by rw [he, List.drop_of_length_le (by omega)]; rfl
    have := hR w hw
    rw [if_neg (by rw [e0]; decide)] at this
    exact this
  | succ d ih =>
    intro j hd hj he w hw
    have hlt : j < L.length := by omega
    obtain ⟨b, hb, hcell⟩ := (hL.ext hw).at hlt
    subst hb
    have hq2 := hq.ext hw
    obtain ⟨g, fs, cs, hf, hg, hrun⟩ := ha _ (List.getElem_mem hlt) w hw a i hi (by omega) (by omega)
    refine check_Check.L2_step (ifP_yes (by omega) ⟨by omega, by omega, b, rfl, _, hcell, _, hq2.c, _, hq2.t, _, hq2.f, _, hq2.k, g, fs, cs, hf, hg, hrun.mono ?_⟩)
    rintro v w2 ⟨rfl, x2⟩
    have hdr : L.drop j = L[j] :: L.drop (j + 1) := List.drop_eq_getElem_cons hlt
    rw [hdr] at he
    simp only [firstE] at he
    refine ⟨_, rfl, ifP_bne.2 ⟨fun hne => ?_, fun h0 => ?_⟩⟩
    · rw [if_pos hne] at he
      have := hR w2 (hw.trans x2)
      rw [he, if_pos hne] at this
      exact this
    · rw [if_neg (by simpa using h0)] at he
      rw [h0, wrap_i64 (by omega) (by omega)]
      exact ih (j + 1) (by omega) (by omega) he w2 (hw.trans x2)

theorem check_loop (h : IInsns W A n xs) (hi : Inss xs) (hn0 : 0 < n) (hn1 : n ≤ 4096) (hL : Rd Prod.fst W B L.length L) (hll : L.length ≤ 100) (ha : ∀ p ∈ L, Asks n W p.1 p.2) (hE : ∀ a i, firstE a i L = wrongAt n a i)
    (hR : ∀ w, Ext W w → R (.tuple #[.int .i64 (checkV xs).1, .int .i64 (checkV xs).2]) w) :
    ∀ (d k : Nat), n - k = d → k ≤ n → wrongFrom n 0 xs = wrongFrom n k (xs.drop k) → ∀ w, Ext W w → check_Check.L0 R A n c B L.length bc 0 0 A n c n k w := by
  intro d
  have hl := h.len
  have hV : checkV xs = match wrongFrom n 0 xs with | some p => p | none => if endsRet xs = true then (0, 0) else ((n : Int) - 1, 47) := by
    unfold checkV
    rw [if_neg (by omega), if_neg (by omega), hl]
  induction d with
  | zero =>
    intro k hd hk he w hw
    refine check_Check.L0_step (ifP_no (by omega) (check_end h hn0 hn1 (fun w hw => ?_) w hw))
    rw [List.drop_of_length_le (by omega)] at he
    rw [he] at hV
    simp only [wrongFrom] at hV
    rw [if_pos rfl]
    have := hR w hw
    rw [hV] at this
    split
    · rename_i hr; rw [if_pos hr] at this; exact this
    · rename_i hr; rw [if_neg hr] at this; exact this
  | succ d ih =>
    intro k hd hk he w hw
    obtain ⟨b, x, rfl, hx, hc⟩ := IInsns.at4 (h.ext hw) (i := k) (by omega)
    have hxo : x.ok := hi x (List.mem_of_getElem? hx)
    have hdr : xs.drop k = x :: xs.drop (k + 1) := by
      obtain ⟨hk2, hk3⟩ := List.getElem?_eq_some_iff.1 hx
      rw [List.drop_eq_getElem_cons hk2, hk3]
    rw [hdr] at he
    simp only [wrongFrom] at he
    refine check_Check.L0_step (ifP_yes (by omega) ⟨by omega, by omega, b, rfl, _, hc.c, _, hc.t, _, hc.f, _, hc.k, letA fun w2 h2 x2 s2 => ?_⟩)
    refine storeRow_block (cs := #[.int .u16 0, .int .u8 0, .int .u8 0, .int .u32 0]) (off := 0) h2 (by simp) rfl fun w3 h3 k3 s3 => ?_
    have x3 : Ext w w3 := x2.fresh k3 fun k hk => by have : k = w.heap.size := hk; omega
    have b3 : At4 w3 (newA w) x := At4.box (w := w) (i := x) h3
    have hw3 := hw.trans x3
    refine ask_loop (W := w3) (hL.ext hw3) hll (fun p hp w' hw' => ha p hp w' (hw3.trans hw')) hxo (by omega) (fun w4 hw4 => ?_) b3 L.length 0 (by omega) (by omega) rfl w3 (Ext.refl w3)
    rw [hE]
    split
    · rename_i hne
      rw [if_pos hne] at he
      rw [he] at hV
      refine check_end h hn0 hn1 (fun w5 hw5 => ?_) w4 (hw3.trans hw4)
      rw [if_neg hne]
      have := hR w5 hw5
      rwa [hV] at this
    · rename_i hne
      rw [if_neg hne] at he
      rw [wrap_i64 (by omega) (by omega)]
      exact ih (k + 1) (by omega) (by omega) (by rw [he]; rfl) w4 (hw3.trans hw4)
end

theorem check_spec {w : World} {A : Option Addr} {n c : Nat} {xs : List Ins} (h : IInsns w A n xs) (hi : Inss xs) (hn : n ≤ 281474976710656) :
    Run Try.prog 39 #[.slice A n c] w fun v w' => v = .tuple #[.int .i64 (checkV xs).1, .int .i64 (checkV xs).2] ∧ Ext w w' := by
  have hl := h.len
  refine check_Check.ok (ifP_beq.2 ⟨fun h0 => ?_, fun h0 => ifP_decide.2 ⟨fun h1 => ?_, fun h1 => ?_⟩⟩)
  · have e : checkV xs = (0, 40) := by unfold checkV; rw [if_pos (by omega)]
    rw [e]; exact ⟨rfl, Ext.refl w⟩
  · have e : checkV xs = (4096, 41) := by unfold checkV; rw [if_neg (by omega), if_pos (by omega)]
    rw [e]; exact ⟨rfl, Ext.refl w⟩
  · refine (asked_spec (n := (n : Int)) (by omega) (by omega)).mono ?_
    rintro v w2 ⟨B, L, rfl, hL, x2, ha, hE⟩
    have h5 := hL.len
    refine ⟨_, _, _, rfl, ?_⟩
    have := check_loop (R := fun v w' => v = .tuple #[.int .i64 (checkV xs).1, .int .i64 (checkV xs).2] ∧ Ext w w') (c := c) (bc := 5) (h.ext x2) hi (by omega) (by omega) (L := L) (B := some B) (by rw [h5]; exact hL) (by omega) ha hE (fun w' hw' => ⟨rfl, x2.trans hw'⟩) n 0 (by omega) (by omega) rfl w2 (Ext.refl w2)
    rw [h5] at this
    exact this

/-! ## The document's -/

theorem jmp_iff (c : Int) : classOf c = 5 ↔ c = 5 ∨ c ∈ rJumpL := by
  by_cases h : isKnown c = true
  · have h1 : ∀ x ∈ knownL ++ (aluL ++ testL), (classOf x = 5 ↔ x = 5 ∨ x ∈ rJumpL) := by decide +kernel
    exact h1 c (of_decide_eq_true h)
  · have h2 : classOf c = -1 := by unfold classOf; rw [if_neg h]
    have h3 : ∀ x ∈ (5 : Int) :: rJumpL, isKnown x = true := by decide +kernel
    rw [h2]
    exact ⟨fun h => absurd h (by decide), fun h4 => absurd (h3 c (List.mem_cons.2 h4)) h⟩
theorem ret_iff (c : Int) : classOf c = 6 ↔ c = 6 ∨ c = 22 := by
  by_cases h : isKnown c = true
  · have h1 : ∀ x ∈ knownL ++ (aluL ++ testL), (classOf x = 6 ↔ x = 6 ∨ x = 22) := by decide +kernel
    exact h1 c (of_decide_eq_true h)
  · have h2 : classOf c = -1 := by unfold classOf; rw [if_neg h]
    have h3 : ∀ x ∈ [(6 : Int), 22], isKnown x = true := by decide +kernel
    rw [h2]
    exact ⟨fun h => absurd h (by decide), fun h4 => absurd (h3 c (by simpa using h4)) h⟩
theorem known_eq (c : Int) : isKnown c = isRKnown c := by
  have h1 : ∀ x ∈ knownL ++ (aluL ++ testL), x ∈ rKnownL ++ (rJumpL ++ rOperationL) := by decide +kernel
  have h2 : ∀ x ∈ rKnownL ++ (rJumpL ++ rOperationL), x ∈ knownL ++ (aluL ++ testL) := by decide +kernel
  unfold isKnown isRKnown
  rw [Bool.eq_iff_iff, decide_eq_true_eq, decide_eq_true_eq]
  exact ⟨h1 c, h2 c⟩

theorem rReturn_spec {w : World} {c : Int} : Run Try.prog 57 #[.int .u16 c] w fun v w' => v = .bool (decide (classOf c = 6)) ∧ w' = w := by
  refine ref2_Return.ok (ifP_beq.2 ⟨fun h => ⟨?_, rfl⟩, fun h => ⟨?_, rfl⟩⟩)
  · rw [decide_eq_true ((ret_iff c).2 (.inl h))]
  · congr 1
    rw [Bool.eq_iff_iff, decide_eq_true_eq, ret_iff, beq_iff_eq]
    exact ⟨.inr, fun h2 => h2.resolve_left h⟩

theorem fault_spec {w : World} {i : Ins} : Run Try.prog 69 #[.agg #[.int .u16 i.c, .int .u8 i.t, .int .u8 i.f, .int .u32 i.k]] w fun v w' => v = .int .i64 (faultOf i) ∧ Ext w w' := by
  refine ref4_Fault.ok (letA fun w1 h1 x1 s1 => ?_)
  have b := At4.box (i := i) h1
  refine ⟨_, b.c, rKnown_spec.mono ?_⟩
  rintro v w2 ⟨rfl, rfl⟩
  have kn : decide (i.c ∈ rKnownL ++ (rJumpL ++ rOperationL)) = isKnown i.c := (known_eq i.c).symm
  refine ⟨_, rfl, ?_⟩
  rw [kn]
  refine ifP_not.2 (ifP_of (fun hk => ?_) fun hk => ⟨by rw [faultOf, if_neg (by rw [hk]; decide)], x1⟩)
  have j2 : ∀ (t : Bool), (t = true ↔ (i.c = 100 ∨ i.c = 116) ∧ 31 < i.k) → ¬ (i.c ∈ wordsL ∧ 16 ≤ i.k) → ¬ ((i.c = 52 ∨ i.c = 148) ∧ i.k = 0) → ref4_Fault.J2 (fun v w' => v = .int .i64 (faultOf i) ∧ Ext w w') t w2 := by
    intro t ht n1 n2
    refine ifP_of (fun h => ⟨?_, x1⟩) fun h => ⟨?_, x1⟩
    · rw [faultOf, if_pos hk, if_neg n1, if_neg n2, if_pos (ht.1 h)]
    · rw [faultOf, if_pos hk, if_neg n1, if_neg n2, if_neg (fun h2 => by rw [ht.2 h2] at h; cases h)]
  have j1 : ∀ (t : Bool), (t = true ↔ (i.c = 52 ∨ i.c = 148) ∧ i.k = 0) → ¬ (i.c ∈ wordsL ∧ 16 ≤ i.k) → ref4_Fault.J1 (fun v w' => v = .int .i64 (faultOf i) ∧ Ext w w') (newA w) t w2 := by
    intro t ht n1
    refine ifP_of (fun h => ⟨by rw [faultOf, if_pos hk, if_neg n1, if_pos (ht.1 h)], x1⟩) fun h => ?_
    have n2 : ¬ ((i.c = 52 ∨ i.c = 148) ∧ i.k = 0) := fun h2 => by rw [ht.2 h2] at h; cases h
    refine ⟨_, b.c, ifP_beq.2 ⟨fun hc => ⟨_, b.k, j2 _ ?_ n1 n2⟩, fun hc => ⟨_, b.c, ifP_beq.2 ⟨fun hd => ⟨_, b.k, j2 _ ?_ n1 n2⟩, fun hd => j2 _ ?_ n1 n2⟩⟩⟩⟩
    · rw [decide_eq_true_eq]; exact ⟨fun h => ⟨.inl hc, h⟩, fun h => h.2⟩
    · rw [decide_eq_true_eq]; exact ⟨fun h => ⟨.inr hd, h⟩, fun h => h.2⟩
    · exact ⟨fun h => (by cases h), fun h => (h.1.elim hc hd).elim⟩
  have j0 : ∀ (t : Bool), (t = true ↔ i.c ∈ wordsL ∧ 16 ≤ i.k) → ref4_Fault.J0 (fun v w' => v = .int .i64 (faultOf i) ∧ Ext w w') (newA w) t w2 := by
    intro t ht
    refine ifP_of (fun h => ⟨by rw [faultOf, if_pos hk, if_pos (ht.1 h)], x1⟩) fun h => ?_
    have n1 : ¬ (i.c ∈ wordsL ∧ 16 ≤ i.k) := fun h2 => by rw [ht.2 h2] at h; cases h
    refine ⟨_, b.c, ifP_beq.2 ⟨fun hc => ⟨_, b.k, j1 _ ?_ n1⟩, fun hc => ⟨_, b.c, ifP_beq.2 ⟨fun hd => ⟨_, b.k, j1 _ ?_ n1⟩, fun hd => j1 _ ?_ n1⟩⟩⟩⟩
    · rw [beq_iff_eq]; exact ⟨fun h => ⟨.inl hc, h⟩, fun h => h.2⟩
    · rw [beq_iff_eq]; exact ⟨fun h => ⟨.inr hd, h⟩, fun h => h.2⟩
    · exact ⟨fun h => (by cases h), fun h => (h.1.elim hc hd).elim⟩
  have mem : i.c ∈ wordsL ↔ i.c = 2 ∨ i.c = 3 ∨ i.c = 96 ∨ i.c = 97 := by simp [wordsL]
  have yes : i.c ∈ wordsL → (decide (i.k ≥ 16) = true ↔ i.c ∈ wordsL ∧ 16 ≤ i.k) := fun h => by rw [decide_eq_true_eq]; exact ⟨fun h2 => ⟨h, h2⟩, fun h => h.2⟩
  refine ⟨_, b.c, ifP_beq.2 ⟨fun hc => ⟨_, b.k, j0 _ (yes (mem.2 (.inl hc)))⟩, fun hc => ⟨_, b.c, ifP_beq.2 ⟨fun hd => ⟨_, b.k, j0 _ (yes (mem.2 (.inr (.inl hd))))⟩, fun hd => ⟨_, b.c, ifP_beq.2 ⟨fun he => ⟨_, b.k, j0 _ (yes (mem.2 (.inr (.inr (.inl he)))))⟩,
    fun he => ⟨_, b.c, ifP_beq.2 ⟨fun hf => ⟨_, b.k, j0 _ (yes (mem.2 (.inr (.inr (.inr hf)))))⟩, fun hf => j0 _ ?_⟩⟩⟩⟩⟩⟩⟩⟩
  exact ⟨fun h => (by cases h), fun h => by rcases mem.1 h.1 with h | h | h | h <;> contradiction⟩

theorem rcheck_loop {W : World} {A : Option Addr} {n c : Nat} {xs : List Ins} {R : Value → World → Prop} (h : IInsns W A n xs) (hi : Inss xs) (hn0 : 0 < n) (hn1 : n ≤ 4096)
    (hR : ∀ w, Ext W w → R (.tuple #[.int .i64 (checkV xs).1, .int .i64 (checkV xs).2]) w) :
    ∀ (d k : Nat), n - k = d → k ≤ n → wrongFrom n 0 xs = wrongFrom n k (xs.drop k) → ∀ w, Ext W w → ref4_Check.L0 R A n c n k w := by
  intro d
  have hl := h.len
  have hV : checkV xs = match wrongFrom n 0 xs with | some p => p | none => if endsRet xs = true then (0, 0) else ((n : Int) - 1, 47) := by
    unfold checkV
    rw [if_neg (by omega), if_neg (by omega), hl]
  induction d with
  | zero =>
    intro k hd hk he w hw
    rw [List.drop_of_length_le (by omega)] at he
    rw [he] at hV
    simp only [wrongFrom] at hV
    obtain ⟨a, x, rfl, hx, hc⟩ := IInsns.at4 (h.ext hw) (i := n - 1) (by omega)
    have e1 : Int.toNat ((n : Int) - 1) = n - 1 := by omega
    refine ref4_Check.L0_step ?_
    unfold ref4_Check.B0
    rw [wrap_i64 (x := (n : Int) - 1) (by omega) (by omega)]
    refine ifP_no (by omega) ⟨by omega, by omega, a, rfl, x.c, by rw [e1]; exact hc.c, rReturn_spec.mono ?_⟩
    rintro v w2 ⟨rfl, rfl⟩
    have el : endsRet xs = decide (classOf x.c = 6) := by unfold endsRet; rw [getLast_at hl hx]
    have hr := hR w2 hw
    rw [hV, el] at hr
    refine ⟨_, rfl, ifP_not.2 (ifP_of (fun h6 => ?_) fun h6 => ?_)⟩
    · rw [if_pos h6] at hr; exact hr
    · rw [if_neg (by rw [h6]; decide)] at hr; exact hr
  | succ d ih =>
    intro k hd hk he w hw
    obtain ⟨b, x, rfl, hx, hc⟩ := IInsns.at4 (h.ext hw) (i := k) (by omega)
    have hxo : x.ok := hi x (List.mem_of_getElem? hx)
    obtain ⟨oc, ot, of, ok⟩ := hxo
    have hdr : xs.drop k = x :: xs.drop (k + 1) := by
      obtain ⟨hk2, hk3⟩ := List.getElem?_eq_some_iff.1 hx
      rw [List.drop_eq_getElem_cons hk2, hk3]
    rw [hdr] at he
    simp only [wrongFrom] at he
    refine ref4_Check.L0_step ?_
    unfold ref4_Check.B0
    rw [wrap_i64 (x := (n : Int) - 1) (by omega) (by omega), wrap_i64 (x := (n : Int) - 1 - k) (by omega) (by omega), wrap_u32 (x := (n : Int) - 1 - k) (by omega) (by omega)]
    refine ifP_yes (by omega) ⟨by omega, by omega, b, rfl, _, hc.c, _, hc.t, _, hc.f, _, hc.k, fault_spec.mono ?_⟩
    rintro v w2 ⟨rfl, x2⟩
    have hw2 := hw.trans x2
    refine ⟨_, rfl, ifP_bne.2 ⟨fun hne => ?_, fun h0 => ?_⟩⟩
    · have e1 : wrongAt n k x = faultOf x := by unfold wrongAt; rw [if_pos hne]
      rw [e1, if_pos hne] at he
      rw [he] at hV
      have := hR w2 hw2
      rw [hV] at this
      exact this
    · have e1 : wrongAt n k x = if jumpBad x ((n : Int) - 1 - k) = true then 46 else 0 := by unfold wrongAt; rw [if_neg (by rw [h0]; decide)]
      have fin : ∀ (t : Bool) w3, t = jumpBad x ((n : Int) - 1 - k) → Ext W w3 → ref4_Check.J0 R (some b) n c n k t w3 := by
        rintro t w3 rfl hw3
        refine ifP_of (fun ht => ?_) fun ht => ?_
        · rw [if_pos ht] at e1
          rw [e1, if_pos (by decide)] at he
          rw [he] at hV
          have := hR w3 hw3
          rw [hV] at this
          exact this
        · rw [if_neg (by rw [ht]; decide)] at e1
          rw [e1, if_neg (by decide)] at he
          rw [wrap_i64 (by omega) (by omega)]
          exact ih (k + 1) (by omega) (by omega) (by rw [he]; rfl) w3 hw3
      have c2 := hc.ext x2
      have rest : ∀ w3, w3 = w2 → ¬ (x.c = 5 ∧ (n : Int) - 1 - k ≤ x.k) → ∀ (t : Bool), t = decide (x.c ∈ rJumpL) → ifP t (0 ≤ (k : Int) ∧ (k : Int) < ((n : Nat) : Int) ∧ ∃ t58p : Addr, some b = some t58p ∧ ∃ t60 : Int, w3.cell? ((t58p.add (Int.toNat k * 4)).add 1) = some (.int .u8 t60) ∧ ifP (decide ((IntKind.i64.wrap t60 : Int) ≥ (n : Int) - 1 - k)) (ref4_Check.J0 R (some b) n c n k true w3) (0 ≤ (k : Int) ∧ (k : Int) < ((n : Nat) : Int) ∧ ∃ t67p : Addr, some b = some t67p ∧ ∃ t69 : Int, w3.cell? ((t67p.add (Int.toNat k * 4)).add 2) = some (.int .u8 t69) ∧ ref4_Check.J0 R (some b) n c n k (decide ((IntKind.i64.wrap t69 : Int) ≥ (n : Int) - 1 - k)) w3)) (ref4_Check.J0 R (some b) n c n k false w3) := by
        rintro w3 rfl n5 t rfl
        refine ifP_decide.2 ⟨fun hj => ⟨by omega, by omega, b, rfl, _, c2.t, ?_⟩, fun hj => fin _ _ ?_ hw2⟩
        · have hn5 : x.c ≠ 5 := fun h => by rw [h] at hj; revert hj; decide
          have hcl := (jmp_iff x.c).2 (.inr hj)
          rw [wrap_i64 (x := x.t) (by omega) (by omega)]
          refine ifP_decide.2 ⟨fun hl => fin _ _ ?_ hw2, fun hl => ⟨by omega, by omega, b, rfl, _, c2.f, fin _ _ ?_ hw2⟩⟩
          · rw [jumpBad, if_pos hcl, if_neg hn5, decide_eq_true (show (n : Int) - 1 - k ≤ x.t from hl)]; rfl
          · rw [wrap_i64 (x := x.f) (by omega) (by omega), jumpBad, if_pos hcl, if_neg hn5, decide_eq_false (show ¬ (n : Int) - 1 - k ≤ x.t from hl)]; rfl
        · unfold jumpBad
          split
          · rename_i hcl
            rcases (jmp_iff x.c).1 hcl with h5 | h5
            · rw [if_pos h5, decide_eq_false (fun h => n5 ⟨h5, h⟩)]
            · exact absurd h5 hj
          · rfl
      refine ⟨by omega, by omega, b, rfl, _, c2.c, ifP_beq.2 ⟨fun h5 => ⟨by omega, by omega, b, rfl, _, c2.k, ifP_decide.2 ⟨fun hl => fin _ _ ?_ hw2, fun hl => ⟨by omega, by omega, b, rfl, _, c2.c, rJump_spec.mono ?_⟩⟩⟩, fun h5 => ⟨by omega, by omega, b, rfl, _, c2.c, rJump_spec.mono ?_⟩⟩⟩
      · rw [jumpBad, if_pos ((jmp_iff x.c).2 (.inl h5)), if_pos h5, decide_eq_true (show (n : Int) - 1 - k ≤ x.k from hl)]
      · rintro v w3 ⟨rfl, rfl⟩
        exact ⟨_, rfl, rest _ rfl (fun h => hl h.2) _ rfl⟩
      · rintro v w3 ⟨rfl, rfl⟩
        exact ⟨_, rfl, rest _ rfl (fun h => h5 h.1) _ rfl⟩

theorem rcheck_spec {w : World} {A : Option Addr} {n c : Nat} {xs : List Ins} (h : IInsns w A n xs) (hi : Inss xs) (hn : n ≤ 281474976710656) :
    Run Try.prog 54 #[.slice A n c] w fun v w' => v = .tuple #[.int .i64 (checkV xs).1, .int .i64 (checkV xs).2] ∧ Ext w w' := by
  have hl := h.len
  refine ref4_Check.ok (ifP_beq.2 ⟨fun h0 => ?_, fun h0 => ifP_decide.2 ⟨fun h1 => ?_, fun h1 => ?_⟩⟩)
  · have e : checkV xs = (0, 40) := by unfold checkV; rw [if_pos (by omega)]
    rw [e]; exact ⟨rfl, Ext.refl w⟩
  · have e : checkV xs = (4096, 41) := by unfold checkV; rw [if_neg (by omega), if_pos (by omega)]
    rw [e]; exact ⟨rfl, Ext.refl w⟩
  · exact rcheck_loop (R := fun v w' => v = .tuple #[.int .i64 (checkV xs).1, .int .i64 (checkV xs).2] ∧ Ext w w') h hi (by omega) (by omega) (fun w' hw' => ⟨rfl, hw'⟩) n 0 (by omega) (by omega) rfl w (Ext.refl w)
end Go.Proofs.Ytbchjihecdkfeaa
