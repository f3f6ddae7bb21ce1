/- Graphs, in plain words: what is taken, runs, sizes. -/
import Derived.Test.YtbchjihecdkfeaaBlDef
import Derived.Test.YtbchjihecdkfeaaVP4
import Derived.Test.YtbchjihecdkfeaaIUses
namespace Go.Proofs.Ytbchjihecdkfeaa
open Go.Rd Go.RowKit
set_option linter.unusedVariables false
set_option linter.unusedSimpArgs false

def ins0 : Ins := ⟨0, 0, 0, 0⟩
def straightB (i : Ins) : Bool := decide (classOf i.c ≠ 5 ∧ classOf i.c ≠ 6 ∧ faultOf i = 0)
def bareB (i : Ins) : Bool := decide (i.t = 0 ∧ i.f = 0 ∧ ((usesB i.c).1 = true ∨ i.k = 0))
def endedB (b : Blk) : Bool :=
  if b.e = 1 then decide (classOf b.last.c = 6 ∧ bareB b.last = true ∧ b.yes = 0 ∧ b.no = 0)
  else if b.e = 2 then decide (b.last = ins0 ∧ b.no = 0)
  else if b.e = 3 then decide (classOf b.last.c = 5 ∧ b.last.c ≠ 5 ∧ bareB b.last = true) else false
def goalsL (b : Blk) : List Int := if b.e = 2 then [b.yes] else if b.e = 3 then [b.yes, b.no] else []
def goalsOk (b : Blk) (at_ n : Int) : Bool := (goalsL b).all fun g => decide (at_ < g ∧ g < n)
/-- What is wrong with a block; all: the codes up to it. -/
def oneV (b : Blk) (at_ all n : Int) : Int :=
  if all > 4096 then 151 else if b.code.all straightB = false then 152 else if endedB b = false then 153 else if goalsOk b at_ n = false then 154 else 0
def gFrom (n : Int) : Int → Int → List Blk → Int × Int
  | _, _, [] => (0, 0)
  | at_, all, b :: r => if oneV b at_ (all + b.code.length) n ≠ 0 then (at_, oneV b at_ (all + b.code.length) n) else gFrom n (at_ + 1) (all + b.code.length) r
def gcheckV (bs : List Blk) : Int × Int := if bs.length = 0 then (0, 150) else if 4096 < bs.length then (4096, 151) else gFrom bs.length 0 0 bs
/-- What it means that blocks are a graph. -/
structure GTaken (bs : List Blk) : Prop where
  pos : 0 < bs.length
  le : bs.length ≤ 4096
  codes : (bs.map (·.code.length)).sum ≤ 4096
  at_ : ∀ (k : Nat) (b : Blk), bs[k]? = some b → b.code.all straightB = true ∧ endedB b = true ∧ goalsOk b k bs.length = true
theorem oneV_zero {b : Blk} {at_ all n : Int} (h : oneV b at_ all n = 0) : all ≤ 4096 ∧ b.code.all straightB = true ∧ endedB b = true ∧ goalsOk b at_ n = true := by
  unfold oneV at h
  split at h
  · cases h
  · split at h
    · cases h
    · split at h
      · cases h
      · split at h
        · cases h
        · rename_i h1 h2 h3 h4
          exact ⟨by omega, by simpa using h2, by simpa using h3, by simpa using h4⟩
theorem gFrom_zero {n : Int} : ∀ {bs : List Blk} {at_ all : Int}, (gFrom n at_ all bs).2 = 0 → (bs ≠ [] → all + (bs.map (·.code.length)).sum ≤ 4096) ∧ (∀ (k : Nat) (b : Blk), bs[k]? = some b → b.code.all straightB = true ∧ endedB b = true ∧ goalsOk b (at_ + k) n = true) ∧ (gFrom n at_ all bs).1 = 0
  | [], at_, all, h => ⟨fun h => absurd rfl h, (fun k b hb => by cases hb), rfl⟩
  | x :: r, at_, all, h => by
    rw [gFrom] at h ⊢
    split at h
    · rename_i hne
      exact absurd h hne
    · rename_i h0
      have h0 := Classical.not_not.1 h0
      obtain ⟨o1, o2⟩ := oneV_zero h0
      obtain ⟨i1, i2, i3⟩ := gFrom_zero h
      rw [if_neg (not_not_intro h0)]
      refine ⟨fun _ => ?_, fun k b hb => ?_, i3⟩
      · rw [List.map_cons, List.sum_cons]
        cases r with
        | nil => simp; omega
        | cons y r => have := i1 (by simp); omega
      · cases k with
        | zero =>
          obtain rfl : x = b := by simpa using hb
          rw [show at_ + ((0 : Nat) : Int) = at_ by omega]
          exact o2
        | succ k =>
          have := i2 k b (by simpa using hb)
          rwa [show at_ + ((k + 1 : Nat) : Int) = at_ + 1 + k by omega]
theorem gtaken_of {bs : List Blk} (h : (gcheckV bs).2 = 0) : GTaken bs ∧ (gcheckV bs).1 = 0 := by
  unfold gcheckV at h ⊢
  split at h
  · cases h
  · rename_i h0
    split at h
    · cases h
    · rename_i h1
      obtain ⟨i1, i2, i3⟩ := gFrom_zero h
      rw [if_neg h0, if_neg h1]
      refine ⟨⟨by omega, by omega, ?_, fun k b hb => ?_⟩, i3⟩
      · have := i1 (fun e => h0 (by rw [e]; rfl))
        omega
      · have := i2 k b hb
        rwa [Int.zero_add] at this
theorem gFrom_of {n : Int} : ∀ {bs : List Blk} {at_ all : Int}, all + (bs.map (·.code.length)).sum ≤ 4096 → (∀ (k : Nat) (b : Blk), bs[k]? = some b → b.code.all straightB = true ∧ endedB b = true ∧ goalsOk b (at_ + k) n = true) → gFrom n at_ all bs = (0, 0)
  | [], at_, all, h, h2 => rfl
  | x :: r, at_, all, h, h2 => by
    rw [List.map_cons, List.sum_cons] at h
    obtain ⟨a1, a2, a3⟩ := h2 0 x rfl
    rw [show at_ + ((0 : Nat) : Int) = at_ by omega] at a3
    have h0 : oneV x at_ (all + x.code.length) n = 0 := by
      unfold oneV
      rw [if_neg (by omega), if_neg (by rw [a1]; decide), if_neg (by rw [a2]; decide), if_neg (by rw [a3]; decide)]
    rw [gFrom, if_neg (not_not_intro h0)]
    refine gFrom_of (by omega) fun k b hb => ?_
    have := h2 (k + 1) b (by simpa using hb)
    rwa [show at_ + ((k + 1 : Nat) : Int) = at_ + 1 + k by omega] at this
theorem GTaken.check {bs : List Blk} (T : GTaken bs) : gcheckV bs = (0, 0) := by
  have := T.pos
  have := T.le
  have := T.codes
  unfold gcheckV
  rw [if_neg (by omega), if_neg (by omega)]
  refine gFrom_of (by omega) fun k b hb => ?_
  rw [Int.zero_add]
  exact T.at_ k b hb

/-! ## Runs -/

/-- A block's code: its fault, the words, how many were carried out. -/
def codeX (pkt : List Int) : List Ins → List Int → Int × List Int × Nat
  | [], ws => (0, ws, 0)
  | i :: r, ws => if (stepX pkt i ws).1 ≠ 0 then ((stepX pkt i ws).1, (stepX pkt i ws).2, 1) else ((codeX pkt r (stepX pkt i ws).2).1, (codeX pkt r (stepX pkt i ws).2).2.1, (codeX pkt r (stepX pkt i ws).2).2.2 + 1)
/-- What a block leads to, behind its code: an end, or the next one; steps of its end. -/
def leaveX (b : Blk) (ws : List Int) : (Int ⊕ Nat) × Nat :=
  if b.e = 2 then (.inr b.yes.toNat, 0) else if b.e = 1 then (.inl (if b.last.c = 22 then wd ws 0 else b.last.k), 1)
  else (.inr (if askX b.last.c (wd ws 0) (rightX b.last ws) = true then b.yes.toNat else b.no.toNat), 1)
/-- A run: value, fault, steps. -/
def grunX (bs : List Blk) (pkt : List Int) : Nat → Nat → List Int → Int × Int × Nat
  | 0, _, _ => (0, 0, 0)
  | n + 1, a, ws => match bs[a]? with
    | none => (0, 0, 0)
    | some b =>
      let q := codeX pkt b.code ws
      if q.1 ≠ 0 then (0, q.1, q.2.2) else match (leaveX b q.2.1).1 with
        | .inl v => (v, 0, q.2.2 + (leaveX b q.2.1).2)
        | .inr a' => ((grunX bs pkt n a' q.2.1).1, (grunX bs pkt n a' q.2.1).2.1, q.2.2 + (leaveX b q.2.1).2 + (grunX bs pkt n a' q.2.1).2.2)
def gcodeV (bs : List Blk) (pkt : List Int) : Int := if (gcheckV bs).2 ≠ 0 then 155 else if 65536 < pkt.length then 51 else 0
def gverdV (bs : List Blk) (pkt : List Int) : Int × Int × Int := if gcodeV bs pkt = 0 then ((grunX bs pkt bs.length 0 ws0).1, (grunX bs pkt bs.length 0 ws0).2.1, ((grunX bs pkt bs.length 0 ws0).2.2 : Int)) else (0, 0, 0)
/-! ## Sizes -/
def weighB (back on test : Int) (b : Blk) : Int := b.code.length + (if b.e = 1 then back else if b.e = 2 then on else test)
def weighV (back on test : Int) (bs : List Blk) : Int := (bs.map (weighB back on test)).sum
end Go.Proofs.Ytbchjihecdkfeaa

namespace Go.Proofs.Ytbchjihecdkfeaa
open Go.Rd Go.RowKit
set_option linter.unusedVariables false
set_option linter.unusedSimpArgs false

/-- One block goes on to another. -/
def Goes (bs : List Blk) (j k : Nat) : Prop := ∃ b, bs[j]? = some b ∧ (k : Int) ∈ goalsL b
inductive Reaches (bs : List Blk) : Nat → Prop
  | start : Reaches bs 0
  | step {j k : Nat} : Reaches bs j → Goes bs j k → Reaches bs k
noncomputable def reachL (bs : List Blk) : List Bool := by
  classical
  exact (List.range bs.length).map fun k => decide (Reaches bs k)
theorem reachL_length (bs : List Blk) : (reachL bs).length = bs.length := by simp [reachL]
theorem reachL_get {bs : List Blk} {k : Nat} (hk : k < bs.length) : ((reachL bs)[k]? = some true ↔ Reaches bs k) ∧ ((reachL bs)[k]? = some false ↔ ¬ Reaches bs k) := by
  simp [reachL, hk]
theorem GTaken.goes {bs : List Blk} (T : GTaken bs) {j k : Nat} (h : Goes bs j k) : j < k ∧ k < bs.length := by
  obtain ⟨b, hb, hg⟩ := h
  have := (T.at_ j b hb).2.2
  unfold goalsOk at this
  rw [List.all_eq_true] at this
  have := of_decide_eq_true (this _ hg)
  omega
theorem GTaken.goal_nat {bs : List Blk} (T : GTaken bs) {j : Nat} {b : Blk} (hb : bs[j]? = some b) {g : Int} (hg : g ∈ goalsL b) : (j : Int) < g ∧ g < bs.length ∧ ((g.toNat : Nat) : Int) = g ∧ Goes bs j g.toNat := by
  have := (T.at_ j b hb).2.2
  unfold goalsOk at this
  rw [List.all_eq_true] at this
  have := of_decide_eq_true (this _ hg)
  have e : ((g.toNat : Nat) : Int) = g := by omega
  exact ⟨this.1, this.2, e, b, hb, by rw [e]; exact hg⟩
theorem Reaches.lt {bs : List Blk} (T : GTaken bs) {k : Nat} (h : Reaches bs k) : k < bs.length := by
  cases h with
  | start => exact T.pos
  | step _ hg => exact (T.goes hg).2
/-- A list of marks is told by what is marked. -/
theorem reachL_of {bs : List Blk} {o : List Bool} (hl : o.length = bs.length) (h : ∀ k, o[k]? = some true ↔ (k < bs.length ∧ Reaches bs k)) : o = reachL bs := by
  refine List.ext_getElem? fun k => ?_
  by_cases hk : k < bs.length
  · obtain ⟨e1, e2⟩ := reachL_get hk
    have hko : k < o.length := by omega
    cases hv : o[k]? with
    | none => rw [List.getElem?_eq_none_iff] at hv; omega
    | some v =>
      cases v with
      | true => exact (e1.2 ((h k).1 hv).2).symm
      | false => exact (e2.2 fun hr => by rw [(h k).2 ⟨hk, hr⟩] at hv; cases hv).symm
  · rw [List.getElem?_eq_none (by omega), List.getElem?_eq_none (by rw [reachL_length]; omega)]
/-- What is marked is what can be come to: marked, from the first block on, and shut under goals. -/
theorem reachL_shut {bs : List Blk} (T : GTaken bs) {o : List Bool} (hl : o.length = bs.length) (h0 : o[0]? = some true) (hs : ∀ k, o[k]? = some true → Reaches bs k) (hc : ∀ j k, o[j]? = some true → Goes bs j k → o[k]? = some true) : o = reachL bs := by
  have key : ∀ k, Reaches bs k → o[k]? = some true := fun k h => by
    induction h with
    | start => exact h0
    | step hj hg ih => exact hc _ _ ih hg
  exact reachL_of hl fun k => ⟨fun h => ⟨by rw [← hl]; exact (List.getElem?_eq_some_iff.1 h).1, hs k h⟩, fun h => key k h.2⟩
/-- The document's way: forward, place by place. -/
def FwdAt (bs : List Blk) (i : Nat) (o : List Bool) : Prop := o.length = bs.length ∧ ∀ k, o[k]? = some true ↔ k < bs.length ∧ (k = 0 ∨ ∃ j, j < i ∧ Reaches bs j ∧ Goes bs j k)
theorem FwdAt.here {bs : List Blk} (T : GTaken bs) {i : Nat} {o : List Bool} (h : FwdAt bs i o) (hi : i < bs.length) : o[i]? = some true ↔ Reaches bs i := by
  rw [h.2 i]
  refine ⟨fun ⟨_, h⟩ => ?_, fun hr => ⟨hi, ?_⟩⟩
  · rcases h with rfl | ⟨j, _, hj, hg⟩
    · exact .start
    · exact hj.step hg
  · cases hr with
    | start => exact .inl rfl
    | @step j _ hj hg => exact .inr ⟨j, (T.goes hg).1, hj, hg⟩
theorem FwdAt.done {bs : List Blk} (T : GTaken bs) {o : List Bool} (h : FwdAt bs bs.length o) : o = reachL bs := by
  refine reachL_of h.1 fun k => ?_
  rw [h.2 k]
  refine ⟨fun ⟨hk, h⟩ => ⟨hk, ?_⟩, fun ⟨hk, hr⟩ => ⟨hk, ?_⟩⟩
  · rcases h with rfl | ⟨j, _, hj, hg⟩
    · exact .start
    · exact hj.step hg
  · cases hr with
    | start => exact .inl rfl
    | @step j _ hj hg => exact .inr ⟨j, hj.lt T, hj, hg⟩
theorem FwdAt.skip {bs : List Blk} {i : Nat} {o : List Bool} (h : FwdAt bs i o) (hn : ¬ Reaches bs i) : FwdAt bs (i + 1) o := by
  refine ⟨h.1, fun k => ?_⟩
  rw [h.2 k]
  refine and_congr_right fun _ => or_congr_right ⟨fun ⟨j, hj, h⟩ => ⟨j, by omega, h⟩, fun ⟨j, hj, h1, h2⟩ => ⟨j, ?_, h1, h2⟩⟩
  by_cases e : j = i
  · subst e; exact absurd h1 hn
  · omega
theorem FwdAt.go {bs : List Blk} {i : Nat} {o o' : List Bool} (h : FwdAt bs i o) (hr : Reaches bs i) (hl : o'.length = bs.length) (ho : ∀ k, o'[k]? = some true ↔ (o[k]? = some true ∨ k < bs.length ∧ Goes bs i k)) : FwdAt bs (i + 1) o' := by
  refine ⟨hl, fun k => ?_⟩
  rw [ho k, h.2 k]
  constructor
  · rintro (⟨hk, h⟩ | ⟨hk, h⟩)
    · refine ⟨hk, h.imp_right fun ⟨j, hj, h⟩ => ⟨j, by omega, h⟩⟩
    · exact ⟨hk, .inr ⟨i, by omega, hr, h⟩⟩
  · rintro ⟨hk, rfl | ⟨j, hj, h1, h2⟩⟩
    · exact .inl ⟨hk, .inl rfl⟩
    · by_cases e : j = i
      · subst e; exact .inr ⟨hk, h2⟩
      · exact .inl ⟨hk, .inr ⟨j, by omega, h1, h2⟩⟩
theorem set_true {o : List Bool} {i : Nat} (hi : i < o.length) (k : Nat) : (o.set i true)[k]? = some true ↔ (o[k]? = some true ∨ k = i) := by
  rw [List.getElem?_set]
  split
  · rename_i h
    subst h
    simp [hi]
  · rename_i h
    exact ⟨.inl, fun h2 => h2.resolve_right fun e => h e.symm⟩
theorem set_length {o : List Bool} {i : Nat} : (o.set i true).length = o.length := by simp
end Go.Proofs.Ytbchjihecdkfeaa

namespace Go.Proofs.Ytbchjihecdkfeaa
open Go.Rd Go.RowKit
set_option linter.unusedVariables false
set_option linter.unusedSimpArgs false

/-- What an instruction at a place says of where blocks begin. -/
def LeadBy (i : Ins) (j k : Nat) : Prop := ((classOf i.c = 5 ∨ classOf i.c = 6) ∧ k = j + 1) ∨ (i.c = 5 ∧ k = j + 1 + i.k.toNat) ∨ (classOf i.c = 5 ∧ i.c ≠ 5 ∧ (k = j + 1 + i.t.toNat ∨ k = j + 1 + i.f.toNat))
/-- A block begins at a place, as the instructions ahead of 'm' say. -/
def LeadTo (xs : List Ins) (m k : Nat) : Prop := k = 0 ∨ ∃ j i, j < m ∧ xs[j]? = some i ∧ LeadBy i j k
abbrev Lead (xs : List Ins) (k : Nat) : Prop := LeadTo xs xs.length k
instance (i : Ins) (j k : Nat) : Decidable (LeadBy i j k) := by unfold LeadBy; infer_instance
def leadB (xs : List Ins) (k : Nat) : Bool := k == 0 || (List.range xs.length).any fun j => match xs[j]? with
  | none => false
  | some i => decide (LeadBy i j k)
theorem leadB_true {xs : List Ins} {k : Nat} : leadB xs k = true ↔ Lead xs k := by
  unfold leadB
  rw [Bool.or_eq_true, beq_iff_eq, List.any_eq_true]
  refine or_congr_right ⟨fun ⟨j, hj, h⟩ => ?_, fun ⟨j, i, hj, hi, h⟩ => ⟨j, List.mem_range.2 hj, ?_⟩⟩
  · split at h
    · cases h
    · rename_i i hi
      exact ⟨j, i, List.mem_range.1 hj, hi, of_decide_eq_true h⟩
  · rw [hi]
    exact decide_eq_true h
theorem leadB_false {xs : List Ins} {k : Nat} : leadB xs k = false ↔ ¬ Lead xs k := by rw [← leadB_true, Bool.not_eq_true]
def leadL (xs : List Ins) : List Bool := (List.range (xs.length + 1)).map (leadB xs)
theorem leadL_length (xs : List Ins) : (leadL xs).length = xs.length + 1 := by simp [leadL]
theorem leadL_get {xs : List Ins} {k : Nat} (hk : k ≤ xs.length) : (leadL xs)[k]? = some (leadB xs k) := by
  have : k < xs.length + 1 := by omega
  simp [leadL, this]
/-- How many blocks begin ahead of a place. -/
def headsN (xs : List Ins) : Nat → Nat
  | 0 => 0
  | k + 1 => headsN xs k + (if leadB xs k = true then 1 else 0)
/-- The number of a place's block. -/
def numZ (xs : List Ins) (k : Nat) : Int := (headsN xs (k + 1) : Int) - 1
/-- Marks, as far as the instructions ahead of a place have told. -/
def LeadsAt (xs : List Ins) (m : Nat) (o : List Bool) : Prop := o.length = xs.length + 1 ∧ ∀ k, o[k]? = some true ↔ k ≤ xs.length ∧ LeadTo xs m k
theorem LeadsAt.done {xs : List Ins} {o : List Bool} (h : LeadsAt xs xs.length o) : o = leadL xs := by
  refine List.ext_getElem? fun k => ?_
  by_cases hk : k ≤ xs.length
  · rw [leadL_get hk]
    have hko : k < o.length := by have := h.1; omega
    cases hv : o[k]? with
    | none => rw [List.getElem?_eq_none_iff] at hv; omega
    | some v =>
      cases v with
      | true => exact congrArg some (leadB_true.2 ((h.2 k).1 hv).2).symm
      | false => exact congrArg some (leadB_false.2 fun hr => by rw [(h.2 k).2 ⟨hk, hr⟩] at hv; cases hv).symm
  · rw [List.getElem?_eq_none (by have := h.1; omega), List.getElem?_eq_none (by rw [leadL_length]; omega)]
theorem LeadsAt.step {xs : List Ins} {m : Nat} {o o' : List Bool} {i : Ins} (h : LeadsAt xs m o) (hi : xs[m]? = some i) (hl : o'.length = xs.length + 1) (ho : ∀ k, o'[k]? = some true ↔ (o[k]? = some true ∨ k ≤ xs.length ∧ LeadBy i m k)) : LeadsAt xs (m + 1) o' := by
  refine ⟨hl, fun k => ?_⟩
  rw [ho k, h.2 k]
  constructor
  · rintro (⟨hk, h⟩ | ⟨hk, h⟩)
    · exact ⟨hk, h.imp_right fun ⟨j, i, hj, h⟩ => ⟨j, i, by omega, h⟩⟩
    · exact ⟨hk, .inr ⟨m, i, by omega, hi, h⟩⟩
  · rintro ⟨hk, rfl | ⟨j, i', hj, h1, h2⟩⟩
    · exact .inl ⟨hk, .inl rfl⟩
    · by_cases e : j = m
      · subst e
        rw [hi] at h1
        obtain rfl := Option.some.inj h1
        exact .inr ⟨hk, h2⟩
      · exact .inl ⟨hk, .inr ⟨j, i', by omega, h1, h2⟩⟩
/-- The next place at which a block begins, or the end: 'm' is how far it is looked for. -/
def nextLead (xs : List Ins) : Nat → Nat → Nat
  | 0, k => k
  | m + 1, k => if leadB xs k = true then k else nextLead xs m (k + 1)
theorem nextLead_ge {xs : List Ins} : ∀ (m k : Nat), k ≤ nextLead xs m k ∧ nextLead xs m k ≤ k + m
  | 0, k => ⟨Nat.le_refl _, Nat.le_refl _⟩
  | m + 1, k => by
    rw [nextLead]
    split
    · omega
    · have := nextLead_ge (xs := xs) m (k + 1)
      omega
theorem nextLead_none {xs : List Ins} : ∀ (m k j : Nat), k ≤ j → j < nextLead xs m k → leadB xs j = false
  | 0, k, j, h1, h2 => by rw [nextLead] at h2; omega
  | m + 1, k, j, h1, h2 => by
    rw [nextLead] at h2
    split at h2
    · omega
    · rename_i hk
      by_cases e : j = k
      · subst e; simpa using hk
      · exact nextLead_none m (k + 1) j (by omega) h2
theorem nextLead_at {xs : List Ins} : ∀ (m k : Nat), nextLead xs m k < k + m → leadB xs (nextLead xs m k) = true
  | 0, k, h => by rw [nextLead] at h; omega
  | m + 1, k, h => by
    rw [nextLead] at h ⊢
    split
    · rename_i hk; exact hk
    · rename_i hk
      rw [if_neg hk] at h
      exact nextLead_at m (k + 1) (by omega)
/-- Where the block that begins at a place ends. -/
def endN (xs : List Ins) (a : Nat) : Nat := nextLead xs (xs.length - (a + 1)) (a + 1)
theorem endN_gt {xs : List Ins} {a : Nat} (ha : a < xs.length) : a < endN xs a ∧ endN xs a ≤ xs.length := by
  have := nextLead_ge (xs := xs) (xs.length - (a + 1)) (a + 1)
  unfold endN
  omega
def plainI (i : Ins) : Ins := ⟨i.c, 0, 0, if (usesB i.c).1 = true then i.k else 0⟩
/-- A block, out of the place where it begins. -/
def blockX (xs : List Ins) (a e : Nat) (l : Ins) : Blk :=
  if classOf l.c = 6 then ⟨(xs.take (e - 1)).drop a, 1, plainI l, 0, 0⟩
  else if l.c = 5 then ⟨(xs.take (e - 1)).drop a, 2, ins0, numZ xs (e + l.k.toNat), 0⟩
  else if classOf l.c = 5 then ⟨(xs.take (e - 1)).drop a, 3, plainI l, numZ xs (e + l.t.toNat), numZ xs (e + l.f.toNat)⟩
  else ⟨(xs.take (e - 1)).drop a ++ [l], 2, ins0, numZ xs e, 0⟩
def ofFrom (xs : List Ins) : Nat → Nat → List Blk
  | 0, _ => []
  | m + 1, a => match xs[endN xs a - 1]? with
    | none => []
    | some l => if a < xs.length then blockX xs a (endN xs a) l :: ofFrom xs m (endN xs a) else []
def ofX (xs : List Ins) : List Blk := ofFrom xs xs.length 0
theorem ofFrom_end {xs : List Ins} : ∀ (m a : Nat), xs.length ≤ a → ofFrom xs m a = []
  | 0, a, h => rfl
  | m + 1, a, h => by
    rw [ofFrom]
    split
    · rfl
    · rw [if_neg (by omega)]
theorem ofFrom_at {xs : List Ins} {m a : Nat} {l : Ins} (ha : a < xs.length) (hm : xs.length - a ≤ m) (hl : xs[endN xs a - 1]? = some l) : ofFrom xs m a = blockX xs a (endN xs a) l :: ofFrom xs (m - 1) (endN xs a) := by
  obtain ⟨k, rfl⟩ : ∃ k, m = k + 1 := ⟨m - 1, by omega⟩
  rw [ofFrom, hl]
  show (if a < xs.length then _ else _) = _
  rw [if_pos ha]
  rfl
theorem ofFrom_fuel {xs : List Ins} : ∀ (m m' a : Nat), xs.length - a ≤ m → xs.length - a ≤ m' → ofFrom xs m a = ofFrom xs m' a := by
  intro m
  induction m with
  | zero => intro m' a h1 h2; rw [ofFrom_end _ a (by omega), ofFrom_end _ a (by omega)]
  | succ m ih =>
    intro m' a h1 h2
    by_cases ha : xs.length ≤ a
    · rw [ofFrom_end _ a ha, ofFrom_end _ a ha]
    · obtain ⟨e1, e2⟩ := endN_gt (xs := xs) (a := a) (by omega)
      obtain ⟨l, hl⟩ : ∃ l, xs[endN xs a - 1]? = some l := ⟨_, List.getElem?_eq_getElem (by omega)⟩
      rw [ofFrom_at (by omega) h1 hl, ofFrom_at (by omega) h2 hl, show m + 1 - 1 = m from rfl, ih (m' - 1) (endN xs a) (by omega) (by omega)]
end Go.Proofs.Ytbchjihecdkfeaa

namespace Go.Proofs.Ytbchjihecdkfeaa
open Go.Rd Go.RowKit
set_option linter.unusedVariables false
set_option linter.unusedSimpArgs false

section
variable {bs : List Blk} {pkt : List Int} {a : Nat} {b : Blk} {ws : List Int}
theorem leaveX_go {a' k : Nat} (he : b.e = 1 ∨ b.e = 2 ∨ b.e = 3) (h : leaveX b ws = (.inr a', k)) : ∃ g ∈ goalsL b, g.toNat = a' := by
  unfold leaveX at h
  split at h
  · rename_i e
    obtain ⟨h1, -⟩ := Prod.mk.inj h
    exact ⟨b.yes, by simp [goalsL, e], Sum.inr.inj h1⟩
  · rename_i e
    split at h
    · cases (Prod.mk.inj h).1
    · rename_i e1
      have e3 : b.e = 3 := by omega
      obtain ⟨h1, -⟩ := Prod.mk.inj h
      have h1 := Sum.inr.inj h1
      split at h1
      · exact ⟨b.yes, by simp [goalsL, e3], h1⟩
      · exact ⟨b.no, by simp [goalsL, e3], h1⟩
theorem endedB_kinds {b : Blk} (h : endedB b = true) : b.e = 1 ∨ b.e = 2 ∨ b.e = 3 := by
  unfold endedB at h
  split at h
  · exact .inl ‹_›
  · split at h
    · exact .inr (.inl ‹_›)
    · split at h
      · exact .inr (.inr ‹_›)
      · cases h
theorem GTaken.leave (T : GTaken bs) (hb : bs[a]? = some b) {a' k : Nat} (h : leaveX b ws = (.inr a', k)) : Goes bs a a' ∧ a < a' ∧ a' < bs.length := by
  obtain ⟨g, hg, e⟩ := leaveX_go (endedB_kinds (T.at_ a b hb).2.1) h
  obtain ⟨h1, h2, h3, h4⟩ := T.goal_nat hb hg
  subst e
  exact ⟨h4, by omega, by omega⟩
theorem grunX_none (f : Nat) (h : bs.length ≤ a) : grunX bs pkt f a ws = (0, 0, 0) := by
  cases f with
  | zero => rfl
  | succ f => rw [grunX, List.getElem?_eq_none h]
theorem grunX_fuel (T : GTaken bs) : ∀ (f f' a : Nat) (ws : List Int), bs.length - a ≤ f → bs.length - a ≤ f' → grunX bs pkt f a ws = grunX bs pkt f' a ws := by
  intro f
  induction f with
  | zero => intro f' a ws h1 h2; rw [grunX_none 0 (by omega), grunX_none f' (by omega)]
  | succ f ih =>
    intro f' a ws h1 h2
    by_cases hp : bs.length ≤ a
    · rw [grunX_none _ hp, grunX_none _ hp]
    obtain ⟨g, rfl⟩ : ∃ g, f' = g + 1 := ⟨f' - 1, by omega⟩
    rw [grunX, grunX]
    cases hb : bs[a]? with
    | none => rfl
    | some b =>
      simp only
      split
      · rfl
      · cases hl : (leaveX b (codeX pkt b.code ws).2.1).1 with
        | inl v => rfl
        | inr a' =>
          have := T.leave hb (a' := a') (k := (leaveX b (codeX pkt b.code ws).2.1).2) (ws := (codeX pkt b.code ws).2.1) (by rw [← hl])
          simp only
          rw [ih g a' _ (by omega) (by omega)]
theorem grunX_fault (hb : bs[a]? = some b) (hf : (codeX pkt b.code ws).1 ≠ 0) : grunX bs pkt (bs.length - a) a ws = (0, (codeX pkt b.code ws).1, (codeX pkt b.code ws).2.2) := by
  have := (List.getElem?_eq_some_iff.1 hb).1
  obtain ⟨m, hm⟩ : ∃ m, bs.length - a = m + 1 := ⟨bs.length - a - 1, by omega⟩
  rw [hm, grunX, hb]
  simp only
  rw [if_pos hf]
theorem grunX_end (hb : bs[a]? = some b) (hf : (codeX pkt b.code ws).1 = 0) {v : Int} {k : Nat} (hl : leaveX b (codeX pkt b.code ws).2.1 = (.inl v, k)) : grunX bs pkt (bs.length - a) a ws = (v, 0, (codeX pkt b.code ws).2.2 + k) := by
  have := (List.getElem?_eq_some_iff.1 hb).1
  obtain ⟨m, hm⟩ : ∃ m, bs.length - a = m + 1 := ⟨bs.length - a - 1, by omega⟩
  rw [hm, grunX, hb]
  simp only
  rw [if_neg (not_not_intro hf), hl]
theorem grunX_go (T : GTaken bs) (hb : bs[a]? = some b) (hf : (codeX pkt b.code ws).1 = 0) {a' k : Nat} (hl : leaveX b (codeX pkt b.code ws).2.1 = (.inr a', k)) :
    grunX bs pkt (bs.length - a) a ws = ((grunX bs pkt (bs.length - a') a' (codeX pkt b.code ws).2.1).1, (grunX bs pkt (bs.length - a') a' (codeX pkt b.code ws).2.1).2.1, (codeX pkt b.code ws).2.2 + k + (grunX bs pkt (bs.length - a') a' (codeX pkt b.code ws).2.1).2.2) := by
  have := (List.getElem?_eq_some_iff.1 hb).1
  obtain ⟨m, hm⟩ : ∃ m, bs.length - a = m + 1 := ⟨bs.length - a - 1, by omega⟩
  have hg := T.leave hb hl
  rw [hm, grunX, hb]
  simp only
  rw [if_neg (not_not_intro hf), hl]
  simp only
  rw [grunX_fuel T m (bs.length - a') a' _ (by omega) (by omega)]
theorem codeX_le (pkt : List Int) : ∀ (xs : List Ins) (ws : List Int), (codeX pkt xs ws).2.2 ≤ xs.length
  | [], ws => Nat.le_refl _
  | i :: r, ws => by
    rw [codeX]
    split
    · show 1 ≤ (i :: r).length
      simp
    · have := codeX_le pkt r (stepX pkt i ws).2
      show _ + 1 ≤ _
      rw [List.length_cons]
      omega
theorem leaveX_le : (leaveX b ws).2 ≤ 1 := by
  unfold leaveX
  split
  · exact Nat.zero_le _
  · split <;> exact Nat.le_refl _
/-- Codes and ends behind a place. -/
def restN (bs : List Blk) (a : Nat) : Nat := ((bs.drop a).map (·.code.length)).sum + (bs.length - a)
theorem restN_at (hb : bs[a]? = some b) : restN bs a = b.code.length + 1 + restN bs (a + 1) := by
  obtain ⟨hlt, he⟩ := List.getElem?_eq_some_iff.1 hb
  unfold restN
  rw [List.drop_eq_getElem_cons hlt, he, List.map_cons, List.sum_cons]
  omega
theorem restN_mono : ∀ (d a : Nat), restN bs (a + d) ≤ restN bs a
  | 0, a => Nat.le_refl _
  | d + 1, a => by
    refine Nat.le_trans ?_ (restN_mono d a)
    cases hb : bs[a + d]? with
    | none =>
      rw [List.getElem?_eq_none_iff] at hb
      unfold restN
      rw [List.drop_eq_nil_of_le (by omega), List.drop_eq_nil_of_le (by omega)]
      simp only [List.map_nil, List.sum_nil]
      omega
    | some b =>
      rw [restN_at hb, show a + (d + 1) = a + d + 1 by omega]
      omega
theorem restN_le {a' : Nat} (h : a ≤ a') : restN bs a' ≤ restN bs a := by
  obtain ⟨d, rfl⟩ := Nat.exists_eq_add_of_le h
  exact restN_mono d a
end
end Go.Proofs.Ytbchjihecdkfeaa
