/- Package graph: Reach; the document's Reach, Size, Measure. -/
import Derived.Test.YtbchjihecdkfeaaA5
import Derived.Test.YtbchjihecdkfeaaA10
import Derived.Test.YtbchjihecdkfeaaA11
namespace Go.Proofs.Ytbchjihecdkfeaa
open Go.Rd Go.RowKit
set_option linter.unusedVariables false
set_option linter.unusedSimpArgs false
set_option maxRecDepth 100000
noncomputable def reachR (bs : List Blk) : List Bool × Int := if (gcheckV bs).2 ≠ 0 then ([], 155) else (reachL bs, 0)
theorem reachR_length {bs : List Blk} : (reachR bs).1.length ≤ 4096 := by
  unfold reachR
  split
  · exact Nat.zero_le _
  · rename_i h
    rw [reachL_length]
    exact (gtaken_of (Classical.not_not.1 h)).1.le
def ReachesOf (w : World) (r : List Bool × Int) (v : Value) (w' : World) : Prop := ∃ O oc, v = .tuple #[.slice O r.1.length oc, .int .i64 r.2] ∧ OBools w' O oc r.1 ∧ (∀ k, blk O k → w.heap.size ≤ k) ∧ Go.Rd.Ext w w'
theorem own_init {e : Nat} {w : World} {A : Option Addr} {c : Nat} {cs ys : List Value} (h : Own e 1 w A c (cs ++ ys)) : Own e 1 w A c cs := by
  rcases h with ⟨h1, h2, h3⟩ | ⟨b, sp, h1, h2, h3⟩
  · exact .inl ⟨h1, h2, (List.append_eq_nil_iff.1 h3).1⟩
  · exact .inr ⟨b, ys ++ sp, h1, by rw [← List.append_assoc]; exact h2, by rw [← List.append_assoc]; exact h3⟩
/-- How many are not marked. -/
abbrev unm (o : List Bool) : Nat := o.count false
theorem unm_set {o : List Bool} {k : Nat} (h : o[k]? = some false) : unm (o.set k true) + 1 = unm o := by
  obtain ⟨hk, he⟩ := List.getElem?_eq_some_iff.1 h
  unfold unm
  rw [List.count_set hk, he]
  have : 0 < o.count false := List.count_pos_iff.2 (by rw [← he]; exact List.getElem_mem hk)
  simp
  omega
section
variable {w : World} {A : Option Addr} {n c : Nat} {ps : List BP}
/-- What is told while blocks are marked: 'st' are those that wait. -/
structure MarkAt (bs : List Blk) (o : List Bool) (st : List Nat) (X : Nat → Prop) : Prop where
  len : o.length = bs.length
  zero : o[0]? = some true
  all : ∀ k, o[k]? = some true → Reaches bs k
  wait : ∀ k ∈ st, o[k]? = some true
  shut : ∀ j k, o[j]? = some true → j ∉ st → ¬ X j → Goes bs j k → o[k]? = some true
theorem MarkAt.push {bs : List Blk} {o : List Bool} {st : List Nat} {X : Nat → Prop} (h : MarkAt bs o st X) {j k : Nat} (hj : Reaches bs j) (hg : Goes bs j k) (hk : k < bs.length) : MarkAt bs (o.set k true) (st ++ [k]) X := by
  have ho : k < o.length := by rw [h.len]; exact hk
  have mono : ∀ i, o[i]? = some true → (o.set k true)[i]? = some true := fun i hi => (set_true ho i).2 (.inl hi)
  refine ⟨by rw [set_length]; exact h.len, mono 0 h.zero, fun i hi => ?_, fun i hi => ?_, fun i l hi hns hX hgo => ?_⟩
  · rcases (set_true ho i).1 hi with h1 | rfl
    · exact h.all i h1
    · exact hj.step hg
  · rcases List.mem_append.1 hi with h1 | h1
    · exact mono i (h.wait i h1)
    · obtain rfl : i = k := by simpa using h1
      exact (set_true ho i).2 (.inr rfl)
  · rw [List.mem_append, not_or] at hns
    rcases (set_true ho i).1 hi with h1 | rfl
    · exact mono l (h.shut i l h1 hns.1 hX hgo)
    · exact absurd (by simp) hns.2
theorem nats_snoc (st : List Nat) (k : Nat) : ((st ++ [k]).map fun n : Nat => (n : Int)).map (Value.int .i64) = (st.map fun n : Nat => (n : Int)).map (Value.int .i64) ++ [.int .i64 (k : Int)] := by simp
theorem greach_spec (hx : IBl w A n ps) (hs : ∀ p ∈ ps, p.n ≤ 140737488351232) : Run Try.prog 33 #[.slice A n c] w (ReachesOf w (reachR (blks ps))) := by
  have hl := hx.len
  have hbl : (blks ps).length = n := by rw [blks, List.length_map, hl]
  refine graph_Reach.ok ((gtaken_spec hx hs).mono ?_)
  rintro v w1 ⟨rfl, x1⟩
  by_cases hc : (gcheckV (blks ps)).2 ≠ 0
  · rw [if_pos hc]
    refine ⟨_, rfl, ifP_t rfl ⟨none, 0, ?_, ?_, fun k hk => absurd hk blk_none, x1⟩⟩
    · rw [reachR, if_pos hc]; rfl
    · rw [reachR, if_pos hc]; exact Own.empty
  have hc := Classical.not_not.1 hc
  rw [if_neg (not_not_intro hc)]
  obtain ⟨T, _⟩ := gtaken_of hc
  have hTl := T.le
  have hT0 := T.pos
  have er : reachR (blks ps) = (reachL (blks ps), 0) := by rw [reachR, if_neg (not_not_intro hc)]
  refine ⟨_, rfl, ifP_f rfl (made_boolsN (n := n) (by omega) rfl fun O w2 o2 b2 x2 => ⟨_, _, _, rfl, letA fun w3 h3 x3 s3 => ⟨by omega, by omega, put_true (t := 0) (o2.ext x3) rfl (by simp; omega) fun w4 o4 k4 => ?_⟩⟩)⟩
  have z1 := x1.size
  have z2 := x2.size
  have x13 := (x1.trans x2).trans x3
  have x4 : Go.Rd.Ext w w4 := x13.fresh k4 fun j hj => by have := b2 j hj; omega
  have hlist : Own 3 1 w3 (some (newA w2)) 1 (([0] : List Nat).map (fun n : Nat => (n : Int)) |>.map (Value.int .i64)) := .inr ⟨_, [], rfl, h3, rfl⟩
  have n2 : ¬ blk O w2.heap.size := fun h => by have := o2.lt _ h; omega
  have hlist4 := hlist.keep k4 fun k hk h => n2 (by rwa [blk_some.1 hk] at h)
  suffices H : ∀ (d : Nat) (w' : World) (o : List Bool) (S : Option Addr) (sc : Nat) (st : List Nat), 2 * unm o + st.length ≤ d → st.length + unm o ≤ n → MarkAt (blks ps) o st (fun _ => False) → OBools w' O n o → Own 3 1 w' S sc ((st.map fun n : Nat => (n : Int)).map (Value.int .i64)) → (∀ k, blk S k → w1.heap.size ≤ k ∧ ¬ blk O k) → Go.Rd.Ext w w' →
      graph_Reach.L0 (ReachesOf w (reachR (blks ps))) A n c O n n S st.length sc w' by
    have c0 : unm ((List.replicate n false).set 0 true) + 1 = n := by
      rw [unm_set (by rw [List.getElem?_replicate, if_pos (by omega)])]
      simp [unm]
    have m0 : MarkAt (blks ps) ((List.replicate n false).set 0 true) [0] (fun _ => False) := by
      have hr : 0 < (List.replicate n false).length := by simp; omega
      refine ⟨by simp [hbl], (set_true hr 0).2 (.inr rfl), fun k hk => ?_, fun k hk => ?_, fun j k hj hn _ _ => ?_⟩
      · rcases (set_true hr k).1 hk with h | rfl
        · rw [List.getElem?_replicate] at h
          split at h <;> cases h
        · exact .start
      · obtain rfl : k = 0 := by simpa using hk
        exact (set_true hr 0).2 (.inr rfl)
      · rcases (set_true hr j).1 hj with h | rfl
        · rw [List.getElem?_replicate] at h
          split at h <;> cases h
        · exact absurd (by simp) hn
    exact H _ w4 _ (some (newA w2)) 1 [0] (Nat.le_refl _) (by show 1 + _ ≤ n; omega) m0 o4 hlist4 (fun k hk => by rw [blk_some.1 hk]; exact ⟨by omega, n2⟩) x4
  intro d
  induction d with
  | zero =>
    intro w' o S sc st hd hn hm ho hst hS x
    have h0 : st = [] := by cases st with | nil => rfl | cons a b => simp at hd
    subst h0
    refine graph_Reach.L0_step (ifP_no (by simp) ⟨O, n, ?_, ?_, fun k hk => by have := b2 k hk; omega, x⟩)
    · rw [er, reachL_length, hbl]
    · rw [er, ← reachL_shut T hm.len hm.zero hm.all fun j k hj hg => hm.shut j k hj (by simp) id hg]
      exact ho
  | succ d ih =>
    intro w' o S sc st hd hn hm ho hst hS x
    rcases List.eq_nil_or_concat st with h0 | ⟨st', a, h0⟩
    · subst h0
      refine graph_Reach.L0_step (ifP_no (by simp) ⟨O, n, ?_, ?_, fun k hk => by have := b2 k hk; omega, x⟩)
      · rw [er, reachL_length, hbl]
      · rw [er, ← reachL_shut T hm.len hm.zero hm.all fun j k hj hg => hm.shut j k hj (by simp) id hg]
        exact ho
    rw [List.concat_eq_append] at h0
    subst h0
    have hlen : (st' ++ [a]).length = st'.length + 1 := by simp
    rw [hlen] at hd hn ⊢
    have ha := hm.wait a (by simp)
    have har := hm.all a ha
    have han : a < n := by have := har.lt T; omega
    have ew : IntKind.i64.wrap (((st'.length + 1 : Nat) : Int) - 1) = ((st'.length : Nat) : Int) := by rw [wrap_i64 (by omega) (by omega)]; omega
    have hrd : Rd (Value.int .i64) w' S (st'.length + 1) ((st' ++ [a]).map fun n : Nat => (n : Int)) := hst.rd (by simp)
    obtain ⟨p, hp, hcell⟩ := hrd.2 st'.length (a : Int) (by simp)
    have hle := hst.le
    rw [List.length_map, List.length_map, hlen] at hle
    refine graph_Reach.L0_step (ifP_yes (by omega) ?_)
    rw [ew, Int.toNat_natCast, subA_zero]
    obtain ⟨q, pb, hq, hpp, h8⟩ := (hx.ext x).at8 (i := a) han
    have hb := blks_get hpp
    obtain ⟨t1, t2, t3⟩ := T.at_ a pb.b hb
    have hst' : Own 3 1 w' S sc ((st'.map fun n : Nat => (n : Int)).map (Value.int .i64)) := by
      rw [nats_snoc] at hst
      exact own_init hst
    refine ⟨by omega, by omega, p, hp, _, hcell, by omega, by omega, by omega, by omega, by omega, q, hq, ?_⟩
    rw [Int.toNat_natCast]
    have popped : ∀ (X : Nat → Prop), (∀ j, j = a → X j) → MarkAt (blks ps) o st' X := fun X hX =>
      ⟨hm.len, hm.zero, hm.all, fun k hk => hm.wait k (by simp [hk]), fun j k hj hns hXj hg => hm.shut j k hj (by
        rw [List.mem_append, not_or]
        exact ⟨hns, fun h => hXj (hX j (by simpa using h))⟩) id hg⟩
    refine ⟨_, h8.e, ifP_beq.2 ⟨fun e1 => ?_, fun e1 => ⟨by omega, by omega, q, hq, h8.rd (ggoals_spec.mono ?_)⟩⟩⟩
    · refine ih w' o S (sc - 0) st' (by omega) (by omega) ?_ ho hst' hS x
      have hp := popped (· = a) fun j hj => hj
      refine ⟨hp.len, hp.zero, hp.all, hp.wait, fun j k hj hns _ hg => ?_⟩
      by_cases hja : j = a
      · subst hja
        obtain ⟨b, hb', hg'⟩ := hg
        rw [hb] at hb'
        obtain rfl := Option.some.inj hb'
        simp [goalsL, e1] at hg'
      · exact hp.shut j k hj hns hja hg
    rintro v w5 ⟨G, gc, rfl, hG, bG, x5⟩
    refine ⟨_, _, _, rfl, ?_⟩
    have hg2 := goalsL_le pb.b
    have nG : ∀ k, blk G k → ¬ blk O k := fun k hk h => by have := bG k hk; have := ho.lt k h; omega
    suffices I : ∀ (e i : Nat), (goalsL pb.b).length - i = e → i ≤ (goalsL pb.b).length → ∀ (w6 : World) (o6 : List Bool) (S6 : Option Addr) (sc6 : Nat) (st6 : List Nat), 2 * unm o6 + st6.length ≤ d → st6.length + unm o6 ≤ n → MarkAt (blks ps) o6 st6 (· = a) → (∀ (j : Nat) (g : Int), j < i → (goalsL pb.b)[j]? = some g → o6[g.toNat]? = some true) → OBools w6 O n o6 → Own 3 1 w6 S6 sc6 ((st6.map fun n : Nat => (n : Int)).map (Value.int .i64)) → (∀ k, blk S6 k → w1.heap.size ≤ k ∧ ¬ blk O k) → Go.Rd.Ext w w6 → Rd (Value.int .i64) w6 G (goalsL pb.b).length (goalsL pb.b) → (∀ k, blk G k → ¬ blk S6 k) → w5.heap.size ≤ w6.heap.size →
        graph_Reach.L2 (ReachesOf w (reachR (blks ps))) A n c O n n S6 st6.length sc6 G (goalsL pb.b).length gc ((goalsL pb.b).length : Int) (i : Int) w6 by
      exact I (goalsL pb.b).length 0 (by omega) (by omega) w5 o S (sc - 0) st' (by omega) (by omega) (popped _ fun j hj => hj) (fun j g hj => absurd hj (Nat.not_lt_zero j)) (ho.ext x5) (hst'.ext x5) hS (x.trans x5) hG (fun k hk h => by have := bG k hk; have := hst'.lt k h; omega) (Nat.le_refl _)
    intro e
    induction e with
    | zero =>
      intro i he hi w6 o6 S6 sc6 st6 hd6 hn6 hm6 hdone ho6 hst6 hS6 x6 hG6 nS6 z6
      refine graph_Reach.L2_step (ifP_no (by omega) ?_)
      refine ih w6 o6 S6 sc6 st6 hd6 hn6 ?_ ho6 hst6 hS6 x6
      refine ⟨hm6.len, hm6.zero, hm6.all, hm6.wait, fun j k hj hns _ hg => ?_⟩
      by_cases hja : j = a
      · subst hja
        obtain ⟨b, hb', hg'⟩ := hg
        rw [hb] at hb'
        obtain rfl := Option.some.inj hb'
        obtain ⟨l, hl'⟩ := List.getElem?_of_mem hg'
        have := hdone l k (by have := (List.getElem?_eq_some_iff.1 hl').1; omega) hl'
        rwa [Int.toNat_natCast] at this
      · exact hm6.shut j k hj hns hja hg
    | succ e ihe =>
      intro i he hi w6 o6 S6 sc6 st6 hd6 hn6 hm6 hdone ho6 hst6 hS6 x6 hG6 nS6 z6
      obtain ⟨g, hgi⟩ : ∃ g, (goalsL pb.b)[i]? = some g := ⟨_, List.getElem?_eq_getElem (by omega)⟩
      obtain ⟨p2, hp2, hcell2⟩ := hG6.2 i g hgi
      obtain ⟨g1, g2, g3, g4⟩ := T.goal_nat hb (List.mem_of_getElem? hgi)
      have hgn : g.toNat < n := by omega
      obtain ⟨v, hv⟩ : ∃ v, o6[g.toNat]? = some v := ⟨_, List.getElem?_eq_getElem (by rw [hm6.len, hbl]; exact hgn)⟩
      obtain ⟨p3, hp3, hcell3⟩ := (ho6.rd (by rw [hm6.len, hbl])).2 g.toNat v hv
      refine graph_Reach.L2_step (ifP_yes (by omega) ⟨by omega, by omega, p2, hp2, g, by rw [Int.toNat_natCast]; exact hcell2, by omega, by omega, p3, hp3, v, hcell3, ?_⟩)
      have hol : g.toNat < o6.length := by rw [hm6.len, hbl]; exact hgn
      cases v with
      | true =>
        refine ifP_f rfl ?_
        unfold graph_Reach.J0
        rw [wrap_i64 (by omega) (by omega)]
        refine ihe (i + 1) (by omega) (by omega) w6 o6 S6 sc6 st6 hd6 hn6 hm6 (fun j g' hj hg' => ?_) ho6 hst6 hS6 x6 hG6 nS6 z6
        by_cases hji : j = i
        · subst hji
          rw [hgi] at hg'
          obtain rfl := Option.some.inj hg'
          exact hv
        · exact hdone j g' (by omega) hg'
      | false =>
        have hu := unm_set hv
        refine ifP_t rfl ⟨by omega, by omega, put_true (t := g.toNat) ho6 (by omega) hol fun w7 o7 k7 => letA fun w8 h8' x8 s8 => ?_⟩
        have hB : RdC w8 (some (newA w7)) [.int .i64 g] := by
          have : Own 3 1 w8 (some (newA w7)) 1 [.int .i64 g] := .inr ⟨_, [], rfl, h8', rfl⟩
          exact this.cells
        have hst8 := (hst6.keep k7 fun k hk => (hS6 k hk).2).ext x8
        obtain ⟨S9, sc9, w9, hr, o9, hc9, k9, b9⟩ := append_own slInts (ty := 62) (n := st6.length) (d := 1) hst8 (by rw [List.length_map, List.length_map, Nat.mul_one]) hB (m := 1) rfl rfl (by omega) (by omega)
        refine ⟨_, w9, hr, S9, st6.length + 1, sc9, rfl, ?_⟩
        unfold graph_Reach.J0
        rw [wrap_i64 (by omega) (by omega)]
        have e9 : (((st6 ++ [g.toNat]).map fun n : Nat => (n : Int)).map (Value.int .i64)) = (st6.map fun n : Nat => (n : Int)).map (Value.int .i64) ++ [.int .i64 g] := by rw [nats_snoc, g3]
        have hl9 : (st6 ++ [g.toNat]).length = st6.length + 1 := by simp
        have z7 := k7.size
        have z8 := x8.size
        have hOl := ho6.lt
        have hz1 := x1.size
        have b9' : ∀ k, blk S9 k → w1.heap.size ≤ k ∧ ¬ blk O k := fun k hk => by
          rcases b9 k hk with h | h
          · exact hS6 k h
          · refine ⟨?_, fun h2 => by have := hOl k h2; omega⟩
            have := x5.size
            have : w1.heap.size ≤ w'.heap.size := by
              have := o2.lt
              have hb0 := ho.lt
              obtain ⟨aO, haO⟩ : ∃ a, O = some a := ⟨p3, hp3⟩
              have h1 := hb0 aO.block ⟨aO, haO, rfl⟩
              have h2 := b2 aO.block ⟨aO, haO, rfl⟩
              omega
            omega
        have x67 : Go.Rd.Ext w w7 := x6.fresh k7 fun j hj => by have := b2 j hj; omega
        have x9 : Go.Rd.Ext w w9 := (x67.trans x8).fresh k9 fun j hj => by have := (hS6 j hj).1; omega
        have hm9 := hm6.push har g4 (by omega)
        have := ihe (i + 1) (by omega) (by omega) w9 (o6.set g.toNat true) S9 sc9 (st6 ++ [g.toNat]) (by rw [hl9]; omega) (by rw [hl9]; omega) hm9 (fun j g' hj hg' => ?_) ((o7.ext x8).keep k9 fun k hk h => (hS6 k h).2 hk) (by rw [e9]; exact o9) b9' x9
          ((hG6.keep k7 fun a ha => nG _ ⟨a, ha, rfl⟩).ext x8 |>.keep k9 fun a ha => nS6 _ ⟨a, ha, rfl⟩) (fun k hk h => ?_) (by have := k9.size; omega)
        · rw [hl9] at this
          exact this
        · by_cases hji : j = i
          · subst hji
            rw [hgi] at hg'
            obtain rfl := Option.some.inj hg'
            exact (set_true hol _).2 (.inr rfl)
          · exact (set_true hol _).2 (.inl (hdone j g' (by omega) hg'))
        · rcases b9 k h with h | h
          · exact nS6 k hk h
          · obtain ⟨aG, haG, hk'⟩ := hk
            rw [hp2] at haG
            obtain rfl := Option.some.inj haG
            have := cell_lt hcell2
            rw [add_block] at this
            omega
end
end Go.Proofs.Ytbchjihecdkfeaa

namespace Go.Proofs.Ytbchjihecdkfeaa
open Go.Rd Go.RowKit
set_option linter.unusedVariables false
set_option linter.unusedSimpArgs false
set_option maxRecDepth 100000
section
variable {w : World} {A : Option Addr} {n c : Nat} {ps : List BP}
theorem goes_iff {bs : List Blk} {i k : Nat} {b : Blk} (hb : bs[i]? = some b) : Goes bs i k ↔ (k : Int) ∈ goalsL b :=
  ⟨fun ⟨b', hb', h⟩ => by rw [hb] at hb'; obtain rfl := Option.some.inj hb'; exact h, fun h => ⟨b, hb, h⟩⟩
theorem fwd_start {bs : List Blk} (h0 : 0 < bs.length) : FwdAt bs 0 ((List.replicate bs.length false).set 0 true) := by
  refine ⟨by simp, fun k => ?_⟩
  rw [set_true (by simpa using h0)]
  constructor
  · rintro (h | rfl)
    · rw [List.getElem?_replicate] at h
      split at h <;> cases h
    · exact ⟨h0, .inl rfl⟩
  · rintro ⟨hk, rfl | ⟨j, hj, _⟩⟩
    · exact .inr rfl
    · omega
theorem rgreach_spec (hx : IBl w A n ps) (T : GTaken (blks ps)) : Run Try.prog 34 #[.slice A n c] w fun v w' => ∃ O, v = .slice O n n ∧ OBools w' O n (reachL (blks ps)) ∧ (∀ k, blk O k → w.heap.size ≤ k) ∧ Go.Rd.Ext w w' := by
  have hl := hx.len
  have hbl : (blks ps).length = n := by rw [blks, List.length_map, hl]
  have hTl := T.le
  have hT0 := T.pos
  refine ref15_Reach.ok (made_boolsN (n := n) (by omega) rfl fun O w1 o1 b1 x1 => ⟨_, _, _, rfl, by omega, by omega, put_true (t := 0) o1 rfl (by simp; omega) fun w2 o2 k2 => ?_⟩)
  have f0 := fwd_start hT0
  rw [hbl] at f0
  suffices H : ∀ (d k : Nat), n - k = d → k ≤ n → ∀ (w' : World) (o : List Bool), FwdAt (blks ps) k o → OBools w' O n o → Go.Rd.Ext w w' →
      ref15_Reach.L0 (fun v w' => ∃ O, v = .slice O n n ∧ OBools w' O n (reachL (blks ps)) ∧ (∀ k, blk O k → w.heap.size ≤ k) ∧ Go.Rd.Ext w w') A n c O n n (k : Int) w' from H n 0 (by omega) (by omega) w2 _ f0 o2 (x1.fresh k2 b1)
  intro d
  induction d with
  | zero =>
    intro k hd hk w' o hf ho x
    obtain rfl : k = n := by omega
    refine ref15_Reach.L0_step (ifP_no (by omega) ⟨O, rfl, ?_, b1, x⟩)
    rw [← hbl] at hf
    rw [← hf.done T]
    exact ho
  | succ d ih =>
    intro k hd hk w' o hf ho x
    have hkn : k < n := by omega
    have hol := hf.1
    obtain ⟨v, hv⟩ : ∃ v, o[k]? = some v := ⟨_, List.getElem?_eq_getElem (by omega)⟩
    obtain ⟨p, hp, hcell⟩ := (ho.rd (by omega)).2 k v hv
    have here := hf.here T (by omega)
    have ht : Int.toNat ((k : Nat) : Int) = k := Int.toNat_natCast k
    have next : ∀ (w3 : World) (o' : List Bool), FwdAt (blks ps) (k + 1) o' → OBools w3 O n o' → Go.Rd.Ext w w3 → ref15_Reach.J0 (fun v w' => ∃ O, v = .slice O n n ∧ OBools w' O n (reachL (blks ps)) ∧ (∀ k, blk O k → w.heap.size ≤ k) ∧ Go.Rd.Ext w w') A n c O n n (k : Int) w3 := by
      intro w3 o' hf' ho' x3
      unfold ref15_Reach.J0
      rw [wrap_i64 (by omega) (by omega)]
      exact ih (k + 1) (by omega) (by omega) w3 o' hf' ho' x3
    refine ref15_Reach.L0_step (ifP_yes (by omega) ⟨by omega, by omega, p, hp, v, by rw [ht]; exact hcell, ?_⟩)
    cases v with
    | false =>
      refine ifP_t rfl (next w' o (hf.skip fun hr => ?_) ho x)
      rw [here.2 hr] at hv
      cases hv
    | true =>
      have hr := here.1 hv
      refine ifP_f rfl ?_
      obtain ⟨q, pb, hq, hpp, h8⟩ := (hx.ext x).at8 (i := k) hkn
      have hb := blks_get hpp
      have t2 := (T.at_ k pb.b hb).2.1
      have kinds := endedB_kinds t2
      refine ⟨by omega, by omega, q, hq, ?_⟩
      rw [ht]
      -- behind Yes
      have j1 : ∀ (w3 : World) (o3 : List Bool), OBools w3 O n o3 → Go.Rd.Ext w w3 → o3.length = n → (∀ j : Nat, o3[j]? = some true ↔ (o[j]? = some true ∨ pb.b.e ≠ 1 ∧ (j : Int) = pb.b.yes)) → ref15_Reach.J1 (fun v w' => ∃ O, v = .slice O n n ∧ OBools w' O n (reachL (blks ps)) ∧ (∀ k, blk O k → w.heap.size ≤ k) ∧ Go.Rd.Ext w w') A n c O n n (k : Int) w3 := by
        intro w3 o3 ho3 x3 hl3 h3
        obtain ⟨q', pb', hq', hpp', h8'⟩ := (hx.ext x3).at8 (i := k) hkn
        rw [hpp] at hpp'
        obtain rfl := Option.some.inj hpp'
        refine ⟨by omega, by omega, q', hq', ?_⟩
        rw [ht]
        refine ⟨_, h8'.e, ifP_beq.2 ⟨fun e3 => ⟨by omega, by omega, q', hq', _, h8'.o, ?_⟩, fun e3 => ?_⟩⟩
        · have hgo : pb.b.no ∈ goalsL pb.b := by simp [goalsL, e3]
          obtain ⟨g1, g2, g3, g4⟩ := T.goal_nat hb hgo
          refine ⟨by omega, by omega, put_true (t := pb.b.no.toNat) ho3 (by omega) (by omega) fun w4 o4 k4 => next w4 _ (hf.go hr (by rw [set_length]; omega) fun j => ?_) o4 (x3.fresh k4 b1)⟩
          rw [set_true (by omega), h3 j, goes_iff hb]
          have em : goalsL pb.b = [pb.b.yes, pb.b.no] := by simp [goalsL, e3]
          constructor
          · rintro ((h | ⟨_, h⟩) | rfl)
            · exact .inl h
            · refine .inr ⟨?_, by rw [em, h]; simp⟩
              have := (T.goal_nat hb (show pb.b.yes ∈ goalsL pb.b by rw [em]; simp)).2.1
              omega
            · exact .inr ⟨by omega, by rw [g3]; exact hgo⟩
          · rintro (h | ⟨_, h⟩)
            · exact .inl (.inl h)
            · rw [em] at h
              simp only [List.mem_cons, List.not_mem_nil, or_false] at h
              rcases h with h | h
              · exact .inl (.inr ⟨by omega, h⟩)
              · exact .inr (by omega)
        · refine next w3 o3 (hf.go hr (by omega) fun j => ?_) ho3 x3
          rw [h3 j, goes_iff hb]
          by_cases e1 : pb.b.e = 1
          · have em : goalsL pb.b = [] := by simp [goalsL, e1]
            rw [em]
            simp [e1]
          · have e2 : pb.b.e = 2 := by omega
            have em : goalsL pb.b = [pb.b.yes] := by simp [goalsL, e2]
            have := T.goal_nat hb (show pb.b.yes ∈ goalsL pb.b by rw [em]; simp)
            rw [em]
            simp only [List.mem_cons, List.not_mem_nil, or_false]
            constructor
            · rintro (h | ⟨_, h⟩)
              · exact .inl h
              · exact .inr ⟨by omega, h⟩
            · rintro (h | ⟨_, h⟩)
              · exact .inl h
              · exact .inr ⟨e1, h⟩
      refine ⟨_, h8.e, ifP_bne.2 ⟨fun e1 => ⟨by omega, by omega, q, hq, _, h8.y, ?_⟩, fun e1 => ?_⟩⟩
      · have hgo : pb.b.yes ∈ goalsL pb.b := by
          have : pb.b.e = 2 ∨ pb.b.e = 3 := by omega
          rcases this with h | h <;> simp [goalsL, h]
        obtain ⟨g1, g2, g3, g4⟩ := T.goal_nat hb hgo
        refine ⟨by omega, by omega, put_true (t := pb.b.yes.toNat) ho (by omega) (by omega) fun w4 o4 k4 => j1 w4 _ o4 (x.fresh k4 b1) (by rw [set_length]; omega) fun j => ?_⟩
        rw [set_true (by omega)]
        constructor
        · rintro (h | rfl)
          · exact .inl h
          · exact .inr ⟨e1, g3⟩
        · rintro (h | ⟨_, h⟩)
          · exact .inl h
          · exact .inr (by omega)
      · refine j1 w' o ho x (by omega) fun j => ?_
        simp [e1]
theorem rgsize_spec (hx : IBl w A n ps) (T : GTaken (blks ps)) : Run Try.prog 35 #[.slice A n c] w fun v w' => v = .int .i64 (weighV 1 0 1 (blks ps)) ∧ Go.Rd.Ext w w' := by
  have hl := hx.len
  have hbl : (blks ps).length = n := by rw [blks, List.length_map, hl]
  have hTl := T.le
  have hTc := T.codes
  refine ref15_Size.ok ?_
  suffices H : ∀ (d k : Nat), n - k = d → k ≤ n → ∀ (w' : World), Go.Rd.Ext w w' → ref15_Size.L0 (fun v w' => v = .int .i64 (weighV 1 0 1 (blks ps)) ∧ Go.Rd.Ext w w') A n c (weighV 1 0 1 ((blks ps).take k)) (k : Int) w' from H n 0 (by omega) (by omega) w (Go.Rd.Ext.refl w)
  intro d
  induction d with
  | zero =>
    intro k hd hk w' x
    refine ref15_Size.L0_step (ifP_no (by omega) ⟨?_, x⟩)
    rw [List.take_of_length_le (by omega)]
  | succ d ih =>
    intro k hd hk w' x
    obtain ⟨q, p, hq, hp, h8⟩ := (hx.ext x).at8 (i := k) (by omega)
    have hbk := blks_get hp
    have hpl : p.b.code.length = p.n := (hx.code p (List.mem_of_getElem? hp)).len
    have ht' : Int.toNat ((k : Nat) : Int) = k := Int.toNat_natCast k
    have hsum := sum_take_succ hbk
    have z1 := weigh_le (back := 1) (on := 0) (test := 1) (by decide) (by decide) (by decide) ((blks ps).take k)
    have z2 := sum_take_le (blks ps) (k + 1)
    have z3 : ((blks ps).take k).length ≤ n := by rw [List.length_take]; omega
    have hw := weigh_take (back := 1) (on := 0) (test := 1) hbk
    refine ref15_Size.L0_step (ifP_yes (by omega) ⟨by omega, by omega, q, hq, ?_⟩)
    rw [ht']
    refine ⟨_, _, _, h8.s, by omega, by omega, q, hq, _, h8.e, ifP_bne.2 ⟨fun e2 => ?_, fun e2 => ?_⟩⟩
    · unfold ref15_Size.J0
      rw [wrap_i64 (x := weighV 1 0 1 ((blks ps).take k) + ((p.n : Nat) : Int)) (by omega) (by omega), wrap_i64 (by omega) (by omega), wrap_i64 (by omega) (by omega)]
      have := ih (k + 1) (by omega) (by omega) w' x
      have e : weighB 1 0 1 p.b = p.n + 1 := by
        rw [weighB, hpl]
        split
        · rfl
        · rfl
      rw [hw, e] at this
      rwa [Int.add_assoc]
    · unfold ref15_Size.J0
      rw [wrap_i64 (x := weighV 1 0 1 ((blks ps).take k) + ((p.n : Nat) : Int)) (by omega) (by omega), wrap_i64 (by omega) (by omega)]
      have := ih (k + 1) (by omega) (by omega) w' x
      have e : weighB 1 0 1 p.b = p.n := by
        rw [weighB, hpl, if_neg (by omega), if_pos e2]
        omega
      rw [hw, e] at this
      exact this
theorem rgmeasure_spec (hx : IBl w A n ps) (T : GTaken (blks ps)) : Run Try.prog 36 #[.slice A n c] w fun v w' => v = .int .i64 (weighV 1 1 3 (blks ps)) ∧ Go.Rd.Ext w w' := by
  have hl := hx.len
  have hbl : (blks ps).length = n := by rw [blks, List.length_map, hl]
  have hTl := T.le
  have hTc := T.codes
  refine ref15_Measure.ok ?_
  suffices H : ∀ (d k : Nat), n - k = d → k ≤ n → ∀ (w' : World), Go.Rd.Ext w w' → ref15_Measure.L0 (fun v w' => v = .int .i64 (weighV 1 1 3 (blks ps)) ∧ Go.Rd.Ext w w') A n c (weighV 1 1 3 ((blks ps).take k)) (k : Int) w' from H n 0 (by omega) (by omega) w (Go.Rd.Ext.refl w)
  intro d
  induction d with
  | zero =>
    intro k hd hk w' x
    refine ref15_Measure.L0_step (ifP_no (by omega) ⟨?_, x⟩)
    rw [List.take_of_length_le (by omega)]
  | succ d ih =>
    intro k hd hk w' x
    obtain ⟨q, p, hq, hp, h8⟩ := (hx.ext x).at8 (i := k) (by omega)
    have hbk := blks_get hp
    have hpl : p.b.code.length = p.n := (hx.code p (List.mem_of_getElem? hp)).len
    have kinds := endedB_kinds (T.at_ k p.b hbk).2.1
    have ht' : Int.toNat ((k : Nat) : Int) = k := Int.toNat_natCast k
    have hsum := sum_take_succ hbk
    have z1 := weigh_le (back := 1) (on := 1) (test := 3) (by decide) (by decide) (by decide) ((blks ps).take k)
    have z2 := sum_take_le (blks ps) (k + 1)
    have z3 : ((blks ps).take k).length ≤ n := by rw [List.length_take]; omega
    have hw := weigh_take (back := 1) (on := 1) (test := 3) hbk
    refine ref15_Measure.L0_step (ifP_yes (by omega) ⟨by omega, by omega, q, hq, ?_⟩)
    rw [ht']
    refine ⟨_, _, _, h8.s, by omega, by omega, q, hq, _, h8.e, ifP_beq.2 ⟨fun e3 => ?_, fun e3 => ?_⟩⟩
    · unfold ref15_Measure.J0
      rw [wrap_i64 (x := weighV 1 1 3 ((blks ps).take k) + ((p.n : Nat) : Int)) (by omega) (by omega), wrap_i64 (x := weighV 1 1 3 ((blks ps).take k) + ((p.n : Nat) : Int) + 1) (by omega) (by omega), wrap_i64 (by omega) (by omega), wrap_i64 (by omega) (by omega)]
      have := ih (k + 1) (by omega) (by omega) w' x
      have e : weighB 1 1 3 p.b = p.n + 3 := by rw [weighB, hpl, if_neg (by omega), if_neg (by omega)]
      rw [hw, e] at this
      rwa [show weighV 1 1 3 ((blks ps).take k) + ((p.n : Nat) : Int) + 1 + 2 = weighV 1 1 3 ((blks ps).take k) + (((p.n : Nat) : Int) + 3) by omega]
    · unfold ref15_Measure.J0
      rw [wrap_i64 (x := weighV 1 1 3 ((blks ps).take k) + ((p.n : Nat) : Int)) (by omega) (by omega), wrap_i64 (by omega) (by omega), wrap_i64 (by omega) (by omega)]
      have := ih (k + 1) (by omega) (by omega) w' x
      have e : weighB 1 1 3 p.b = p.n + 1 := by
        rw [weighB, hpl]
        split
        · rfl
        · rw [if_pos (by omega)]
      rw [hw, e] at this
      rwa [Int.add_assoc]
end
section
variable {W : World} {A : Option Addr} {n c : Nat} {ps : List BP}
theorem GraphSizes_main (hx : RdM BP.v W A n ps) (hb : ∀ p ∈ ps, BIn W p) (hn : n * 56 ≤ 140737488351232) :
    Run Try.prog 7 #[.slice A n c] W (Good W) := by
  have hi : IBl W A n ps := ⟨hx, fun p hp => (hb p hp).rd⟩
  have hs8 : ∀ p ∈ ps, p.n * 8 ≤ 140737488351232 := fun p hp => (hb p hp).size
  have hs : ∀ p ∈ ps, p.n ≤ 140737488351232 := fun p hp => by have := hs8 p hp; omega
  have sizes : ∀ {T : List Ins} {X : List BP} {w : World} {A : Option Addr} {c : Nat} {qs : List BP}, GOk T X w A c qs → blks qs = blks ps → ∀ q ∈ qs, q.n ≤ 140737488351232 := by
    intro T X w A c qs g hq q hqm
    obtain ⟨p, hp, he⟩ := List.mem_map.1 (show q.b ∈ blks ps by rw [← hq]; exact blks_mem hqm)
    have hl : p.b.code.length = p.n := (hi.code p hp).len
    have := hs p hp
    rw [← (g.part q hqm).2, ← he]
    omega
  refine law15_GraphSizes.ok ((rtakes_spec hi hs).mono ?_)
  rintro v w1 ⟨rfl, x1⟩
  refine ⟨_, rfl, (lendBlocks_spec (hi.ext x1) hs8 hn).mono ?_⟩
  rintro v w2 ⟨A2, c2, qs, rfl, g2, hq, hql, hf, x2⟩
  have hsq := sizes g2 hq
  refine ⟨_, _, _, rfl, (gsize_spec (g2.read hql) hsq).mono ?_⟩
  rintro v w3 ⟨rfl, x3⟩
  refine ⟨_, _, rfl, (gmeasure_spec ((g2.ext x3).read hql) hsq).mono ?_⟩
  rintro v w4 ⟨rfl, x4⟩
  refine ⟨_, _, rfl, (greach_spec (((g2.ext x3).ext x4).read hql) hsq).mono ?_⟩
  rintro v w5 ⟨X, xc, rfl, o5, b5, x5⟩
  rw [hq] at o5 ⊢
  have hlen := reachR_length (bs := blks ps)
  have x25 := (x3.trans x4).trans x5
  have x05 := (x1.trans x2).trans x25
  have z1 := x1.size
  have z2 := x2.size
  have z4 := (x3.trans x4).size
  have L2 : ∀ k, gff A2 qs k → k < w2.heap.size := fun k hk => g2.lt hk
  have L5 := o5.lt
  refine ⟨_, _, _, _, rfl, (keptBlocks_spec hi hs8 hn x05 (g2.ext x25) hq hql (fun k hk => by have := hf k hk; omega)).mono ?_⟩
  rintro v w6 ⟨rfl, k6⟩
  have x06 : Go.Rd.Ext W w6 := x05.fresh k6 fun k hk => by have := hf k hk; omega
  have o6 := o5.keep k6 fun k hk h => by have := b5 k hk; have := L2 k h; omega
  have z6 := k6.size
  refine ⟨_, rfl, ifP_f rfl ((copyBlocks_spec (hi.ext x06) hs8 hn).mono ?_)⟩
  rintro v w7 ⟨A7, c7, rs, rfl, g7, hr, hrl, hf7, x7⟩
  refine ⟨_, _, _, rfl, (greach_spec (g7.read hrl) (sizes g7 hr)).mono ?_⟩
  rintro v w8 ⟨Y, yc, rfl, o8, b8, x8⟩
  rw [hr] at o8 ⊢
  have x08 := (x06.trans x7).trans x8
  have z7 := x7.size
  refine ⟨_, _, _, _, rfl, ?_⟩
  by_cases hc : (gcheckV (blks ps)).2 ≠ 0
  · have e1 : takesB (blks ps) = false := by simpa [takesB] using hc
    have e2 : sizeR (blks ps) = (0, 155) := by rw [sizeR, weighR, if_pos hc]
    have e3 : measureR (blks ps) = (0, 155) := by rw [measureR, weighR, if_pos hc]
    have e4 : reachR (blks ps) = ([], 155) := by rw [reachR, if_pos hc]
    rw [e1, e2, e3, e4]
    refine ifP_t rfl (ifP_eq rfl (ifP_eq rfl (ifP_eq rfl (ifP_eq rfl (ifP_eq rfl (ifP_eq rfl (gawake_spec.mono ?_)))))))
    rintro v w9 ⟨rfl, x9⟩
    exact ⟨_, rfl, rfl, Fr.of_ext (x08.trans x9)⟩
  have hc := Classical.not_not.1 hc
  obtain ⟨T, _⟩ := gtaken_of hc
  have hbl : (blks ps).length = n := by rw [blks, List.length_map, hx.len]
  have e1 : takesB (blks ps) = true := by simpa [takesB] using hc
  have e2 : sizeR (blks ps) = (weighV 1 0 1 (blks ps), 0) := by rw [sizeR, weighR, if_neg (not_not_intro hc)]
  have e3 : measureR (blks ps) = (weighV 1 1 3 (blks ps), 0) := by rw [measureR, weighR, if_neg (not_not_intro hc)]
  have e4 : reachR (blks ps) = (reachL (blks ps), 0) := by rw [reachR, if_neg (not_not_intro hc)]
  rw [e1, e2, e3]
  refine ifP_f rfl ((rgreach_spec (hi.ext x08) T).mono ?_)
  rintro v w9 ⟨Z, rfl, o9, b9, x9⟩
  rw [e4] at o6 o8 hlen ⊢
  have e5 : (reachL (blks ps)).length = n := by rw [reachL_length, hbl]
  refine ⟨_, _, _, rfl, ifP_nne rfl (ifP_nne rfl (ifP_nne rfl ((rgsize_spec (hi.ext (x08.trans x9)) T).mono ?_)))⟩
  rintro v w10 ⟨rfl, x10⟩
  refine ⟨_, rfl, ifP_nne rfl ((rgmeasure_spec (hi.ext ((x08.trans x9).trans x10)) T).mono ?_)⟩
  rintro v w11 ⟨rfl, x11⟩
  have x611 := (((x7.trans x8).trans x9).trans x10).trans x11
  have z8 := x8.size
  have z9 := x9.size
  refine ⟨_, rfl, ifP_nne rfl ((sameBools_spec ((o6.ext x611).rd rfl) ((o9.ext (x10.trans x11)).rd e5) (by omega)).mono ?_)⟩
  rintro v w12 ⟨rfl, x12⟩
  refine ⟨_, rfl, ?_⟩
  rw [decide_eq_true rfl]
  refine ifP_f rfl ((spoilBools_spec ((o6.ext x611).ext x12) (by rw [List.length_map]) (by omega)).mono ?_)
  rintro v w13 ⟨rfl, k13⟩
  have z11 := (x10.trans x11).size
  have Lo8 := o8.lt
  have y13 := (o8.ext (((x9.trans x10).trans x11).trans x12)).keep k13 fun k hk h => by have := b8 k hk; have := L5 k h; omega
  have t13 := (o9.ext ((x10.trans x11).trans x12)).keep k13 fun k hk h => by have := b9 k hk; have := L5 k h; omega
  have x013 : Go.Rd.Ext W w13 := (x06.trans (x611.trans x12)).fresh k13 fun k hk => by have := b5 k hk; omega
  refine ⟨rfl, (sameBools_spec (y13.rd rfl) (t13.rd e5) (by omega)).mono ?_⟩
  rintro v w14 ⟨rfl, x14⟩
  refine ⟨_, rfl, ifP_t (by simp) (gawake_spec.mono ?_)⟩
  rintro v w15 ⟨rfl, x15⟩
  exact ⟨_, rfl, rfl, Fr.of_ext ((x013.trans x14).trans x15)⟩
end
end Go.Proofs.Ytbchjihecdkfeaa
