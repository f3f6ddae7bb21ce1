/- Package graph: Reach; the document's Reach, Size, Measure. -/
import Derived.Test.YtbchjihecdkfeaaA5
import Derived.Test.YtbchjihecdkfeaaA10
namespace Go.Proofs.Ytbchjihecdkfeaa
open Go.Rd Go.RowKit
set_option linter.unusedVariables false
set_option linter.unusedSimpArgs false
set_option maxRecDepth 100000
noncomputable def reachR (bs : List Blk) : List Bool × Int := if (gcheckV bs).2 ≠ 0 then ([], 155) else (reachL bs, 0)
theorem reachR_length {bs : List Blk} : (reachR bs).1.length ≤ 4096 := by
  unfold reachR
  split
  · exact Nat.zero_le _
  · rename_i h
    rw [reachL_length]
    exact (gtaken_of (Classical.not_not.1 h)).1.le
def ReachesOf (w : World) (r : List Bool × Int) (v : Value) (w' : World) : Prop := ∃ O oc, v = .tuple #[.slice O r.1.length oc, .int .i64 r.2] ∧ OBools w' O oc r.1 ∧ (∀ k, blk O k → w.heap.size ≤ k) ∧ Go.Rd.Ext w w'
theorem own_init {e : Nat} {w : World} {A : Option Addr} {c : Nat} {cs ys : List Value} (h : Own e 1 w A c (cs ++ ys)) : Own e 1 w A c cs := by
  rcases h with ⟨h1, h2, h3⟩ | ⟨b, sp, h1, h2, h3⟩
  · exact .inl ⟨h1, h2, (List.append_eq_nil_iff.1 h3).1⟩
  · exact .inr ⟨b, ys ++ sp, h1, by rw [← List.append_assoc]; exact h2, by rw [← List.append_assoc]; exact h3⟩
/-- How many are not marked. -/
abbrev unm (o : List Bool) : Nat := o.count false
theorem unm_set {o : List Bool} {k : Nat} (h : o[k]? = some false) : unm (o.set k true) + 1 = unm o := by
  obtain ⟨hk, he⟩ := List.getElem?_eq_some_iff.1 h
  unfold unm
  rw [List.count_set hk, he]
  have : 0 < o.count false := List.count_pos_iff.2 (by rw [← he]; exact List.getElem_mem hk)
  simp
  omega
section
variable {w : World} {A : Option Addr} {n c : Nat} {ps : List BP}
/-- What is told while blocks are marked: 'st' are those that wait. -/
structure MarkAt (bs : List Blk) (o : List Bool) (st : List Nat) (X : Nat → Prop) : Prop where
  len : o.length = bs.length
  zero : o[0]? = some true
  all : ∀ k, o[k]? = some true → Reaches bs k
  wait : ∀ k ∈ st, o[k]? = some true
  shut : ∀ j k, o[j]? = some true → j ∉ st → ¬ X j → Goes bs j k → o[k]? = some true
theorem MarkAt.push {bs : List Blk} {o : List Bool} {st : List Nat} {X : Nat → Prop} (h : MarkAt bs o st X) {j k : Nat} (hj : Reaches bs j) (hg : Goes bs j k) (hk : k < bs.length) : MarkAt bs (o.set k true) (st ++ [k]) X := by
  have ho : k < o.length := by rw [h.len]; exact hk
  have mono : ∀ i, o[i]? = some true → (o.set k true)[i]? = some true := fun i hi => (set_true ho i).2 (.inl hi)
  refine ⟨by rw [set_length]; exact h.len, mono 0 h.zero, fun i hi => ?_, fun i hi => ?_, fun i l hi hns hX hgo => ?_⟩
  · rcases (set_true ho i).1 hi with h1 | rfl
    · exact h.all i h1
    · exact hj.step hg
  · rcases List.mem_append.1 hi with h1 | h1
    · exact mono i (h.wait i h1)
    · obtain rfl : i = k := by simpa using h1
      exact (set_true ho i).2 (.inr rfl)
  · rw [List.mem_append, not_or] at hns
    rcases (set_true ho i).1 hi with h1 | rfl
    · exact mono l (h.shut i l h1 hns.1 hX hgo)
    · exact absurd (by simp) hns.2
theorem nats_snoc (st : List Nat) (k : Nat) : ((st ++ [k]).map fun n : Nat => (n : Int)).map (Value.int .i64) = (st.map fun n : Nat => (n : Int)).map (Value.int .i64) ++ [.int .i64 (k : Int)] := by simp
theorem greach_spec (hx : IBl w A n ps) (hs : ∀ p ∈ ps, p.n ≤ 140737488351232) : Run Try.prog 33 #[.slice A n c] w (ReachesOf w (reachR (blks ps))) := by
  have hl := hx.len
  have hbl : (blks ps).length = n := by rw [blks, List.length_map, hl]
  refine graph_Reach.ok ((gtaken_spec hx hs).mono ?_)
  rintro v w1 ⟨rfl, x1⟩
  by_cases hc : (gcheckV (blks ps)).2 ≠ 0
  · rw [if_pos hc]
    refine ⟨_, rfl, ifP_t rfl ⟨none, 0, ?_, ?_, fun k hk => absurd hk blk_none, x1⟩⟩
    · rw [reachR, if_pos hc]; rfl
    · rw [reachR, if_pos hc]; exact Own.empty
  have hc := Classical.not_not.1 hc
  rw [if_neg (not_not_intro hc)]
  obtain ⟨T, _⟩ := gtaken_of hc
  have hTl := T.le
  have hT0 := T.pos
  have er : reachR (blks ps) = (reachL (blks ps), 0) := by rw [reachR, if_neg (not_not_intro hc)]
  refine ⟨_, rfl, ifP_f rfl (made_boolsN (n := n) (by omega) rfl fun O w2 o2 b2 x2 => ⟨_, _, _, rfl, letA fun w3 h3 x3 s3 => ⟨by omega, by omega, put_true (t := 0) (o2.ext x3) rfl (by simp; omega) fun w4 o4 k4 => ?_⟩⟩)⟩
  have z1 := x1.size
  have z2 := x2.size
  have x13 := (x1.trans x2).trans x3
  have x4 : Go.Rd.Ext w w4 := x13.fresh k4 fun j hj => by have := b2 j hj; omega
  have hlist : Own 3 1 w3 (some (newA w2)) 1 (([0] : List Nat).map (fun n : Nat => (n : Int)) |>.map (Value.int .i64)) := .inr ⟨_, [], rfl, h3, rfl⟩
  have n2 : ¬ blk O w2.heap.size := fun h => by have := o2.lt _ h; omega
  have hlist4 := hlist.keep k4 fun k hk h => n2 (by rwa [blk_some.1 hk] at h)
  suffices H : ∀ (d : Nat) (w' : World) (o : List Bool) (S : Option Addr) (sc : Nat) (st : List Nat), 2 * unm o + st.length ≤ d → st.length + unm o ≤ n → MarkAt (blks ps) o st (fun _ => False) → OBools w' O n o → Own 3 1 w' S sc ((st.map fun n : Nat => (n : Int)).map (Value.int .i64)) → (∀ k, blk S k → w1.heap.size ≤ k ∧ ¬ blk O k) → Go.Rd.Ext w w' →
      graph_Reach.L0 (ReachesOf w (reachR (blks ps))) A n c O n n S st.length sc w' by
    have c0 : unm ((List.replicate n false).set 0 true) + 1 = n := by
      rw [unm_set (by rw [List.getElem?_replicate, if_pos (by omega)])]
      simp [unm]
    have m0 : MarkAt (blks ps) ((List.replicate n false).set 0 true) [0] (fun _ => False) := by
      have hr : 0 < (List.replicate n false).length := by simp; omega
      refine ⟨by simp [hbl], (set_true hr 0).2 (.inr rfl), fun k hk => ?_, fun k hk => ?_, fun j k hj hn _ _ => ?_⟩
      · rcases (set_true hr k).1 hk with h | rfl
        · rw [List.getElem?_replicate] at h
          split at h <;> cases h
        · exact .start
      · obtain rfl : k = 0 := by simpa using hk
        exact (set_true hr 0).2 (.inr rfl)
      · rcases (set_true hr j).1 hj with h | rfl
        · rw [List.getElem?_replicate] at h
          split at h <;> cases h
        · exact absurd (by simp) hn
    exact H _ w4 _ (some (newA w2)) 1 [0] (Nat.le_refl _) (by show 1 + _ ≤ n; omega) m0 o4 hlist4 (fun k hk => by rw [blk_some.1 hk]; exact ⟨by omega, n2⟩) x4
  intro d
  induction d with
  | zero =>
    intro w' o S sc st hd hn hm ho hst hS x
    have h0 : st = [] := by cases st with | nil => rfl | cons a b => simp at hd
    subst h0
    refine graph_Reach.L0_step (ifP_no (by simp) ⟨O, n, ?_, ?_, fun k hk => by have := b2 k hk; omega, x⟩)
    · rw [er, reachL_length, hbl]
    · rw [er, ← reachL_shut T hm.len hm.zero hm.all fun j k hj hg => hm.shut j k hj (by simp) id hg]
      exact ho
  | succ d ih =>
    intro w' o S sc st hd hn hm ho hst hS x
    rcases List.eq_nil_or_concat st with h0 | ⟨st', a, h0⟩
    · subst h0
      refine graph_Reach.L0_step (ifP_no (by simp) ⟨O, n, ?_, ?_, fun k hk => by have := b2 k hk; omega, x⟩)
      · rw [er, reachL_length, hbl]
      · rw [er, ← reachL_shut T hm.len hm.zero hm.all fun j k hj hg => hm.shut j k hj (by simp) id hg]
        exact ho
    rw [List.concat_eq_append] at h0
    subst h0
    have hlen : (st' ++ [a]).length = st'.length + 1 := by simp
    rw [hlen] at hd hn ⊢
    have ha := hm.wait a (by simp)
    have har := hm.all a ha
    have han : a < n := by have := har.lt T; omega
    have ew : IntKind.i64.wrap (((st'.length + 1 : Nat) : Int) - 1) = ((st'.length : Nat) : Int) := by rw [wrap_i64 (by omega) (by omega)]; omega
    have hrd : Rd (Value.int .i64) w' S (st'.length + 1) ((st' ++ [a]).map fun n : Nat => (n : Int)) := hst.rd (by simp)
    obtain ⟨p, hp, hcell⟩ := hrd.2 st'.length (a : Int) (by simp)
    have hle := hst.le
    rw [List.length_map, List.length_map, hlen] at hle
    refine graph_Reach.L0_step (ifP_yes (by omega) ?_)
    rw [ew, Int.toNat_natCast, subA_zero]
    obtain ⟨q, pb, hq, hpp, h8⟩ := (hx.ext x).at8 (i := a) han
    have hb := blks_get hpp
    obtain ⟨t1, t2, t3⟩ := T.at_ a pb.b hb
    have hst' : Own 3 1 w' S sc ((st'.map fun n : Nat => (n : Int)).map (Value.int .i64)) := by
      rw [nats_snoc] at hst
      exact own_init hst
    refine ⟨by omega, by omega, p, hp, _, hcell, by omega, by omega, by omega, by omega, by omega, q, hq, ?_⟩
    rw [Int.toNat_natCast]
    have popped : ∀ (X : Nat → Prop), (∀ j, j = a → X j) → MarkAt (blks ps) o st' X := fun X hX =>
      ⟨hm.len, hm.zero, hm.all, fun k hk => hm.wait k (by simp [hk]), fun j k hj hns hXj hg => hm.shut j k hj (by
        rw [List.mem_append, not_or]
        exact ⟨hns, fun h => hXj (hX j (by simpa using h))⟩) id hg⟩
    refine ⟨_, h8.e, ifP_beq.2 ⟨fun e1 => ?_, fun e1 => ⟨by omega, by omega, q, hq, h8.rd (ggoals_spec.mono ?_)⟩⟩⟩
    · refine ih w' o S (sc - 0) st' (by omega) (by omega) ?_ ho hst' hS x
      have hp := popped (· = a) fun j hj => hj
      refine ⟨hp.len, hp.zero, hp.all, hp.wait, fun j k hj hns _ hg => ?_⟩
      by_cases hja : j = a
      · subst hja
        obtain ⟨b, hb', hg'⟩ := hg
        rw [hb] at hb'
        obtain rfl := Option.some.inj hb'
        simp [goalsL, e1] at hg'
      · exact hp.shut j k hj hns hja hg
    rintro v w5 ⟨G, gc, rfl, hG, bG, x5⟩
    refine ⟨_, _, _, rfl, ?_⟩
    have hg2 := goalsL_le pb.b
    have nG : ∀ k, blk G k → ¬ blk O k := fun k hk h => by have := bG k hk; have := ho.lt k h; omega
    suffices I : ∀ (e i : Nat), (goalsL pb.b).length - i = e → i ≤ (goalsL pb.b).length → ∀ (w6 : World) (o6 : List Bool) (S6 : Option Addr) (sc6 : Nat) (st6 : List Nat), 2 * unm o6 + st6.length ≤ d → st6.length + unm o6 ≤ n → MarkAt (blks ps) o6 st6 (· = a) → (∀ (j : Nat) (g : Int), j < i → (goalsL pb.b)[j]? = some g → o6[g.toNat]? = some true) → OBools w6 O n o6 → Own 3 1 w6 S6 sc6 ((st6.map fun n : Nat => (n : Int)).map (Value.int .i64)) → (∀ k, blk S6 k → w1.heap.size ≤ k ∧ ¬ blk O k) → Go.Rd.Ext w w6 → Rd (Value.int .i64) w6 G (goalsL pb.b).length (goalsL pb.b) → (∀ k, blk G k → ¬ blk S6 k) → w5.heap.size ≤ w6.heap.size →
        graph_Reach.L2 (ReachesOf w (reachR (blks ps))) A n c O n n S6 st6.length sc6 G (goalsL pb.b).length gc ((goalsL pb.b).length : Int) (i : Int) w6 by
      exact I (goalsL pb.b).length 0 (by omega) (by omega) w5 o S (sc - 0) st' (by omega) (by omega) (popped _ fun j hj => hj) (fun j g hj => absurd hj (Nat.not_lt_zero j)) (ho.ext x5) (hst'.ext x5) hS (x.trans x5) hG (fun k hk h => by have := bG k hk; have := hst'.lt k h; omega) (Nat.le_refl _)
    intro e
    induction e with
    | zero =>
      intro i he hi w6 o6 S6 sc6 st6 hd6 hn6 hm6 hdone ho6 hst6 hS6 x6 hG6 nS6 z6
      refine graph_Reach.L2_step (ifP_no (by omega) ?_)
      refine ih w6 o6 S6 sc6 st6 hd6 hn6 ?_ ho6 hst6 hS6 x6
      refine ⟨hm6.len, hm6.zero, hm6.all, hm6.wait, fun j k hj hns _ hg => ?_⟩
      by_cases hja : j = a
      · subst hja
        obtain ⟨b, hb', hg'⟩ := hg
        rw [hb] at hb'
        obtain rfl := Option.some.inj hb'
        obtain ⟨l, hl'⟩ := List.getElem?_of_mem hg'
        have := hdone l k (by have := (List.getElem?_eq_some_iff.1 hl').1; omega) hl'
        rwa [Int.toNat_natCast] at this
      · exact hm6.shut j k hj hns hja hg
    | succ e ihe =>
      intro i he hi w6 o6 S6 sc6 st6 hd6 hn6 hm6 hdone ho6 hst6 hS6 x6 hG6 nS6 z6
      obtain ⟨g, hgi⟩ : ∃ g, (goalsL pb.b)[i]? = some g := ⟨_, List.getElem?_eq_getElem (by omega)⟩
      obtain ⟨p2, hp2, hcell2⟩ := hG6.2 i g hgi
      obtain ⟨g1, g2, g3, g4⟩ := T.goal_nat hb (List.mem_of_getElem? hgi)
      have hgn : g.toNat < n := by omega
      obtain ⟨v, hv⟩ : ∃ v, o6[g.toNat]? = some v := ⟨_, List.getElem?_eq_getElem (by rw [hm6.len, hbl]; exact hgn)⟩
      obtain ⟨p3, hp3, hcell3⟩ := (ho6.rd (by rw [hm6.len, hbl])).2 g.toNat v hv
      refine graph_Reach.L2_step (ifP_yes (by omega) ⟨by omega, by omega, p2, hp2, g, by rw [Int.toNat_natCast]; exact hcell2, by omega, by omega, p3, hp3, v, hcell3, ?_⟩)
      have hol : g.toNat < o6.length := by rw [hm6.len, hbl]; exact hgn
      cases v with
      | true =>
        refine ifP_f rfl ?_
        unfold graph_Reach.J0
        rw [wrap_i64 (by omega) (by omega)]
        refine ihe (i + 1) (by omega) (by omega) w6 o6 S6 sc6 st6 hd6 hn6 hm6 (fun j g' hj hg' => ?_) ho6 hst6 hS6 x6 hG6 nS6 z6
        by_cases hji : j = i
        · subst hji
          rw [hgi] at hg'
          obtain rfl := Option.some.inj hg'
          exact hv
        · exact hdone j g' (by omega) hg'
      | false =>
        have hu := unm_set hv
        refine ifP_t rfl ⟨by omega, by omega, put_true (t := g.toNat) ho6 (by omega) hol fun w7 o7 k7 => letA fun w8 h8' x8 s8 => ?_⟩
        have hB : RdC w8 (some (newA w7)) [.int .i64 g] := by
          have : Own 3 1 w8 (some (newA w7)) 1 [.int .i64 g] := .inr ⟨_, [], rfl, h8', rfl⟩
          exact this.cells
        have hst8 := (hst6.keep k7 fun k hk => (hS6 k hk).2).ext x8
        obtain ⟨S9, sc9, w9, hr, o9, hc9, k9, b9⟩ := append_own slInts (ty := 62) (n := st6.length) (d := 1) hst8 (by rw [List.length_map, List.length_map, Nat.mul_one]) hB (m := 1) rfl rfl (by omega) (by omega)
        refine ⟨_, w9, hr, S9, st6.length + 1, sc9, rfl, ?_⟩
        unfold graph_Reach.J0
        rw [wrap_i64 (by omega) (by omega)]
        have e9 : (((st6 ++ [g.toNat]).map fun n : Nat => (n : Int)).map (Value.int .i64)) = (st6.map fun n : Nat => (n : Int)).map (Value.int .i64) ++ [.int .i64 g] := by rw [nats_snoc, g3]
        have hl9 : (st6 ++ [g.toNat]).length = st6.length + 1 := by simp
        have z7 := k7.size
        have z8 := x8.size
        have hOl := ho6.lt
        have hz1 := x1.size
        have b9' : ∀ k, blk S9 k → w1.heap.size ≤ k ∧ ¬ blk O k := fun k hk => by
          rcases b9 k hk with h | h
          · exact hS6 k h
          · refine ⟨?_, fun h2 => by have := hOl k h2; omega⟩
            have := x5.size
            have : w1.heap.size ≤ w'.heap.size := by
              have := o2.lt
              have hb0 := ho.lt
              obtain ⟨aO, haO⟩ : ∃ a, O = some a := ⟨p3, hp3⟩
              have h1 := hb0 aO.block ⟨aO, haO, rfl⟩
              have h2 := b2 aO.block ⟨aO, haO, rfl⟩
              omega
            omega
        have x67 : Go.Rd.Ext w w7 := x6.fresh k7 fun j hj => by have := b2 j hj; omega
        have x9 : Go.Rd.Ext w w9 := (x67.trans x8).fresh k9 fun j hj => by have := (hS6 j hj).1; omega
        have hm9 := hm6.push har g4 (by omega)
        have := ihe (i + 1) (by omega) (by omega) w9 (o6.set g.toNat true) S9 sc9 (st6 ++ [g.toNat]) (by rw [hl9]; omega) (by rw [hl9]; omega) hm9 (fun j g' hj hg' => ?_) ((o7.ext x8).keep k9 fun k hk h => (hS6 k h).2 hk) (by rw [e9]; exact o9) b9' x9
          ((hG6.keep k7 fun a ha => nG _ ⟨a, ha, rfl⟩).ext x8 |>.keep k9 fun a ha => nS6 _ ⟨a, ha, rfl⟩) (fun k hk h => ?_) (by have := k9.size; omega)
        · rw [hl9] at this
          exact this
        · by_cases hji : j = i
          · subst hji
            rw [hgi] at hg'
            obtain rfl := Option.some.inj hg'
            exact (set_true hol _).2 (.inr rfl)
          · exact (set_true hol _).2 (.inl (hdone j g' (by omega) hg'))
        · rcases b9 k h with h | h
          · exact nS6 k hk h
          · obtain ⟨aG, haG, hk'⟩ := hk
            rw [hp2] at haG
            obtain rfl := Option.some.inj haG
            have := cell_lt hcell2
            rw [add_block] at this
            omega
end
end Go.Proofs.Ytbchjihecdkfeaa
