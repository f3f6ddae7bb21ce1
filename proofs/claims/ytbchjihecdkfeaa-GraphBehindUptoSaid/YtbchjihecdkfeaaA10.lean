/- Package graph: leads, block. -/
import Derived.Test.YtbchjihecdkfeaaA3
import Derived.Test.YtbchjihecdkfeaaGrRun
import Derived.Test.YtbchjihecdkfeaaVP4
import Derived.Test.YtbchjihecdkfeaaFDefV
namespace Go.Proofs.Ytbchjihecdkfeaa
open Go.Rd Go.RowKit
set_option linter.unusedVariables false
set_option linter.unusedSimpArgs false
set_option maxRecDepth 100000
section
variable {w : World} {A O N : Option Addr} {n c oc nc : Nat} {xs : List Ins} {R : Value → World → Prop}
theorem put_true {o : List Bool} (ho : OBools w O c o) {t : Nat} {j : Int} (hj : j = t) (ht : t < o.length) {f : World → Prop} (hf : ∀ w', OBools w' O c (o.set t true) → Keep (blk O) w w' → f w') :
    ∃ p, O = some p ∧ (∃ u, w.cell? (p.add (Int.toNat j * 1)) = some u) ∧ w.frozen? (p.add (Int.toNat j * 1)) = false ∧ letW (w.setCell (p.add (Int.toNat j * 1)) (.bool true)) f := by
  refine Own.put1 ho hj (by rw [List.length_map]; exact ht) fun w' h' k' _ => hf w' ?_ k'
  have e : (o.map Value.bool).set t (.bool true) = (o.set t true).map Value.bool := by rw [List.map_set]
  rw [e] at h'
  exact h'
theorem put_int {o : List Int} {v : Int} (ho : OInts w O c o) {t : Nat} {j : Int} (hj : j = t) (ht : t < o.length) {f : World → Prop} (hf : ∀ w', OInts w' O c (o.set t v) → Keep (blk O) w w' → f w') :
    ∃ p, O = some p ∧ (∃ u, w.cell? (p.add (Int.toNat j * 1)) = some u) ∧ w.frozen? (p.add (Int.toNat j * 1)) = false ∧ letW (w.setCell (p.add (Int.toNat j * 1)) (.int .i64 v)) f := by
  refine Own.put1 ho hj (by rw [List.length_map]; exact ht) fun w' h' k' _ => hf w' ?_ k'
  have e : (o.map (Value.int .i64)).set t (.int .i64 v) = (o.set t v).map (Value.int .i64) := by rw [List.map_set]
  rw [e] at h'
  exact h'
theorem made_boolsN {n : Nat} (hn : n ≤ 100000) {φ : Value → World → Prop} {j : Int} (hj : j = n)
    (hφ : ∀ A w', OBools w' A n ((List.replicate n false)) → (∀ k, blk A k → w.heap.size ≤ k) → Go.Rd.Ext w w' → φ (.slice A n n) w') :
    ∃ (v : Value) (w' : World), (Instr.makeSlice 53 (.int .i64 j) (.int .i64 j)).run Try.prog w = .ok v w' ∧ φ v w' := by
  subst hj
  obtain ⟨w', hr, o, x, _⟩ := make_full slBools rfl (w := w) (c := (n : Int)) (by omega) (by omega) (by omega)
  refine ⟨_, w', hr, hφ _ _ ?_ (fun k hk => by rw [blk_some.1 hk]; exact Nat.le_refl _) x⟩
  have e : List.replicate (n : Int).toNat (Value.bool false) = (List.replicate n false).map Value.bool := by simp
  rw [e] at o
  exact o
theorem made_intsN {n : Nat} (hn : n ≤ 100000) {φ : Value → World → Prop} {j : Int} (hj : j = n)
    (hφ : ∀ A w', OInts w' A n ((List.replicate n 0)) → (∀ k, blk A k → w.heap.size ≤ k) → Go.Rd.Ext w w' → φ (.slice A n n) w') :
    ∃ (v : Value) (w' : World), (Instr.makeSlice 62 (.int .i64 j) (.int .i64 j)).run Try.prog w = .ok v w' ∧ φ v w' := by
  subst hj
  obtain ⟨w', hr, o, x, _⟩ := make_full slInts rfl (w := w) (c := (n : Int)) (by omega) (by omega) (by omega)
  refine ⟨_, w', hr, hφ _ _ ?_ (fun k hk => by rw [blk_some.1 hk]; exact Nat.le_refl _) x⟩
  have e : List.replicate (n : Int).toNat (Value.int .i64 0) = (List.replicate n 0).map (Value.int .i64) := by simp
  rw [e] at o
  exact o
theorem leads_start {xs : List Ins} : LeadsAt xs 0 ((List.replicate (xs.length + 1) false).set 0 true) := by
  refine ⟨by simp, fun k => ?_⟩
  rw [set_true (by simp)]
  constructor
  · rintro (h | rfl)
    · rw [List.getElem?_replicate] at h
      split at h <;> cases h
    · exact ⟨Nat.zero_le _, .inl rfl⟩
  · rintro ⟨hk, h | ⟨j, i, hj, _⟩⟩
    · exact .inr h
    · omega
theorem gleads_spec (hx : IInsns w A n xs) (hok : Inss xs) (T : Taken xs) : Run Try.prog 59 #[.slice A n c] w fun v w' => ∃ L, v = .slice L (n + 1) (n + 1) ∧ OBools w' L (n + 1) (leadL xs) ∧ (∀ k, blk L k → w.heap.size ≤ k) ∧ Go.Rd.Ext w w' := by
  have hl := hx.len
  have hle := T.le
  subst hl
  have e1 : IntKind.i64.wrap (((xs.length : Nat) : Int) + 1) = ((xs.length + 1 : Nat) : Int) := by rw [wrap_i64 (by omega) (by omega)]; rfl
  refine graph_leads.ok ?_
  rw [graph_leads.vc, e1]
  refine made_boolsN (n := xs.length + 1) (by omega) rfl fun L w1 o1 b1 x1 => ?_
  refine ⟨_, _, _, rfl, by omega, by omega, put_true (t := 0) o1 rfl (by simp) fun w2 o2 k2 => ?_⟩
  have x2 : Go.Rd.Ext w w2 := x1.fresh k2 b1
  suffices H : ∀ (d k : Nat), xs.length - k = d → k ≤ xs.length → ∀ (w' : World) (o : List Bool), LeadsAt xs k o → OBools w' L (xs.length + 1) o → Go.Rd.Ext w w' →
      graph_leads.L0 (fun v w' => ∃ L, v = .slice L (xs.length + 1) (xs.length + 1) ∧ OBools w' L (xs.length + 1) (leadL xs) ∧ (∀ k, blk L k → w.heap.size ≤ k) ∧ Go.Rd.Ext w w') L (xs.length + 1) (xs.length + 1) A xs.length c (xs.length : Int) (k : Int) w' from H xs.length 0 (by omega) (by omega) w2 _ leads_start o2 x2
  intro d
  induction d with
  | zero =>
    intro k hd hk w' o hL ho x
    obtain rfl : k = xs.length := by omega
    refine graph_leads.L0_step (ifP_no (by omega) ⟨L, rfl, ?_, b1, x⟩)
    rw [← hL.done]
    exact ho
  | succ d ih =>
    intro k hd hk w' o hL ho x
    have hkn : k < xs.length := by omega
    obtain ⟨q, i, hq, hi, h4⟩ := IInsns.at4 (RdM.ext hx x) (i := k) hkn
    have hio : i.ok := hok i (List.mem_of_getElem? hi)
    obtain ⟨_, ⟨t0, t1⟩, ⟨f0, f1⟩, kk0, kk1⟩ := hio
    have ht : Int.toNat ((k : Nat) : Int) = k := Int.toNat_natCast k
    have ew : IntKind.i64.wrap (((k : Nat) : Int) + 1) = ((k + 1 : Nat) : Int) := wrap_i64 (by omega) (by omega)
    have ol := hL.1
    -- the next place
    have next : ∀ (w3 : World) (o' : List Bool), OBools w3 L (xs.length + 1) o' → Go.Rd.Ext w w3 → o'.length = xs.length + 1 → (∀ j, o'[j]? = some true ↔ (o[j]? = some true ∨ j ≤ xs.length ∧ LeadBy i k j)) →
        graph_leads.J1 (fun v w' => ∃ L, v = .slice L (xs.length + 1) (xs.length + 1) ∧ OBools w' L (xs.length + 1) (leadL xs) ∧ (∀ k, blk L k → w.heap.size ≤ k) ∧ Go.Rd.Ext w w') L (xs.length + 1) (xs.length + 1) A xs.length c (xs.length : Int) (k : Int) w3 := by
      intro w3 o' ho' x3 hl' h'
      unfold graph_leads.J1
      rw [ew]
      exact ih (k + 1) (by omega) (by omega) w3 o' (hL.step hi hl' h') ho' x3
    refine graph_leads.L0_step (ifP_yes (by omega) ⟨by omega, by omega, q, hq, ?_⟩)
    rw [ht, ew]
    refine ⟨_, h4.c, _, h4.t, _, h4.f, _, h4.k, istore fun w3 h3 x3 => ⟨_, h3.c0, ifP_beq.2 ⟨fun c5 => ?_, fun c5 => ⟨_, h3.c0, class_spec.mono ?_⟩⟩⟩⟩
    · have h5 : classOf i.c = 5 := by rw [c5]; rfl
      have hg := T.goal hi h5
      rw [if_pos c5] at hg
      have nb : ¬ blk L w'.heap.size := fun h => by have := ho.lt _ h; omega
      refine ⟨fun u => IAt u w'.heap.size i, h3.ext (Go.Rd.Ext.drew w3), letD fun w4 _ x4 => ⟨_, fun u hu => hu.c3, by omega, by omega, put_true (t := k + 1) ((ho.ext x3).ext x4) rfl (by omega) fun w5 o5 k5 => ⟨k5.heap (h3.ext x4) nb, ?_⟩⟩⟩
      rw [wrap_i64 (x := i.k) (by omega) (by omega), wrap_i64 (by omega) (by omega)]
      refine ⟨by omega, by omega, put_true (t := k + 1 + i.k.toNat) o5 (by omega) (by rw [set_length]; omega) fun w6 o6 k6 => ?_⟩
      refine next w6 _ o6 (((x.trans (x3.trans x4)).fresh k5 b1).fresh k6 b1) (by rw [set_length, set_length]; exact ol) fun j => ?_
      rw [set_true (by rw [set_length]; omega), set_true (by omega)]
      unfold LeadBy
      constructor
      · rintro ((h | rfl) | rfl)
        · exact .inl h
        · exact .inr ⟨by omega, .inl ⟨.inl h5, rfl⟩⟩
        · exact .inr ⟨by omega, .inr (.inl ⟨c5, rfl⟩)⟩
      · rintro (h | ⟨_, ⟨_, h⟩ | ⟨_, h⟩ | ⟨_, h, _⟩⟩)
        · exact .inl (.inl h)
        · exact .inl (.inr h)
        · exact .inr h
        · exact absurd c5 h
    rintro v w4 ⟨rfl, rfl⟩
    refine ⟨_, rfl, ifP_beq.2 ⟨fun h5 => ?_, fun h5 => ⟨_, h3.c0, class_spec.mono ?_⟩⟩⟩
    · have hg := T.goal hi h5
      rw [if_neg c5] at hg
      have nb : ¬ blk L w'.heap.size := fun h => by have := ho.lt _ h; omega
      refine ⟨fun u => IAt u w'.heap.size i, h3.ext (Go.Rd.Ext.drew w4), letD fun w5 _ x5 => ⟨_, fun u hu => hu.c1, _, fun u hu => hu.c2, by omega, by omega, put_true (t := k + 1) ((ho.ext x3).ext x5) rfl (by omega) fun w6 o6 k6 => ⟨k6.heap (h3.ext x5) nb, ?_⟩⟩⟩
      rw [wrap_i64 (x := i.t) (by omega) (by omega), wrap_i64 (x := i.f) (by omega) (by omega), wrap_i64 (x := ((k + 1 : Nat) : Int) + i.t) (by omega) (by omega), wrap_i64 (x := ((k + 1 : Nat) : Int) + i.f) (by omega) (by omega)]
      refine ⟨by omega, by omega, put_true (t := k + 1 + i.t.toNat) o6 (by omega) (by rw [set_length]; omega) fun w7 o7 k7 => ⟨k7.heap (k6.heap (h3.ext x5) nb) nb, by omega, by omega, put_true (t := k + 1 + i.f.toNat) o7 (by omega) (by rw [set_length, set_length]; omega) fun w8 o8 k8 => ?_⟩⟩
      refine next w8 _ o8 ((((x.trans (x3.trans x5)).fresh k6 b1).fresh k7 b1).fresh k8 b1) (by rw [set_length, set_length, set_length]; exact ol) fun j => ?_
      rw [set_true (by rw [set_length, set_length]; omega), set_true (by rw [set_length]; omega), set_true (by omega)]
      unfold LeadBy
      constructor
      · rintro (((h | rfl) | rfl) | rfl)
        · exact .inl h
        · exact .inr ⟨by omega, .inl ⟨.inl h5, rfl⟩⟩
        · exact .inr ⟨by omega, .inr (.inr ⟨h5, c5, .inl rfl⟩)⟩
        · exact .inr ⟨by omega, .inr (.inr ⟨h5, c5, .inr rfl⟩)⟩
      · rintro (h | ⟨_, ⟨_, h⟩ | ⟨h, _⟩ | ⟨_, _, h | h⟩⟩)
        · exact .inl (.inl (.inl h))
        · exact .inl (.inl (.inr h))
        · exact absurd h c5
        · exact .inl (.inr h)
        · exact .inr h
    rintro v w5 ⟨rfl, rfl⟩
    refine ⟨_, rfl, ifP_beq.2 ⟨fun h6 => ⟨by omega, by omega, put_true (t := k + 1) (ho.ext x3) rfl (by omega) fun w6 o6 k6 => ?_⟩, fun h6 => ?_⟩⟩
    · refine next w6 _ o6 ((x.trans x3).fresh k6 b1) (by rw [set_length]; exact ol) fun j => ?_
      rw [set_true (by omega)]
      unfold LeadBy
      constructor
      · rintro (h | rfl)
        · exact .inl h
        · exact .inr ⟨by omega, .inl ⟨.inr h6, rfl⟩⟩
      · rintro (h | ⟨_, ⟨_, h⟩ | ⟨h, _⟩ | ⟨h, _⟩⟩)
        · exact .inl h
        · exact .inr h
        · exact absurd h c5
        · exact absurd h h5
    · refine next _ _ (ho.ext x3) (x.trans x3) ol fun j => ?_
      unfold LeadBy
      constructor
      · exact .inl
      · rintro (h | ⟨_, ⟨h, _⟩ | ⟨h, _⟩ | ⟨h, _⟩⟩)
        · exact h
        · exact absurd h (by rintro (h | h); exact h5 h; exact h6 h)
        · exact absurd h c5
        · exact absurd h h5
end
end Go.Proofs.Ytbchjihecdkfeaa

namespace Go.Proofs.Ytbchjihecdkfeaa
open Go.Rd Go.RowKit
set_option linter.unusedVariables false
set_option linter.unusedSimpArgs false
set_option maxRecDepth 100000
def numL (xs : List Ins) : List Int := (List.range xs.length).map (numZ xs)
theorem numL_get {xs : List Ins} {k : Nat} (hk : k < xs.length) : (numL xs)[k]? = some (numZ xs k) := by simp [numL, hk]
theorem numL_length (xs : List Ins) : (numL xs).length = xs.length := by simp [numL]
section
variable {w : World} {A O N : Option Addr} {n c oc nc : Nat} {xs : List Ins} {R : Value → World → Prop}
/-- A block's cells are written. -/
theorem bput {w : World} {b : Nat} {cs : Array Value} {q : BP} {φ : World → Prop} (h : w.heap[b]? = some (.cells cs 49 (0, 0))) (hs : cs.size = 8) (hφ : ∀ w', BAt w' b q → Keep (· = b) w w' → φ w') :
    storeRow ⟨b, 0, none⟩ 0 [.slice q.A q.n q.c, .int .i64 q.b.e, .int .u16 q.b.last.c, .int .u8 q.b.last.t, .int .u8 q.b.last.f, .int .u32 q.b.last.k, .int .i64 q.b.yes, .int .i64 q.b.no] w φ := by
  refine storeRow_block h (by rw [hs]; exact Nat.le_refl 8) rfl fun w' hw hk _ => hφ w' ?_ hk
  unfold BAt
  rw [hw]
  obtain ⟨l⟩ := cs
  have hl : l.length = 8 := hs
  have := setFrom_all l q.v (by rw [hl]; rfl)
  rw [show [Value.slice q.A q.n q.c, .int .i64 q.b.e, .int .u16 q.b.last.c, .int .u8 q.b.last.t, .int .u8 q.b.last.f, .int .u32 q.b.last.k, .int .i64 q.b.yes, .int .i64 q.b.no] = q.v from rfl, this]
def MadeB (w : World) (b : Blk) (v : Value) (w' : World) : Prop := ∃ p : BP, v = p.arg ∧ p.b = b ∧ OInsns w' p.A p.c p.b.code ∧ p.b.code.length = p.n ∧ (∀ k, blk p.A k → w.heap.size ≤ k) ∧ Go.Rd.Ext w w'
theorem gblock_spec (hx : IInsns w A n xs) (hok : Inss xs) (T : Taken xs) (hc : n ≤ c) (hN : Rd (Value.int .i64) w N n (numL xs)) {a : Nat} (ha : a < n) {l : Ins} (hl : xs[endN xs a - 1]? = some l) :
    Run Try.prog 60 #[.slice A n c, .int .i64 a, .int .i64 (endN xs a : Nat), .slice N n nc] w (MadeB w (blockX xs a (endN xs a) l)) := by
  have hlen := hx.len
  have hle := T.le
  subst hlen
  obtain ⟨ea, en⟩ := endN_gt (xs := xs) ha
  generalize he : endN xs a = e at *
  have e1 : IntKind.i64.wrap (((e : Nat) : Int) - 1) = ((e - 1 : Nat) : Int) := by rw [wrap_i64 (by omega) (by omega)]; omega
  have t1 : Int.toNat ((e - 1 : Nat) : Int) = e - 1 := Int.toNat_natCast (e - 1)
  have t0 : Int.toNat ((a : Nat) : Int) = a := Int.toNat_natCast a
  have te : Int.toNat ((e : Nat) : Int) = e := Int.toNat_natCast e
  refine graph_block.ok ?_
  rw [graph_block.vc, e1, t1, t0]
  refine letA fun w1 h1 x1 s1 => ?_
  obtain ⟨q, i, hq, hi, h4⟩ := IInsns.at4 (RdM.ext hx x1) (i := e - 1) (by omega)
  obtain rfl : i = l := by rw [hl] at hi; exact (Option.some.inj hi).symm
  have hio : i.ok := hok i (List.mem_of_getElem? hi)
  obtain ⟨_, ⟨tt0, tt1⟩, ⟨f0, f1⟩, kk0, kk1⟩ := hio
  refine ⟨by omega, by omega, q, hq, _, h4.c, _, h4.t, _, h4.f, _, h4.k, istore fun w2 h2 x2 => letA fun w3 h3 x3 s3 => ⟨by omega, by omega, by omega, ?_⟩⟩
  have x03 := (x1.trans x2).trans x3
  have hB : IInsns w3 (subA A c a 4) (e - 1 - a) ((xs.take (e - 1)).drop a) := by
    have h := (RdM.ext hx x03).take Ins.len (k := e - 1) (by omega)
    exact h.drop Ins.len (by omega) (by omega)
  have hO : Own 47 4 w3 (some (newA w2)) 0 [] := .inr ⟨_, [], rfl, h3, rfl⟩
  have hcl : ((xs.take (e - 1)).drop a).length = e - 1 - a := by rw [List.length_drop, List.length_take]; omega
  obtain ⟨A', c', w4, hr, hO', hc', k4, b4⟩ := append_own slInsns (ty := 39) (n := 0) (d := c - a) hO rfl hB.2 (m := e - 1 - a) (by rw [flat_len Ins.len, hcl]) (Ins.isCell _) (by omega) (by omega)
  refine ⟨_, w4, hr, _, _, _, rfl, ?_⟩
  rw [Nat.zero_add] at *
  rw [List.nil_append] at hO'
  have z1 := x1.size
  have z2 := x2.size
  have z3 := x3.size
  have z4 := k4.size
  have hb1 := heap_lt h1
  have hb2 := heap_lt h2
  have new4 : ∀ k, blk A' k → w2.heap.size ≤ k := fun k hk => by
    rcases b4 k hk with h | h
    · rw [blk_some.1 h]; exact Nat.le_refl _
    · omega
  have k34 : Keep (· = w2.heap.size) w3 w4 := k4.mono fun k _ h => blk_some.1 h
  have x24 : Go.Rd.Ext w2 w4 := x3.fresh k34 fun j hj => by rw [hj]; exact Nat.le_refl _
  have x04 : Go.Rd.Ext w w4 := (x1.trans x2).trans x24
  have h24 : IAt w4 w1.heap.size i := x24.heap h2
  have h14 := x24.heap (x2.heap h1)
  refine ⟨_, h24.c0, uses_spec.mono ?_⟩
  rintro v w5 ⟨rfl, rfl⟩
  refine ⟨_, _, _, rfl, _, h24.c0, istore (i := ⟨i.c, 0, 0, 0⟩) fun w6 h6 x6 => ?_⟩
  -- the block's kinds
  have j0 : ∀ (w7 : World) (y : Nat), IAt w7 w1.heap.size i → IAt w7 y (plainI i) → OInsns w7 A' c' ((xs.take (e - 1)).drop a) → w7.heap[w.heap.size]? = some (.cells #[.slice none 0 0, .int .i64 0, .int .u16 0, .int .u8 0, .int .u8 0, .int .u32 0, .int .i64 0, .int .i64 0] 49 (0, 0)) → Go.Rd.Ext w w7 → w5.heap.size ≤ w7.heap.size →
      graph_block.J0 (MadeB w (blockX xs a e i)) (e : Int) N xs.length nc (newA w) (newA w1) A' (e - 1 - a) c' ⟨y, 0, none⟩ w7 := by
    intro w7 y hl7 hp7 hO7 ht7 x7 z7
    have num : ∀ (u : World), Go.Rd.Ext w u → ∀ {j : Nat} {g : Int}, g = (j : Int) → j < xs.length → (0 ≤ g ∧ g < ((xs.length : Nat) : Int) ∧ ∃ p, N = some p ∧ u.cell? (p.add (Int.toNat g * 1)) = some (.int .i64 (numZ xs j))) := by
      intro u xu j g hg hj
      obtain ⟨p, hp, hcell⟩ := (hN.ext xu).2 j _ (numL_get hj)
      exact ⟨by omega, by omega, p, hp, by rw [hg, Int.toNat_natCast]; exact hcell⟩
    have made : ∀ (w8 w9 : World) (b : Blk), b = blockX xs a e i → b.code = (xs.take (e - 1)).drop a → OInsns w8 A' c' ((xs.take (e - 1)).drop a) → Go.Rd.Ext w w8 → BAt w9 w.heap.size ⟨A', e - 1 - a, c', b⟩ → Keep (· = w.heap.size) w8 w9 → MadeB w (blockX xs a e i) (BP.arg ⟨A', e - 1 - a, c', b⟩) w9 := by
      intro w8 w9 b hb hcode hO8 x8 hB9 k9
      refine ⟨⟨A', e - 1 - a, c', b⟩, rfl, hb, ?_, by rw [hcode]; exact hcl, fun k hk => by have := new4 k hk; omega, x8.fresh k9 fun j hj => by rw [hj]; exact Nat.le_refl _⟩
      show OInsns w9 A' c' b.code
      rw [hcode]
      exact hO8.keep k9 fun k hk h => by have := new4 k hk; omega
    refine ⟨_, hl7.c0, class_spec.mono ?_⟩
    rintro v w8 ⟨rfl, rfl⟩
    refine ⟨_, rfl, ifP_beq.2 ⟨fun h6 => ?_, fun h6 => ⟨_, hl7.c0, ifP_beq.2 ⟨fun c5 => ⟨_, hl7.c3, ?_⟩, fun c5 => ⟨_, hl7.c0, class_spec.mono ?_⟩⟩⟩⟩⟩
    · refine IAt.rd hp7 (bput (q := ⟨A', e - 1 - a, c', ⟨(xs.take (e - 1)).drop a, 1, plainI i, 0, 0⟩⟩) ht7 rfl fun w9 h9 k9 => h9.at8.rd (made _ w9 _ ?_ rfl hO7 x7 h9 k9))
      rw [blockX, if_pos h6]
    · have h5 : classOf i.c = 5 := by rw [c5]; rfl
      have hg := T.goal hi h5
      rw [if_pos c5] at hg
      rw [wrap_i64 (x := i.k) (by omega) (by omega), wrap_i64 (by omega) (by omega)]
      obtain ⟨g0, g1, p, hp, hcell⟩ := num w8 x7 (j := e + i.k.toNat) (g := (e : Int) + i.k) (by omega) (by omega)
      refine ⟨g0, g1, p, hp, _, hcell, bput (q := ⟨A', e - 1 - a, c', ⟨(xs.take (e - 1)).drop a, 2, ins0, numZ xs (e + i.k.toNat), 0⟩⟩) ht7 rfl fun w9 h9 k9 => h9.at8.rd (made _ w9 _ ?_ rfl hO7 x7 h9 k9)⟩
      rw [blockX, if_neg h6, if_pos c5]
    rintro v w9 ⟨rfl, rfl⟩
    refine ⟨_, rfl, ifP_beq.2 ⟨fun h5 => ?_, fun h5 => ?_⟩⟩
    · have hg := T.goal hi h5
      rw [if_neg c5] at hg
      refine ⟨fun u => IAt u w1.heap.size i ∧ IAt u y (plainI i) ∧ Go.Rd.Ext w u, ⟨hl7.ext (Go.Rd.Ext.drew w9), hp7.ext (Go.Rd.Ext.drew w9), x7.trans (Go.Rd.Ext.drew w9)⟩, letD fun w10 _ x10 => IAt.rdS (fun u hu => hu.2.1) ⟨_, fun u hu => hu.1.c1, ?_⟩⟩
      rw [wrap_i64 (x := i.t) (by omega) (by omega), wrap_i64 (x := (e : Int) + i.t) (by omega) (by omega)]
      obtain ⟨g0, g1, p, hp, _⟩ := num w9 x7 (j := e + i.t.toNat) (g := (e : Int) + i.t) (by omega) (by omega)
      refine ⟨g0, g1, p, hp, numZ xs (e + i.t.toNat), fun u hu => ?_, _, fun u hu => hu.1.c2, ?_⟩
      · obtain ⟨_, _, p', hp', hc⟩ := num u hu.2.2 (j := e + i.t.toNat) (g := (e : Int) + i.t) (by omega) (by omega)
        rw [hp] at hp'
        obtain rfl := Option.some.inj hp'
        exact hc
      rw [wrap_i64 (x := i.f) (by omega) (by omega), wrap_i64 (x := (e : Int) + i.f) (by omega) (by omega)]
      obtain ⟨g0, g1, p2, hp2, _⟩ := num w9 x7 (j := e + i.f.toNat) (g := (e : Int) + i.f) (by omega) (by omega)
      refine ⟨g0, g1, p2, hp2, numZ xs (e + i.f.toNat), fun u hu => ?_, ?_⟩
      · obtain ⟨_, _, p', hp', hc⟩ := num u hu.2.2 (j := e + i.f.toNat) (g := (e : Int) + i.f) (by omega) (by omega)
        rw [hp2] at hp'
        obtain rfl := Option.some.inj hp'
        exact hc
      refine bput (q := ⟨A', e - 1 - a, c', ⟨(xs.take (e - 1)).drop a, 3, plainI i, numZ xs (e + i.t.toNat), numZ xs (e + i.f.toNat)⟩⟩) (x10.heap ht7) rfl fun w11 h11 k11 => h11.at8.rd (made _ w11 _ ?_ rfl (hO7.ext x10) (x7.trans x10) h11 k11)
      rw [blockX, if_neg h6, if_neg c5, if_pos h5]
    · have hnx := T.next hi h6
      refine ⟨fun u => IAt u w1.heap.size i ∧ Go.Rd.Ext w u, ⟨hl7.ext (Go.Rd.Ext.drew w9), x7.trans (Go.Rd.Ext.drew w9)⟩, letD fun w10 _ x10 => IAt.rdS (fun u hu => hu.1) ?_⟩
      obtain ⟨g0, g1, p, hp, _⟩ := num w9 x7 (j := e) (g := (e : Int)) rfl (by omega)
      refine ⟨g0, g1, p, hp, numZ xs e, fun u hu => ?_, letA fun w11 h11 x11 s11 => ⟨⟨(hl7.ext x10).ext x11, (x7.trans x10).trans x11⟩, ?_⟩⟩
      · obtain ⟨_, _, p', hp', hc⟩ := num u hu.2 (j := e) (g := (e : Int)) rfl (by omega)
        rw [hp] at hp'
        obtain rfl := Option.some.inj hp'
        exact hc
      have hB2 : RdC w11 (some (newA w10)) ([i].flatMap Ins.v) := by
        have : Own 47 4 w11 (some (newA w10)) 1 ([i].flatMap Ins.v) := .inr ⟨_, [], rfl, h11, rfl⟩
        exact this.cells
      obtain ⟨A2, c2, w12, hr2, hO2, hc2, k12, b12⟩ := append_own slInsns (ty := 39) (n := e - 1 - a) (d := 1) ((hO7.ext x10).ext x11) (by rw [flat_len Ins.len, hcl]) hB2 (m := 1) rfl (Ins.isCell _) (by omega) (by omega)
      have x011 := (x7.trans x10).trans x11
      have z011 := x011.size
      have z711 := (x10.trans x11).size
      have x12 : Go.Rd.Ext w w12 := x011.fresh k12 fun k hk => by have := new4 k hk; omega
      have new12 : ∀ k, blk A2 k → w2.heap.size ≤ k := fun k hk => by
        rcases b12 k hk with h | h
        · exact new4 k h
        · omega
      refine ⟨_, w12, hr2, _, _, _, rfl, ⟨k12.heap ((hl7.ext x10).ext x11) fun h => by have := new4 _ h; omega, x12⟩, ?_⟩
      refine bput (q := ⟨A2, e - 1 - a + 1, c2, ⟨(xs.take (e - 1)).drop a ++ [i], 2, ins0, numZ xs e, 0⟩⟩) (k12.heap (x11.heap (x10.heap ht7)) fun h => by have := new4 _ h; omega) rfl fun w13 h13 k13 => ?_
      unfold graph_block.J1
      refine h13.at8.rd ⟨⟨A2, e - 1 - a + 1, c2, ⟨(xs.take (e - 1)).drop a ++ [i], 2, ins0, numZ xs e, 0⟩⟩, rfl, ?_, ?_, ?_, fun k hk => by have := new12 k hk; omega, x12.fresh k13 fun j hj => by rw [hj]; exact Nat.le_refl _⟩
      · rw [blockX, if_neg h6, if_neg c5, if_neg h5]
      · show OInsns w13 A2 c2 ((xs.take (e - 1)).drop a ++ [i])
        rw [OInsns, List.flatMap_append]
        exact hO2.keep k13 fun k hk h => by have := new12 k hk; omega
      · show ((xs.take (e - 1)).drop a ++ [i]).length = _
        rw [List.length_append, hcl]
        rfl
  refine ifP_of (fun hk => ⟨_, (h24.ext x6).c3, cell_put h6 (show 3 < 4 by decide) (by rw [newA, add_mk]) fun w7 h7 k7 => ?_⟩) fun hk => ?_
  · have hne : ∀ j, j < w5.heap.size → ¬ (j = w5.heap.size) := fun j hj => by omega
    have hp : plainI i = ⟨i.c, 0, 0, i.k⟩ := by rw [plainI, if_pos hk]
    refine j0 w7 w5.heap.size (k7.heap (h24.ext x6) (hne _ (heap_lt h24))) ?_ ((hO'.ext x6).keep k7 fun k hk h => hne k (hO'.lt k hk) h) (k7.heap (x6.heap h14) (hne _ (heap_lt h14))) ((x04.trans x6).fresh k7 fun j hj => by rw [hj]; exact x04.size) (Nat.le_trans x6.size k7.size)
    rw [hp]
    exact h7
  · have hp : plainI i = ⟨i.c, 0, 0, 0⟩ := by rw [plainI, if_neg (by rw [hk]; decide)]
    refine j0 w6 w5.heap.size (h24.ext x6) ?_ (hO'.ext x6) (x6.heap h14) (x04.trans x6) x6.size
    rw [hp]
    exact h6
end
end Go.Proofs.Ytbchjihecdkfeaa

namespace Go.Proofs.Ytbchjihecdkfeaa
open Go.Rd Go.RowKit
set_option linter.unusedVariables false
set_option linter.unusedSimpArgs false
set_option maxRecDepth 100000
def ofR (xs : List Ins) : List Blk × Int := if (checkV xs).2 ≠ 0 then ([], 155) else (ofX xs, 0)
section
variable {w : World} {A : Option Addr} {n c : Nat} {xs : List Ins}
def OfOf (w : World) (r : List Blk × Int) (v : Value) (w' : World) : Prop :=
  ∃ O oc qs, v = .tuple #[.slice O qs.length oc, .int .i64 r.2] ∧ GOk [] [] w' O oc qs ∧ blks qs = r.1 ∧ (∀ k, gff O qs k → w.heap.size ≤ k) ∧ Go.Rd.Ext w w'
theorem headsN_le (xs : List Ins) : ∀ k, headsN xs k ≤ k
  | 0 => Nat.le_refl _
  | k + 1 => by
    have := headsN_le xs k
    rw [headsN]
    split <;> omega
theorem gof_spec (hx : IInsns w A n xs) (hok : Inss xs) (hn : n ≤ 281474976710656) (hc : n ≤ c) : Run Try.prog 21 #[.slice A n c] w (OfOf w (ofR xs)) := by
  have hl := hx.len
  subst hl
  refine graph_Of.ok ((check_spec hx hok hn).mono ?_)
  rintro v w1 ⟨rfl, x1⟩
  refine ⟨_, _, rfl, ifP_bne.2 ⟨fun hne => ?_, fun h0 => (gleads_spec (hx.ext x1) hok (taken_of h0).1).mono ?_⟩⟩
  · refine ⟨none, 0, [], ?_, GOk.nil, ?_, fun k hk => ?_, x1⟩
    · rw [ofR, if_pos hne]; rfl
    · rw [ofR, if_pos hne]; rfl
    · rcases hk with hk | ⟨p, hp, _⟩
      · exact absurd hk blk_none
      · cases hp
  obtain ⟨T, _⟩ := taken_of h0
  have hle := T.le
  have er : ofR xs = (ofX xs, 0) := by rw [ofR, if_neg (not_not_intro h0)]
  rw [er]
  rintro v w2 ⟨L, rfl, oL, bL, x2⟩
  refine ⟨_, _, _, rfl, made_intsN (n := xs.length) (by omega) rfl fun N w3 oN bN x3 => ⟨_, _, _, rfl, ?_⟩⟩
  have x03 := (x1.trans x2).trans x3
  have z1 := x1.size
  have z2 := x2.size
  -- the blocks
  have outer : ∀ (d a cnt : Nat), xs.length - a ≤ d → a ≤ xs.length → cnt ≤ a → ∀ (w' : World) (O : Option Addr) (oc : Nat) (qs : List BP), GOk [] [] w' O oc qs → qs.length = cnt → blks qs ++ ofFrom xs (xs.length - a) a = ofX xs → (∀ k, gff O qs k → w.heap.size ≤ k ∧ ¬ blk L k ∧ ¬ blk N k) → Go.Rd.Ext w w' → OBools w' L (xs.length + 1) (leadL xs) → OInts w' N xs.length (numL xs) →
      graph_Of.L2 (OfOf w (ofX xs, 0)) A xs.length c L (xs.length + 1) (xs.length + 1) N xs.length xs.length O cnt oc a w' := by
    intro d
    induction d with
    | zero =>
      intro a cnt hd ha hcnt w' O oc qs ho hq hb hf x oL' oN'
      obtain rfl : a = xs.length := by omega
      refine graph_Of.L2_step (ifP_no (by omega) ⟨O, oc, qs, by rw [hq], ho, ?_, fun k hk => (hf k hk).1, x⟩)
      rw [ofFrom_end _ _ (Nat.le_refl _), List.append_nil] at hb
      exact hb
    | succ d ih =>
      intro a cnt hd ha hcnt w' O oc qs ho hq hb hf x oL' oN'
      by_cases han : a = xs.length
      · subst han
        refine graph_Of.L2_step (ifP_no (by omega) ⟨O, oc, qs, by rw [hq], ho, ?_, fun k hk => (hf k hk).1, x⟩)
        rw [ofFrom_end _ _ (Nat.le_refl _), List.append_nil] at hb
        exact hb
      have ha : a < xs.length := by omega
      obtain ⟨ea, en⟩ := endN_gt (xs := xs) ha
      obtain ⟨l, hl⟩ : ∃ l, xs[endN xs a - 1]? = some l := ⟨_, List.getElem?_eq_getElem (by omega)⟩
      refine graph_Of.L2_step (ifP_yes (by omega) ?_)
      rw [wrap_i64 (by omega) (by omega)]
      -- the block's end is looked for
      have inner : ∀ (m e : Nat), nextLead xs m e = endN xs a → e + m = xs.length → graph_Of.L4 (OfOf w (ofX xs, 0)) A xs.length c L (xs.length + 1) (xs.length + 1) N xs.length xs.length O cnt oc a (e : Int) w' := by
        have found : graph_Of.J1 (OfOf w (ofX xs, 0)) A xs.length c L (xs.length + 1) (xs.length + 1) N xs.length xs.length O cnt oc a (endN xs a : Nat) false w' := by
          refine ifP_f rfl ((gblock_spec (hx.ext x) hok T hc (oN'.rd (numL_length xs)) ha hl).mono ?_)
          rintro v w4 ⟨p, rfl, hpb, hpo, hpl, hpn, x4⟩
          refine ⟨_, _, _, _, _, _, _, _, _, _, rfl, letA fun w5 h5 x5 s5 => ?_⟩
          obtain ⟨O', oc', w6, hr, g6, k6, b6⟩ := GOk.push (p := p) (ty := 22) (d := 1) (ho.ext (x4.trans x5)) hq (by omega) (by rw [List.append_nil]; exact hpo.ext x5) hpl (fun j hj hj2 => by have := hpn j hj; have := ho.lt hj2; omega) (temp_block h5 rfl)
          have x05 := (x.trans x4).trans x5
          have z05 := (x4.trans x5).size
          have zw := x.size
          refine ⟨_, w6, hr, O', cnt + 1, oc', rfl, ?_⟩
          have fresh : ∀ k, w'.heap.size ≤ k → w.heap.size ≤ k ∧ ¬ blk L k ∧ ¬ blk N k := fun k hk => ⟨by omega, fun h => by have := oL'.lt k h; omega, fun h => by have := oN'.lt k h; omega⟩
          refine ih (endN xs a) (cnt + 1) (by omega) en (by omega) w6 O' oc' (qs ++ [p]) g6 (by rw [List.length_append, hq]; rfl) ?_ (fun k hk => ?_) (x05.fresh k6 fun j hj => (hf j (.inl hj)).1) ?_ ?_
          · rw [blks, List.map_append]
            show blks qs ++ [p.b] ++ _ = _
            rw [← hb, ofFrom_at ha (Nat.le_refl _) hl, List.append_assoc, hpb, ofFrom_fuel (xs.length - endN xs a) (xs.length - a - 1) (endN xs a) (by omega) (by omega)]
            rfl
          · rcases gff_append.1 hk with (h | h) | h
            · rcases b6 k h with h | h
              · exact hf k (.inl h)
              · exact fresh k (by omega)
            · exact hf k (.inr h)
            · exact fresh k (hpn k h)
          · exact (oL'.ext (x4.trans x5)).keep k6 fun j hj h => (hf j (.inl h)).2.1 hj
          · exact (oN'.ext (x4.trans x5)).keep k6 fun j hj h => (hf j (.inl h)).2.2 hj
        intro m
        induction m with
        | zero =>
          intro e he hm
          rw [nextLead] at he
          obtain ⟨p, hp, hcell⟩ := (oL'.rd (leadL_length xs)).2 e _ (leadL_get (by omega))
          refine graph_Of.L4_step ⟨by omega, by omega, p, hp, _, by rw [Int.toNat_natCast]; exact hcell, ?_⟩
          subst he
          refine ifP_not.2 (ifP_of (fun h => found) fun h => ?_)
          rw [decide_eq_false (by omega)]
          exact found
        | succ m ihm =>
          intro e he hm
          rw [nextLead] at he
          obtain ⟨p, hp, hcell⟩ := (oL'.rd (leadL_length xs)).2 e _ (leadL_get (by omega))
          refine graph_Of.L4_step ⟨by omega, by omega, p, hp, _, by rw [Int.toNat_natCast]; exact hcell, ?_⟩
          refine ifP_not.2 (ifP_of (fun h => ?_) fun h => ?_)
          · rw [if_pos h] at he
            subst he
            exact found
          · rw [if_neg (by rw [h]; decide)] at he
            refine ifP_yes (by omega) ?_
            rw [wrap_i64 (by omega) (by omega)]
            exact ihm (e + 1) he (by omega)
      exact inner (xs.length - (a + 1)) (a + 1) rfl (by omega)
  -- the numbers
  suffices H : ∀ (d k : Nat), xs.length - k = d → k ≤ xs.length → ∀ (w' : World) (ns : List Int) (m : Int), ns.length = xs.length → (∀ j, j < k → ns[j]? = some (numZ xs j)) → m = (headsN xs k : Int) - 1 → OInts w' N xs.length ns → OBools w' L (xs.length + 1) (leadL xs) → Go.Rd.Ext w w' →
      graph_Of.L0 (OfOf w (ofX xs, 0)) A xs.length c L (xs.length + 1) (xs.length + 1) N xs.length xs.length m (xs.length : Int) (k : Int) w' by
    exact H xs.length 0 (by omega) (by omega) w3 _ (-1) (by simp) (fun j hj => absurd hj (Nat.not_lt_zero j)) rfl oN (oL.ext x3) x03
  intro d
  induction d with
  | zero =>
    intro k hd hk w' ns m hns hj hm oN' oL' x
    obtain rfl : k = xs.length := by omega
    have en : ns = numL xs := by
      refine List.ext_getElem? fun j => ?_
      by_cases hjl : j < xs.length
      · rw [hj j hjl, numL_get hjl]
      · rw [List.getElem?_eq_none (by omega), List.getElem?_eq_none (by rw [numL_length]; omega)]
    rw [en] at oN'
    refine graph_Of.L0_step (ifP_no (by omega) ?_)
    exact outer xs.length 0 0 (by omega) (by omega) (Nat.le_refl _) w' none 0 [] GOk.nil rfl rfl (fun k hk => by rcases hk with hk | ⟨p, hp, _⟩; exact absurd hk blk_none; cases hp) x oL' oN'
  | succ d ih =>
    intro k hd hk w' ns m hns hj hm oN' oL' x
    have hkn : k < xs.length := by omega
    obtain ⟨p, hp, hcell⟩ := (oL'.rd (leadL_length xs)).2 k _ (leadL_get (by omega))
    have hhl := headsN_le xs k
    have sep : ∀ j, blk L j → ¬ blk N j := fun j h1 h2 => by
      obtain ⟨us, e1⟩ := own_typ oL' h1
      obtain ⟨vs, e2⟩ := own_typ oN' h2
      have := typ_ne e1 e2
      revert this
      decide
    have go : ∀ (m' : Int), m' = (headsN xs (k + 1) : Int) - 1 → graph_Of.J0 (OfOf w (ofX xs, 0)) A xs.length c L (xs.length + 1) (xs.length + 1) N xs.length xs.length m' (k : Int) (xs.length : Int) (k : Int) w' := by
      intro m' hm'
      refine ⟨by omega, by omega, put_int (t := k) oN' rfl (by omega) fun w4 o4 k4 => ?_⟩
      rw [wrap_i64 (by omega) (by omega)]
      refine ih (k + 1) (by omega) (by omega) w4 _ m' (by rw [List.length_set]; exact hns) (fun j hjk => ?_) hm' o4 (oL'.keep k4 sep) (x.fresh k4 fun j hj => by have := bN j hj; omega)
      rw [List.getElem?_set]
      split
      · rename_i e
        subst e
        rw [if_pos (by omega), hm']
        rfl
      · exact hj j (by omega)
    refine graph_Of.L0_step (ifP_yes (by omega) ⟨by omega, by omega, p, hp, _, by rw [Int.toNat_natCast]; exact hcell, ifP_of (fun h => ?_) fun h => ?_⟩)
    · rw [wrap_i64 (by omega) (by omega)]
      refine go _ ?_
      rw [headsN, if_pos h, hm]
      omega
    · refine go _ ?_
      rw [headsN, if_neg (by rw [h]; decide), hm]
      omega
end
theorem ofFrom_mem {xs : List Ins} {b : Blk} : ∀ (m a : Nat), b ∈ ofFrom xs m a → ∃ a' l, a' < xs.length ∧ xs[endN xs a' - 1]? = some l ∧ b = blockX xs a' (endN xs a') l
  | 0, a, h => by cases h
  | m + 1, a, h => by
    rw [ofFrom] at h
    split at h
    · cases h
    · rename_i l hl
      split at h
      · rename_i ha
        rcases List.mem_cons.1 h with h | h
        · exact ⟨a, l, ha, hl, h⟩
        · exact ofFrom_mem m _ h
      · cases h
theorem ofFrom_length {xs : List Ins} : ∀ (m a : Nat), (ofFrom xs m a).length ≤ m
  | 0, a => Nat.le_refl _
  | m + 1, a => by
    rw [ofFrom]
    split
    · exact Nat.zero_le _
    · split
      · rw [List.length_cons]
        have := ofFrom_length (xs := xs) m (endN xs a)
        omega
      · exact Nat.zero_le _
theorem blockX_code {xs : List Ins} {a e : Nat} {l : Ins} : (blockX xs a e l).code = (xs.take (e - 1)).drop a ∨ (classOf l.c ≠ 5 ∧ classOf l.c ≠ 6) ∧ (blockX xs a e l).code = (xs.take (e - 1)).drop a ++ [l] := by
  unfold blockX
  split
  · exact .inl rfl
  · rename_i h6
    split
    · exact .inl rfl
    · split
      · exact .inl rfl
      · rename_i h5
        exact .inr ⟨⟨h5, h6⟩, rfl⟩
theorem blockX_mem {xs : List Ins} {a e : Nat} {l i : Ins} (hl : xs[e - 1]? = some l) (h : i ∈ (blockX xs a e l).code) : i ∈ xs := by
  have sub : ∀ j ∈ (xs.take (e - 1)).drop a, j ∈ xs := fun j hj => List.mem_of_mem_take (List.mem_of_mem_drop hj)
  rcases blockX_code (xs := xs) (a := a) (e := e) (l := l) with hc | ⟨_, hc⟩
  · rw [hc] at h
    exact sub i h
  · rw [hc] at h
    rcases List.mem_append.1 h with h | h
    · exact sub i h
    · obtain rfl : i = l := by simpa using h
      exact List.mem_of_getElem? hl
theorem blockX_length {xs : List Ins} {a e : Nat} {l : Ins} (ha : a < e) (he : e ≤ xs.length) : (blockX xs a e l).code.length ≤ xs.length := by
  have h1 : ((xs.take (e - 1)).drop a).length = e - 1 - a := by rw [List.length_drop, List.length_take]; omega
  rcases blockX_code (xs := xs) (a := a) (e := e) (l := l) with hc | ⟨_, hc⟩
  · rw [hc, h1]; omega
  · rw [hc, List.length_append, h1]
    show e - 1 - a + 1 ≤ _
    omega
theorem ofR_small {xs : List Ins} : (ofR xs).1.length ≤ 4096 ∧ ∀ b ∈ (ofR xs).1, b.code.length ≤ 4096 ∧ ∀ i ∈ b.code, i ∈ xs := by
  unfold ofR
  split
  · exact ⟨Nat.zero_le _, fun b hb => (by cases hb)⟩
  · rename_i h
    have T := (taken_of (Classical.not_not.1 h)).1.le
    refine ⟨Nat.le_trans (ofFrom_length _ _) T, fun b hb => ?_⟩
    obtain ⟨a, l, ha, hl, rfl⟩ := ofFrom_mem _ _ hb
    obtain ⟨e1, e2⟩ := endN_gt ha
    exact ⟨Nat.le_trans (blockX_length e1 e2) T, fun i hi => blockX_mem hl hi⟩
end Go.Proofs.Ytbchjihecdkfeaa
