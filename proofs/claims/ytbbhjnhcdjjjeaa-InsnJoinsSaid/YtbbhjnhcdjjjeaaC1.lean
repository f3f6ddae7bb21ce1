/- The statements over Encode and Decode. -/
import Derived.Test.YtbbhjnhcdjjjeaaIEncode
import Derived.Test.YtbbhjnhcdjjjeaaREncode
import Derived.Test.YtbbhjnhcdjjjeaaIDecode
import Derived.Test.YtbbhjnhcdjjjeaaRDecode
import Derived.Test.YtbbhjnhcdjjjeaaIUses
import Derived.Test.YtbbhjnhcdjjjeaaRUses
namespace Go.Proofs.Ytbbhjnhcdjjjeaa
open Go.Rd Go.RowKit
set_option linter.unusedVariables false
set_option linter.unusedSimpArgs false

def Good (W : World) (v : Value) (w' : World) : Prop := v = .bool true ∧ Fr W w'

/-- Bytes and an error, in new memory. -/
def ResB (w w' : World) (v : Value) (e : Int) (xs : List Int) : Prop :=
  ∃ A m c, v = .tuple #[.slice A m c, .int .i64 e] ∧ OBytes w' A c xs ∧ xs.length = m ∧ (∀ k, blk A k → w.heap.size ≤ k) ∧ Ext w w'
def encE (n : Nat) : Int := if 4096 < n then 21 else 0
def encX (n : Nat) (ps : List Ins) : List Int := if 4096 < n then [] else ps.flatMap encI
theorem EncOf.res {w w' : World} {n : Nat} {ps : List Ins} {v : Value} (hn : ps.length = n) (h : EncOf w n ps v w') : ResB w w' v (encE n) (encX n ps) := by
  unfold EncOf at h
  unfold encE encX
  split at h
  · rename_i hm
    obtain ⟨rfl, rfl⟩ := h
    rw [if_pos hm, if_pos hm]
    exact ⟨_, _, _, rfl, Own.empty, rfl, fun k hk => (blk_none hk).elim, Ext.refl _⟩
  · rename_i hm
    obtain ⟨A, c, rfl, o, b, x⟩ := h
    rw [if_neg hm, if_neg hm]
    exact ⟨A, _, c, rfl, o, by rw [encL_length, hn], b, x⟩

/-- Instructions and an error, in new memory. -/
def ResI (w w' : World) (v : Value) (e : Int) (xs : List Ins) : Prop :=
  ∃ A m c, v = .tuple #[.slice A m c, .int .i64 e] ∧ OInsns w' A c xs ∧ xs.length = m ∧ (∀ k, blk A k → w.heap.size ≤ k) ∧ Ext w w'
def decE (n : Nat) : Int := if n % 8 ≠ 0 then 20 else if 32768 < n then 21 else 0
def decX (n : Nat) (xs : List Int) : List Ins := if n % 8 ≠ 0 then [] else if 32768 < n then [] else decL xs (n / 8)
theorem DecOf.res {w w' : World} {n : Nat} {xs : List Int} {v : Value} (h : DecOf w n xs v w') : ResI w w' v (decE n) (decX n xs) := by
  unfold DecOf at h
  unfold decE decX
  split at h
  · rename_i hm
    obtain ⟨rfl, rfl⟩ := h
    rw [if_pos hm, if_pos hm]
    exact ⟨_, _, _, rfl, Own.empty, rfl, fun k hk => (blk_none hk).elim, Ext.refl _⟩
  · rename_i hm
    rw [if_neg hm, if_neg hm]
    split at h
    · rename_i h2
      obtain ⟨rfl, rfl⟩ := h
      rw [if_pos h2, if_pos h2]
      exact ⟨_, _, _, rfl, Own.empty, rfl, fun k hk => (blk_none hk).elim, Ext.refl _⟩
    · rename_i h2
      obtain ⟨A, c, rfl, o, b, x⟩ := h
      rw [if_neg h2, if_neg h2]
      exact ⟨A, _, c, rfl, o, decL_length .., b, x⟩

theorem lit_bytes {w w1 : World} {xs : List Int} {cs : Array Value} (h : w1.heap[w.heap.size]? = some (.cells cs 5 (0, 0))) (hx : cs = (xs.map (Value.int .u8)).toArray) : OBytes w1 (some (newA w)) xs.length xs :=
  .inr ⟨_, [], rfl, by rw [List.append_nil, ← hx]; exact h, by simp⟩

theorem awake_spec {w : World} : Run Try.prog 15 #[] w fun v w' => v = .bool true ∧ Ext w w' := by
  refine law2_awake.ok (letA fun w1 h1 x1 s1 => ?_)
  have i1 : IInsns w1 (some (newA w)) 1 [⟨21, 1, 2, 2048⟩] := by
    have : OInsns w1 (some (newA w)) 1 [⟨21, 1, 2, 2048⟩] := .inr ⟨_, [], rfl, h1, rfl⟩
    exact this.rdM rfl
  refine (encode_spec i1 (by simp [Ins.ok]) (by omega)).mono ?_
  intro v w2 h2
  obtain ⟨A2, n2, c2, rfl, o2, l2, b2, x2⟩ := EncOf.res (n := 1) rfl h2
  have e2 : encX 1 [⟨21, 1, 2, 2048⟩] = [0, 21, 1, 2, 0, 0, 8, 0] := by decide
  rw [e2] at o2 l2
  refine ⟨_, _, _, _, rfl, letA fun w3 h3 x3 s3 => ?_⟩
  have i3 : IBytes w3 (some (newA w2)) 8 [0, 6, 0, 0, 0, 0, 0, 5] := (lit_bytes h3 rfl).rd rfl
  refine (decode_spec i3 (by omega) (by omega)).mono ?_
  intro v w4 h4
  obtain ⟨A4, n4, c4, rfl, o4, l4, b4, x4⟩ := h4.res
  have e4 : decX 8 [0, 6, 0, 0, 0, 0, 0, 5] = [⟨6, 0, 0, 5⟩] := by decide
  rw [e4] at o4 l4
  subst l4
  refine ⟨_, _, _, _, rfl, ifP_eq (by decide) (letA fun w5 h5 x5 s5 => ?_)⟩
  have i5 : IBytes w5 (some (newA w4)) 8 [0, 21, 1, 2, 0, 0, 8, 0] := (lit_bytes h5 rfl).rd rfl
  refine (sameBytes_spec ((((o2.ext x3).ext x4).ext x5).rd l2) i5 (by rw [← l2]; decide)).mono ?_
  rintro v w6 ⟨rfl, x6⟩
  obtain ⟨a, p, rfl, gp, ca⟩ := (((o4.ext x5).ext x6).rdM rfl).at Ins.len (by omega) (i := 0) (by decide)
  obtain rfl : _ = p := by simpa using gp
  refine ⟨_, rfl, ifP_t (by decide) (ifP_eq (by decide) (ifP_eq (by decide) ⟨by omega, by decide, a, rfl, _, ca 0 _ rfl, _, ca 1 _ rfl, _, ca 2 _ rfl, _, ca 3 _ rfl, _, _, insn_eql, _, rfl, ifP_t (by decide) (known_spec.mono ?_)⟩))⟩
  rintro v w7 ⟨rfl, rfl⟩
  refine ⟨_, rfl, ifP_t (by decide) (class_spec.mono ?_)⟩
  rintro v w8 ⟨rfl, rfl⟩
  refine ⟨_, rfl, ?_⟩
  have e : (classOf 7 == 7) = true := by decide
  rw [e]
  exact ⟨rfl, ((((x1.trans x2).trans x3).trans x4).trans x5).trans x6⟩

/-! ## InsnEncodes -/

theorem InsnEncodes_main {W : World} {A : Option Addr} {n c : Nat} {ps : List Ins} (h : IInsns W A n ps) (hok : ∀ p ∈ ps, p.ok) (hn : n * 8 ≤ 140737488351232) :
    Run Try.prog 3 #[.slice A n c] W (Good W) := by
  have hl := h.len
  have small : ∀ xs, xs = encX n ps → xs.length ≤ 32768 := by
    rintro _ rfl
    unfold encX
    split
    · simp
    · rw [encL_length, hl]; omega
  refine law2_InsnEncodes.ok ((rencode_spec h hok (by omega)).mono ?_)
  intro v w1 r1
  obtain ⟨A1, n1, c1, rfl, o1, l1, b1, x1⟩ := r1.res hl
  have f1 := (Fr.refl W).ext x1
  refine ⟨_, _, _, _, rfl, (lendInsns_spec (h.fr f1) (by omega)).mono ?_⟩
  rintro v w2 ⟨A2, c2, rfl, o2, b2, x2⟩
  have f2 := f1.ext x2
  have i2 : IInsns w2 A2 n ps := by
    have := (o2.rdM (n := n + 3) (by simp [hl])).take Ins.len (k := n) (by omega)
    rwa [List.take_left' hl] at this
  refine ⟨_, _, _, rfl, (encode_spec i2 hok (by omega)).mono ?_⟩
  intro v w3 r3
  obtain ⟨A3, n3, c3, rfl, o3, l3, b3, x3⟩ := r3.res hl
  have f3 := f2.ext x3
  refine ⟨_, _, _, _, rfl, (keptInsns_spec (o2.ext x3) (h.fr f3) (by omega)).mono ?_⟩
  rintro v w4 ⟨rfl, k4⟩
  have f4 := f3.blk k4 fun k hk => by have := b2 k hk; have := f1.size; omega
  have L1 := o1.lt
  have L2 := o2.lt
  have L3 := o3.lt
  have o1 := ((o1.ext x2).ext x3).keep k4 fun k hk hk2 => by have := L1 k hk; have := b2 k hk2; omega
  have o3 := o3.keep k4 fun k hk hk2 => by have := b3 k hk; have := L2 k hk2; omega
  refine ⟨_, rfl, ifP_f rfl ((copyInsns_spec (h.fr f4) (by omega)).mono ?_)⟩
  rintro v w5 ⟨A5, c5, rfl, o5, l5, b5, x5⟩
  have f5 := f4.ext x5
  refine ⟨_, _, _, rfl, (encode_spec (o5.rdM l5) hok (by omega)).mono ?_⟩
  intro v w6 r6
  obtain ⟨A6, n6, c6, rfl, o6, l6, b6, x6⟩ := r6.res hl
  have f6 := f5.ext x6
  have o1 := (o1.ext x5).ext x6
  have o3 := (o3.ext x5).ext x6
  have m1 := small _ rfl
  refine ⟨_, _, _, _, rfl, ifP_f (by simp) (ifP_f (by simp) ((sameBytes_spec (o3.rd l3) (o1.rd l1) (by omega)).mono ?_))⟩
  rintro v w7 ⟨rfl, x7⟩
  have f7 := f6.ext x7
  refine ⟨_, rfl, ifP_f (by simp) ((spoilBytes_spec (o3.ext x7) (by rw [List.length_map, l3]) (by omega)).mono ?_)⟩
  rintro v w8 ⟨rfl, k8⟩
  have s4 : w3.heap.size ≤ w4.heap.size := k4.size
  have s5 := x5.size
  have s2 := x2.size
  have f8 := f7.blk k8 fun k hk => by have := b3 k hk; have := f2.size; omega
  have o6 := (o6.ext x7).keep k8 fun k hk hk2 => by have := b6 k hk; have := L3 k hk2; omega
  have o1 := (o1.ext x7).keep k8 fun k hk hk2 => by have := L1 k hk; have := b3 k hk2; omega
  refine ⟨rfl, (sameBytes_spec (o6.rd l6) (o1.rd l1) (by omega)).mono ?_⟩
  rintro v w9 ⟨rfl, x9⟩
  refine ⟨_, rfl, ifP_t (by simp) (awake_spec.mono ?_)⟩
  rintro v w10 ⟨rfl, x10⟩
  exact ⟨_, rfl, rfl, (f8.ext x9).ext x10⟩

/-! ## InsnDecodes -/

theorem InsnDecodes_main {W : World} {A : Option Addr} {n c : Nat} {xs : List Int} (h : IBytes W A n xs) (hc : n ≤ c) (hn : n ≤ 140737488351232) :
    Run Try.prog 4 #[.slice A n c] W (Good W) := by
  have hl := h.len
  have small : ∀ ps, ps = decX n xs → ps.length ≤ 4096 := by
    rintro _ rfl
    unfold decX
    split
    · simp
    · split
      · simp
      · rw [decL_length]; omega
  refine law2_InsnDecodes.ok ((rdecode_spec h hc (by omega)).mono ?_)
  intro v w1 r1
  obtain ⟨A1, n1, c1, rfl, o1, l1, b1, x1⟩ := r1.res
  have f1 := (Fr.refl W).ext x1
  refine ⟨_, _, _, _, rfl, (lendBytes_spec (h.fr f1) (by omega)).mono ?_⟩
  rintro v w2 ⟨A2, c2, rfl, o2, b2, x2⟩
  have f2 := f1.ext x2
  have i2 : IBytes w2 A2 n xs := by
    have := (o2.cells).take n
    rw [← List.map_take, List.take_left' hl] at this
    exact this.rd hl
  have hc2 : n ≤ c2 := by have := o2.len (n := n + 3) (by omega) (by simp [hl]); omega
  refine ⟨_, _, _, rfl, (decode_spec i2 hc2 (by omega)).mono ?_⟩
  intro v w3 r3
  obtain ⟨A3, n3, c3, rfl, o3, l3, b3, x3⟩ := r3.res
  have f3 := f2.ext x3
  refine ⟨_, _, _, _, rfl, (keptBytes_spec (o2.ext x3) (h.fr f3) (by omega)).mono ?_⟩
  rintro v w4 ⟨rfl, k4⟩
  have f4 := f3.blk k4 fun k hk => by have := b2 k hk; have := f1.size; omega
  have L1 := o1.lt
  have L2 := o2.lt
  have L3 := o3.lt
  have o1 := ((o1.ext x2).ext x3).keep k4 fun k hk hk2 => by have := L1 k hk; have := b2 k hk2; omega
  have o3 := o3.keep k4 fun k hk hk2 => by have := b3 k hk; have := L2 k hk2; omega
  refine ⟨_, rfl, ifP_f rfl ((copyBytes_spec (h.fr f4) (by omega)).mono ?_)⟩
  rintro v w5 ⟨A5, c5, rfl, o5, l5, b5, x5⟩
  have f5 := f4.ext x5
  refine ⟨_, _, _, rfl, (decode_spec (o5.rd l5) (o5.len (by omega) (by simp [l5])) (by omega)).mono ?_⟩
  intro v w6 r6
  obtain ⟨A6, n6, c6, rfl, o6, l6, b6, x6⟩ := r6.res
  have f6 := f5.ext x6
  have o1 := (o1.ext x5).ext x6
  have o3 := (o3.ext x5).ext x6
  have m1 := small _ rfl
  refine ⟨_, _, _, _, rfl, ifP_f (by simp) (ifP_f (by simp) ((sameInsns_spec (o3.rdM l3) (o1.rdM l1) (by omega)).mono ?_))⟩
  rintro v w7 ⟨rfl, x7⟩
  have f7 := f6.ext x7
  refine ⟨_, rfl, ifP_f (by simp) ((spoilInsns_spec (o3.ext x7) (by rw [flat_len Ins.len, l3]) (by omega)).mono ?_)⟩
  rintro v w8 ⟨rfl, k8⟩
  have s4 : w3.heap.size ≤ w4.heap.size := k4.size
  have s5 := x5.size
  have s2 := x2.size
  have f8 := f7.blk k8 fun k hk => by have := b3 k hk; have := f2.size; omega
  have o6 := (o6.ext x7).keep k8 fun k hk hk2 => by have := b6 k hk; have := L3 k hk2; omega
  have o1 := (o1.ext x7).keep k8 fun k hk hk2 => by have := L1 k hk; have := b3 k hk2; omega
  refine ⟨rfl, (sameInsns_spec (o6.rdM l6) (o1.rdM l1) (by omega)).mono ?_⟩
  rintro v w9 ⟨rfl, x9⟩
  refine ⟨_, rfl, ifP_t (by simp) (awake_spec.mono ?_)⟩
  rintro v w10 ⟨rfl, x10⟩
  exact ⟨_, rfl, rfl, (f8.ext x9).ext x10⟩
end Go.Proofs.Ytbbhjnhcdjjjeaa
