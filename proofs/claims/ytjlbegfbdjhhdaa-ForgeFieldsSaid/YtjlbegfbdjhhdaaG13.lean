/- The document's forge: what is carried. -/
import Derived.Test.YtjlbegfbdjhhdaaG9
namespace Go.Proofs.Ytjlbegfbdjhhdaa
open Go.Rd Go.RowKit
set_option linter.unusedVariables false
set_option linter.unusedSimpArgs false

/-- Bytes that grow, in memory of their own. -/
structure Ob (W w : World) (A : Option Addr) (n c : Nat) (ys : List Int) : Prop where
  own : OBytes w A c ys
  len : ys.length = n
  new : ∀ k, blk A k → W.heap.size ≤ k
  x : Ext W w
section
variable {W w w' : World} {A B : Option Addr} {n c m d : Nat} {ys zs : List Int} {k : Lnk} {s : Sp} {bs bl : Nat}
theorem Ob.nil (x : Ext W w) : Ob W w none 0 0 [] := ⟨.inl ⟨rfl, rfl, rfl⟩, rfl, fun k hk => absurd hk blk_none, x⟩
theorem Ob.ext (h : Ob W w A n c ys) (x : Ext w w') : Ob W w' A n c ys := ⟨h.own.ext x, h.len, h.new, h.x.trans x⟩
theorem Ob.of {v : Value} (h : NewBytes w w' v n ys) (x : Ext W w) : ∃ A c, v = .slice A n c ∧ Ob W w' A n c ys := by
  obtain ⟨A, c, rfl, o, l, b, x1⟩ := h
  exact ⟨A, c, rfl, o, l, fun k hk => by have := b k hk; have := x.size; omega, x.trans x1⟩
theorem Ob.app (h : Ob W w A n c ys) (hB : IBytes w B m zs) (hlim : n + m ≤ 140737488355328) {ty : Nat} : ∃ A' c' w', (Builtin.append_ #[26, 26] ty #[.slice A n c, .slice B m d]).run Try.prog w = .ok (.slice A' (n + m) c') w' ∧ Ob W w' A' (n + m) c' (ys ++ zs) ∧ Keep (blk A) w w' := by
  obtain ⟨A', c', w', hr, o, hc, k, hb⟩ := append_own slBytes (ty := ty) (n := n) (d := d) h.own (by rw [List.length_map, h.len]; omega) hB.cells (m := m) (by rw [List.length_map, hB.len]; omega) (cellsBytes _) (by omega) (by omega)
  refine ⟨A', c', w', hr, ⟨by rw [OBytes, List.map_append]; exact o, by rw [List.length_append, h.len, hB.len], fun i hi => ?_, h.x.fresh k h.new⟩, k⟩
  rcases hb i hi with h2 | h2
  · exact h.new i h2
  · have := h.x.size; omega
/-- A block of another kind stays. -/
theorem Ob.stay (h : Ob W w A n c ys) (kp : Keep (blk A) w w') {b : Nat} {vs : Array Value} {t : TypeId} (hb : w.heap[b]? = some (.cells vs t (0, 0))) (ht : t ≠ 5) : w'.heap[b]? = some (.cells vs t (0, 0)) :=
  kp.heap hb fun hk => by
    obtain ⟨us, h1⟩ := Own.typ h.own hk
    rw [h1] at hb
    injection hb with hb
    injection hb with _ hb
    exact ht hb.symm
theorem Ob.base {V : World} (h : Ob w w' A n c ys) (x : Ext V w) : Ob V w' A n c ys := ⟨h.own, h.len, fun k hk => by have := h.new k hk; have := x.size; omega, x.trans h.x⟩
theorem Ob.rd (h : Ob W w A n c ys) : IBytes w A n ys := h.own.rd h.len

abbrev Cr (W : World) (ys : List Int) : Value → World → Prop := fun v w' => ∃ A n c, v = .slice A n c ∧ Ob W w' A n c ys
theorem carried_two {xs : List Int} {t : Bool} (h : Ob W w A n c (loadB s xs)) (hs : SAt w bs s) (hn : n ≤ 140737488351300) (ht : t = !saidB s) : ref8_carried.J2 (Cr W (ipHB s xs ++ loadB s xs)) ⟨bs, 0, none⟩ A n c t w := by
  have hln := h.len
  refine ifP_of (fun h1 => ?_) fun h1 => ⟨_, hs.at_ 6 rfl, ifP_beq.2 ⟨fun h33 => ?_, fun h33 => ⟨_, hs.at_ 6 rfl, ifP_beq.2 ⟨fun h87 => ?_, fun h87 => ?_⟩⟩⟩⟩
  · have e0 : ipHB s xs = [] := if_neg (by rw [ht] at h1; simp [ipB] at h1 ⊢; simp [h1])
    rw [e0]
    exact ⟨A, n, c, rfl, h⟩
  · have hsd : saidB s = true := by rw [ht] at h1; simpa using h1
    have e0 : ipHB s xs = hdrB s n := by rw [ipHB, if_pos (by simp [ipB, hsd, h33]), hln]
    rw [e0, hdrB, if_pos h33]
    refine letA fun w1 hw1 x1 s1 => rbytes_spec (by omega) |>.mono ?_
    rintro v w2 hv
    have o1 : Ob w w1 (some (newA w)) 2 2 [69, 0] := ⟨.inr ⟨_, [], rfl, hw1, rfl⟩, rfl, fun k hk => by rw [blk_some.1 hk]; exact Nat.le_refl _, x1⟩
    obtain ⟨B2, c2, rfl, o2⟩ := Ob.of hv x1
    have x2 : Ext w1 w2 := by obtain ⟨_, _, _, _, _, _, x⟩ := hv; exact x
    obtain ⟨A3, c3, w3, hr3, o3, k3⟩ := (o1.ext x2).app (ty := 26) (d := c2) o2.rd (by decide)
    refine ⟨_, _, _, rfl, _, w3, hr3, _, _, _, rfl, _, (hs.ext o3.x).at_ 7 rfl, letA fun w4 hw4 x4 s4 => ?_⟩
    have l4 : IBytes w4 (some (newA w3)) 8 [0, 0, 0, 0, 64, IntKind.u8.wrap s.nx, 0, 0] := lit_rd (f := Value.int .u8) hw4 rfl
    obtain ⟨A5, c5, w5, hr5, o5, k5⟩ := (o3.ext x4).app (ty := 26) (d := 8) l4 (by decide)
    refine ⟨_, w5, hr5, _, _, _, rfl, by decide, by decide, by decide, ?_⟩
    obtain ⟨A6, c6, w6, hr6, o6, k6⟩ := o5.app (ty := 26) (d := 16) (srcBytes (n := 4) (hs.ext o5.x) (by decide)) (by decide)
    refine ⟨_, w6, hr6, _, _, _, rfl, by decide, by decide, by decide, ?_⟩
    obtain ⟨A7, c7, w7, hr7, o7, k7⟩ := o6.app (ty := 26) (d := 16) (dstBytes (n := 4) (hs.ext o6.x) (by decide)) (by decide)
    refine ⟨_, w7, hr7, _, _, _, rfl, ?_⟩
    obtain ⟨A8, c8, w8, hr8, o8, k8⟩ := o7.app (ty := 26) (d := c) (h.rd.ext o7.x) (by show 2 + 2 + 8 + 4 + 4 + n ≤ _; omega)
    refine ⟨_, w8, hr8, _, _, _, rfl, _, _, _, rfl, ?_⟩
    have := o8.base h.x
    simpa only [List.append_assoc] using this
  · have hsd : saidB s = true := by rw [ht] at h1; simpa using h1
    have e0 : ipHB s xs = hdrB s n := by rw [ipHB, if_pos (by simp [ipB, hsd, h87]), hln]
    rw [e0, hdrB, if_neg h33]
    refine letA fun w1 hw1 x1 s1 => rbytes_spec (by omega) |>.mono ?_
    rintro v w2 hv
    have o1 : Ob w w1 (some (newA w)) 4 4 [96, 0, 0, 0] := ⟨.inr ⟨_, [], rfl, hw1, rfl⟩, rfl, fun k hk => by rw [blk_some.1 hk]; exact Nat.le_refl _, x1⟩
    obtain ⟨B2, c2, rfl, o2⟩ := Ob.of hv x1
    have x2 : Ext w1 w2 := by obtain ⟨_, _, _, _, _, _, x⟩ := hv; exact x
    obtain ⟨A3, c3, w3, hr3, o3, k3⟩ := (o1.ext x2).app (ty := 26) (d := c2) o2.rd (by decide)
    refine ⟨_, _, _, rfl, _, w3, hr3, _, _, _, rfl, _, (hs.ext o3.x).at_ 7 rfl, letA fun w4 hw4 x4 s4 => ?_⟩
    have l4 : IBytes w4 (some (newA w3)) 2 [IntKind.u8.wrap s.nx, 64] := lit_rd (f := Value.int .u8) hw4 rfl
    obtain ⟨A5, c5, w5, hr5, o5, k5⟩ := (o3.ext x4).app (ty := 26) (d := 2) l4 (by decide)
    refine ⟨_, w5, hr5, _, _, _, rfl, by decide, by decide, by decide, ?_⟩
    obtain ⟨A6, c6, w6, hr6, o6, k6⟩ := o5.app (ty := 26) (d := 16) (srcBytes (n := 16) (hs.ext o5.x) (by decide)) (by decide)
    refine ⟨_, w6, hr6, _, _, _, rfl, by decide, by decide, by decide, ?_⟩
    obtain ⟨A7, c7, w7, hr7, o7, k7⟩ := o6.app (ty := 26) (d := 16) (dstBytes (n := 16) (hs.ext o6.x) (by decide)) (by decide)
    refine ⟨_, w7, hr7, _, _, _, rfl, ?_⟩
    obtain ⟨A8, c8, w8, hr8, o8, k8⟩ := o7.app (ty := 26) (d := c) (h.rd.ext o7.x) (by show 4 + 2 + 2 + 16 + 16 + n ≤ _; omega)
    refine ⟨_, w8, hr8, _, _, _, rfl, _, _, _, rfl, ?_⟩
    have := o8.base h.x
    simpa only [List.append_assoc] using this
  · have e0 : ipHB s xs = [] := if_neg (by simp [ipB, h33, h87])
    rw [e0]
    exact ⟨A, n, c, rfl, h⟩
end
end Go.Proofs.Ytjlbegfbdjhhdaa

namespace Go.Proofs.Ytjlbegfbdjhhdaa
open Go.Rd Go.RowKit
set_option linter.unusedVariables false
set_option linter.unusedSimpArgs false

section
variable {W w w' : World} {A B : Option Addr} {n c m d : Nat} {ys zs : List Int} {k : Lnk} {s : Sp} {bs bl : Nat} {xs : List Int}
theorem carried_one {pre : List Int} (h : Ob W w A n c pre) (hs : SAt w bs s) (hd : IBytes W s.dA s.dn xs) (hb : s.dn ≤ 140737488351232) (hn : n ≤ 4) (he : pre ++ xs = loadB s xs) : ref8_carried.J1 (Cr W (ipHB s xs ++ loadB s xs)) ⟨bs, 0, none⟩ A n c w := by
  obtain ⟨A2, c2, w2, hr, o2, k2⟩ := h.app (ty := 26) (d := s.dc) (hd.ext h.x) (by omega)
  rw [he] at o2
  have hs2 : SAt w2 bs s := h.stay k2 hs (by decide)
  exact ⟨_, _, _, hs.at_ 43 rfl, _, w2, hr, _, _, _, rfl, _, hs2.at_ 2 rfl, ifP_of (fun hm => ⟨_, hs2.at_ 3 rfl, carried_two o2 hs2 (by omega) (by simp [saidB, hm])⟩) fun hm => carried_two o2 hs2 (by omega) (by simp [saidB, hm])⟩
theorem carried_spec (hd : IBytes W s.dA s.dn xs) (hb : s.dn ≤ 140737488351232) : Run Try.prog 22 #[s.v] W (Cr W (ipHB s xs ++ loadB s xs)) := by
  refine ref8_carried.ok (letA fun w1 h1 x1 s1 => ?_)
  have hs : SAt w1 W.heap.size s := h1
  refine ⟨_, hs.at_ 40 rfl, ifP_of (fun hp => ?_) fun hp => ?_⟩
  · refine ⟨fun u => SAt u W.heap.size s, hs.ext (Ext.drew w1), letD fun w2 _ x2 => ⟨_, fun u hu => SAt.at_ hu 41 rfl, _, fun u hu => SAt.at_ hu 42 rfl, (rbytes_spec (by omega)).mono ?_⟩⟩
    intro v w3 hv
    obtain ⟨A3, c3, rfl, o3⟩ := Ob.of hv (x1.trans x2)
    have x3 : Ext w2 w3 := by obtain ⟨_, _, _, _, _, _, x⟩ := hv; exact x
    refine ⟨_, _, _, rfl, (hs.ext x2).ext x3, (rbytes_spec (by omega)).mono ?_⟩
    intro v w4 hv
    obtain ⟨A4, c4, rfl, o4⟩ := Ob.of hv o3.x
    have x4 : Ext w3 w4 := by obtain ⟨_, _, _, _, _, _, x⟩ := hv; exact x
    obtain ⟨A5, c5, w5, hr, o5, k5⟩ := (o3.ext x4).app (ty := 26) (d := c4) o4.rd (by decide)
    refine ⟨_, _, _, rfl, _, w5, hr, _, _, _, rfl, carried_one o5 ((o3.ext x4).stay k5 (((hs.ext x2).ext x3).ext x4) (by decide)) hd hb (by decide) ?_⟩
    rw [loadB, if_pos hp, List.append_assoc]
  · have key := carried_one (Ob.nil x1) hs hd hb (by decide) (by rw [loadB, if_neg (by rw [hp]; decide), List.nil_append])
    exact key
end
end Go.Proofs.Ytjlbegfbdjhhdaa

namespace Go.Proofs.Ytjlbegfbdjhhdaa
open Go.Rd Go.RowKit
set_option linter.unusedVariables false
set_option linter.unusedSimpArgs false

section
variable {W w w' : World} {A B : Option Addr} {n c m d : Nat} {k : Lnk} {s : Sp} {bs bl : Nat} {xs pre : List Int} {r : Except Int (List Int)}
theorem load_le : xs.length ≤ (loadB s xs).length := by
  unfold loadB
  split
  · simp only [List.length_append]; omega
  · omega
theorem hdr_le {j : Int} : (hdrB s j).length ≤ 40 := by
  unfold hdrB
  split <;> simp [fieldB_length]
theorem iph_le : (ipHB s xs).length ≤ 40 := by
  unfold ipHB
  split
  · exact hdr_le
  · simp
theorem load_ge : (loadB s xs).length ≤ xs.length + 4 := by
  unfold loadB
  split
  · simp [fieldB_length]; omega
  · omega
theorem rmake_three (h : Ob W w A n c pre) (hs : SAt w bs s) (hd : IBytes W s.dA s.dn xs) (hb : s.dn ≤ 140737488351232) (hn : n ≤ 100) (hr : r = if 65535 < (pre ++ (ipHB s xs ++ loadB s xs)).length then .error 81 else .ok (pre ++ (ipHB s xs ++ loadB s xs))) :
    ref8_Make.J3 (MakeOf W r) ⟨bs, 0, none⟩ A n c w := by
  have hl := hd.len
  have h1 := load_le (s := s) (xs := xs)
  have h2 := iph_le (s := s) (xs := xs)
  have h3 := load_ge (s := s) (xs := xs)
  refine ⟨_, _, _, hs.at_ 43 rfl, ifP_decide.2 ⟨fun hbig => ?_, fun _ => hs.rd ((carried_spec (hd.ext h.x) hb).mono ?_)⟩⟩
  · rw [hr, if_pos (by simp only [List.length_append]; omega)]
    exact ⟨rfl, h.x⟩
  rintro v w2 ⟨A2, n2, c2, rfl, o2⟩
  have hn2 := o2.len
  rw [List.length_append] at hn2
  obtain ⟨A3, c3, w3, hr3, o3, k3⟩ := (h.ext o2.x).app (ty := 26) (d := c2) o2.rd (by omega)
  have hlen := o3.len
  refine ⟨_, _, _, rfl, _, w3, hr3, _, _, _, rfl, ifP_decide.2 ⟨fun hbig => ?_, fun hsm => ?_⟩⟩
  · rw [hr, if_pos (by omega)]
    exact ⟨rfl, o3.x⟩
  · rw [hr, if_neg (by omega)]
    exact ⟨A3, c3, by rw [hlen], o3.own, o3.new, o3.x⟩
theorem rmake_two {t : Bool} (h : Ob W w A n c pre) (hs : SAt w bs s) (hk : LAt w bl k) (hd : IBytes W s.dA s.dn xs) (hb : s.dn ≤ 140737488351232) (hn : n ≤ 90) (ht : t = saidB s) (hr : r = if 65535 < (pre ++ (sayB k s ++ (ipHB s xs ++ loadB s xs))).length then .error 81 else .ok (pre ++ (sayB k s ++ (ipHB s xs ++ loadB s xs)))) :
    ref8_Make.J2 (MakeOf W r) ⟨bl, 0, none⟩ ⟨bs, 0, none⟩ A n c t w := by
  refine ifP_of (fun h1 => hk.rd ⟨_, hs.at0, _, hs.at_ 6 rfl, field_spec.mono ?_⟩) fun h1 => ?_
  · have e0 : sayB k s = protoB k s.pl s.pr := if_pos (by rw [← ht]; exact h1)
    intro v w2 hv
    obtain ⟨A2, c2, rfl, o2⟩ := Ob.of hv h.x
    have x2 : Ext w w2 := by obtain ⟨_, _, _, _, _, _, x⟩ := hv; exact x
    have hpl := protoB_length k s.pl s.pr
    obtain ⟨A3, c3, w3, hr3, o3, k3⟩ := (h.ext x2).app (ty := 26) (d := c2) o2.rd (by omega)
    refine ⟨_, _, _, rfl, _, w3, hr3, _, _, _, rfl, rmake_three o3 ((h.ext x2).stay k3 (hs.ext x2) (by decide)) hd hb (by omega) ?_⟩
    rw [hr, e0, List.append_assoc]
  · have e0 : sayB k s = [] := if_neg (by rw [← ht, h1]; decide)
    rw [e0, List.nil_append] at hr
    exact rmake_three h hs hd hb (by omega) hr
theorem rmake_one (h : Ob W w A n c pre) (hs : SAt w bs s) (hk : LAt w bl k) (hd : IBytes W s.dA s.dn xs) (hb : s.dn ≤ 140737488351232) (hn : n ≤ 90) (hr : r = if 65535 < (pre ++ (sayB k s ++ (ipHB s xs ++ loadB s xs))).length then .error 81 else .ok (pre ++ (sayB k s ++ (ipHB s xs ++ loadB s xs)))) :
    ref8_Make.J1 (MakeOf W r) ⟨bl, 0, none⟩ ⟨bs, 0, none⟩ A n c w :=
  ⟨_, hs.at_ 2 rfl, ifP_not.2 (ifP_of (fun hm => ⟨_, hs.at_ 3 rfl, rmake_two h hs hk hd hb hn (by simp [saidB, hm]) hr⟩) fun hm => rmake_two h hs hk hd hb hn (by simp [saidB, hm]) hr)⟩
end
end Go.Proofs.Ytjlbegfbdjhhdaa

namespace Go.Proofs.Ytjlbegfbdjhhdaa
open Go.Rd Go.RowKit
set_option linter.unusedVariables false
set_option linter.unusedSimpArgs false

section
variable {W w w' : World} {A B : Option Addr} {n c m d : Nat} {k : Lnk} {s : Sp} {bs bl : Nat} {xs pre : List Int} {r : Except Int (List Int)}
theorem rmake_zero (h : Ob W w A n c pre) (hs : SAt w bs s) (hk : LAt w bl k) (hd : IBytes W s.dA s.dn xs) (hb : s.dn ≤ 140737488351232) (hn : n ≤ 10) (hr : r = if 65535 < (pre ++ (multiB k s ++ (sayB k s ++ (ipHB s xs ++ loadB s xs)))).length then .error 81 else .ok (pre ++ (multiB k s ++ (sayB k s ++ (ipHB s xs ++ loadB s xs))))) :
    ref8_Make.J0 (MakeOf W r) ⟨bl, 0, none⟩ ⟨bs, 0, none⟩ A n c w := by
  refine ⟨_, hs.at_ 2 rfl, ifP_of (fun hm => hk.rd ⟨_, hs.at0, field_spec.mono ?_⟩) fun hm => ?_⟩
  · have e0 : multiB k s = protoB k s.pl 61 ++ headB k s.bg s.en s.sq := if_pos hm
    intro v w2 hv
    obtain ⟨A2, c2, rfl, o2⟩ := Ob.of hv h.x
    have x2 : Ext w w2 := by obtain ⟨_, _, _, _, _, _, x⟩ := hv; exact x
    have hpl := protoB_length k s.pl 61
    obtain ⟨A3, c3, w3, hr3, o3, k3⟩ := (h.ext x2).app (ty := 26) (d := c2) o2.rd (by omega)
    have hs3 : SAt w3 bs s := (h.ext x2).stay k3 (hs.ext x2) (by decide)
    have hk3 : LAt w3 bl k := (h.ext x2).stay k3 (hk.ext x2) (by decide)
    refine ⟨_, _, _, rfl, _, w3, hr3, _, _, _, rfl, hk3.rd ⟨_, hs3.at_ 3 rfl, _, hs3.at_ 4 rfl, _, hs3.at_ 5 rfl, head_spec.mono ?_⟩⟩
    intro v w4 hv
    obtain ⟨A4, c4, rfl, o4⟩ := Ob.of hv o3.x
    have x4 : Ext w3 w4 := by obtain ⟨_, _, _, _, _, _, x⟩ := hv; exact x
    have hsz : (headSize k).toNat ≤ 4 := by unfold headSize; split <;> decide
    obtain ⟨A5, c5, w5, hr5, o5, k5⟩ := (o3.ext x4).app (ty := 26) (d := c4) o4.rd (by omega)
    refine ⟨_, _, _, rfl, _, w5, hr5, _, _, _, rfl, rmake_one o5 ((o3.ext x4).stay k5 (hs3.ext x4) (by decide)) ((o3.ext x4).stay k5 (hk3.ext x4) (by decide)) hd hb (by omega) ?_⟩
    rw [hr, e0]
    simp only [List.append_assoc]
  · have e0 : multiB k s = [] := if_neg (by rw [hm]; decide)
    rw [e0, List.nil_append] at hr
    exact rmake_one h hs hk hd hb (by omega) hr
theorem grcheck_spec : Run Try.prog 18 #[.agg #[.bool k.ac, .bool k.pf, .int .i64 k.mp]] w fun v w' => v = .int .i64 (if linkOk k = true then 0 else 70) ∧ Ext w w' := by
  refine ref7_Check.ok (letA fun w1 h1 x1 s1 => ?_)
  have c2 : w1.cell? ((newA w).add 2) = some (.int .i64 k.mp) := by rw [newA, add_mk]; exact (cell_of h1).trans rfl
  have lk : linkOk k = decide (k.mp = 0 ∨ k.mp = 1 ∨ k.mp = 2) := rfl
  refine ⟨_, c2, ifP_decide.2 ⟨fun h0 => ifP_t rfl ⟨?_, x1⟩, fun h0 => ⟨_, c2, ifP_decide.2 ⟨fun h2 => ⟨?_, x1⟩, fun h2 => ⟨?_, x1⟩⟩⟩⟩⟩
  · rw [if_neg (by rw [lk, decide_eq_true_eq]; omega)]
  · rw [if_neg (by rw [lk, decide_eq_true_eq]; omega)]
  · rw [if_pos (by rw [lk, decide_eq_true_eq]; omega)]
theorem rmake_spec (hd : IBytes W s.dA s.dn xs) (hb : s.dn ≤ 140737488351232) (p0 : 0 ≤ s.pr) (p1 : s.pr ≤ 4294967295) :
    Run Try.prog 8 #[.agg #[.bool k.ac, .bool k.pf, .int .i64 k.mp], s.v] W (MakeOf W (makeX k s xs)) := by
  refine ref8_Make.ok (letA fun w1 h1 x1 s1 => letA fun w2 h2 x2 s2 => ?_)
  have hk2 : LAt w2 W.heap.size k := x2.heap h1
  have hs2 : SAt w2 w1.heap.size s := h2
  refine hk2.rd (grcheck_spec.mono ?_)
  rintro v w3 ⟨rfl, x3⟩
  refine ⟨_, rfl, ifP_bne.2 ⟨fun hl => ?_, fun hl => ?_⟩⟩
  · have hk' : linkOk k = false := by
      cases h : linkOk k with
      | false => rfl
      | true => rw [h] at hl; exact absurd rfl hl
    rw [makeX, if_pos hk', hk']
    exact ⟨rfl, (x1.trans x2).trans x3⟩
  have hk' : linkOk k = true := by
    cases h : linkOk k with
    | true => rfl
    | false => rw [h] at hl; exact absurd hl (by decide)
  refine (hk2.ext x3).rd ((hs2.ext x3).rd ((rfits_spec p0 p1).mono ?_))
  rintro v w4 ⟨rfl, x4⟩
  have x04 := ((x1.trans x2).trans x3).trans x4
  have hk4 := (hk2.ext x3).ext x4
  have hs4 := (hs2.ext x3).ext x4
  refine ⟨_, rfl, ifP_not.2 (ifP_of (fun hf => ?_) fun hf => ?_)⟩
  · have hany : anyWrong k s = false := by simpa using hf
    have er : makeX k s xs = if 65535 < (outB k s xs).length then .error 81 else .ok (outB k s xs) := by
      rw [makeX, if_neg (by rw [hk']; decide), if_neg (by rw [hany]; decide)]
    refine ⟨_, hs4.at_ 1 rfl, ifP_of (fun hwd => ?_) fun hwd => ?_⟩
    · have e0 : wideB s = [255, 3] := if_pos hwd
      refine letA fun w5 hw5 x5 s5 => ?_
      have l5 : IBytes w5 (some (newA w4)) 2 [255, 3] := lit_rd (f := Value.int .u8) hw5 rfl
      obtain ⟨A6, c6, w6, hr6, o6, k6⟩ := (Ob.nil (x04.trans x5)).app (ty := 26) (d := 2) l5 (by decide)
      refine ⟨_, w6, hr6, _, _, _, rfl, ?_⟩
      have key := rmake_zero (r := makeX k s xs) o6 ((Ob.nil (x04.trans x5)).stay k6 (hs4.ext x5) (by decide)) ((Ob.nil (x04.trans x5)).stay k6 (hk4.ext x5) (by decide)) hd hb (by decide) (by rw [er, outB, e0]; rfl)
      exact key
    · have e0 : wideB s = [] := if_neg (by rw [hwd]; decide)
      have key := rmake_zero (r := makeX k s xs) (Ob.nil x04) hs4 hk4 hd hb (by decide) (by rw [er, outB, e0])
      exact key
  · have hany : anyWrong k s = true := by simpa using hf
    rw [makeX, if_neg (by rw [hk']; decide), if_pos hany]
    exact ⟨rfl, x04⟩
end
end Go.Proofs.Ytjlbegfbdjhhdaa
