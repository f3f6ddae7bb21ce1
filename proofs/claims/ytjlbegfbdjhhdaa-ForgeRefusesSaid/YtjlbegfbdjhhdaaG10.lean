/- The document's forge: what is carried. -/
import Derived.Test.YtjlbegfbdjhhdaaG9
namespace Go.Proofs.Ytjlbegfbdjhhdaa
open Go.Rd Go.RowKit
set_option linter.unusedVariables false
set_option linter.unusedSimpArgs false

/-- Bytes that grow, in memory of their own. -/
structure Ob (W w : World) (A : Option Addr) (n c : Nat) (ys : List Int) : Prop where
  own : OBytes w A c ys
  len : ys.length = n
  new : ∀ k, blk A k → W.heap.size ≤ k
  x : Ext W w
section
variable {W w w' : World} {A B : Option Addr} {n c m d : Nat} {ys zs : List Int} {k : Lnk} {s : Sp} {bs bl : Nat}
theorem Ob.nil (x : Ext W w) : Ob W w none 0 0 [] := ⟨.inl ⟨rfl, rfl, rfl⟩, rfl, fun k hk => absurd hk blk_none, x⟩
theorem Ob.ext (h : Ob W w A n c ys) (x : Ext w w') : Ob W w' A n c ys := ⟨h.own.ext x, h.len, h.new, h.x.trans x⟩
theorem Ob.of {v : Value} (h : NewBytes w w' v n ys) (x : Ext W w) : ∃ A c, v = .slice A n c ∧ Ob W w' A n c ys := by
  obtain ⟨A, c, rfl, o, l, b, x1⟩ := h
  exact ⟨A, c, rfl, o, l, fun k hk => by have := b k hk; have := x.size; omega, x.trans x1⟩
theorem Ob.app (h : Ob W w A n c ys) (hB : IBytes w B m zs) (hlim : n + m ≤ 140737488355328) {ty : Nat} : ∃ A' c' w', (Builtin.append_ #[26, 26] ty #[.slice A n c, .slice B m d]).run Try.prog w = .ok (.slice A' (n + m) c') w' ∧ Ob W w' A' (n + m) c' (ys ++ zs) ∧ Keep (blk A) w w' := by
  obtain ⟨A', c', w', hr, o, hc, k, hb⟩ := append_own slBytes (ty := ty) (n := n) (d := d) h.own (by rw [List.length_map, h.len]; omega) hB.cells (m := m) (by rw [List.length_map, hB.len]; omega) (cellsBytes _) (by omega) (by omega)
  refine ⟨A', c', w', hr, ⟨by rw [OBytes, List.map_append]; exact o, by rw [List.length_append, h.len, hB.len], fun i hi => ?_, h.x.fresh k h.new⟩, k⟩
  rcases hb i hi with h2 | h2
  · exact h.new i h2
  · have := h.x.size; omega
/-- A block of another kind stays. -/
theorem Ob.stay (h : Ob W w A n c ys) (kp : Keep (blk A) w w') {b : Nat} {vs : Array Value} {t : TypeId} (hb : w.heap[b]? = some (.cells vs t (0, 0))) (ht : t ≠ 5) : w'.heap[b]? = some (.cells vs t (0, 0)) :=
  kp.heap hb fun hk => by
    obtain ⟨us, h1⟩ := Own.typ h.own hk
    rw [h1] at hb
    injection hb with hb
    injection hb with _ hb
    exact ht hb.symm
theorem Ob.base {V : World} (h : Ob w w' A n c ys) (x : Ext V w) : Ob V w' A n c ys := ⟨h.own, h.len, fun k hk => by have := h.new k hk; have := x.size; omega, x.trans h.x⟩
theorem Ob.rd (h : Ob W w A n c ys) : IBytes w A n ys := h.own.rd h.len

abbrev Cr (W : World) (ys : List Int) : Value → World → Prop := fun v w' => ∃ A n c, v = .slice A n c ∧ Ob W w' A n c ys
theorem carried_two {xs : List Int} {t : Bool} (h : Ob W w A n c (loadB s xs)) (hs : SAt w bs s) (hn : n ≤ 140737488351300) (ht : t = !saidB s) : ref8_carried.J2 (Cr W (ipHB s xs ++ loadB s xs)) ⟨bs, 0, none⟩ A n c t w := by
  have hln := h.len
  refine ifP_of (fun h1 => ?_) fun h1 => ⟨_, hs.at_ 6 rfl, ifP_beq.2 ⟨fun h33 => ?_, fun h33 => ⟨_, hs.at_ 6 rfl, ifP_beq.2 ⟨fun h87 => ?_, fun h87 => ?_⟩⟩⟩⟩
  · have e0 : ipHB s xs = [] := if_neg (by rw [ht] at h1; simp [ipB] at h1 ⊢; simp [h1])
    rw [e0]
    exact ⟨A, n, c, rfl, h⟩
  · have hsd : saidB s = true := by rw [ht] at h1; simpa using h1
    have e0 : ipHB s xs = hdrB s n := by rw [ipHB, if_pos (by simp [ipB, hsd, h33]), hln]
    rw [e0, hdrB, if_pos h33]
    refine letA fun w1 hw1 x1 s1 => rbytes_spec (by omega) |>.mono ?_
    rintro v w2 hv
    have o1 : Ob w w1 (some (newA w)) 2 2 [69, 0] := ⟨.inr ⟨_, [], rfl, hw1, rfl⟩, rfl, fun k hk => by rw [blk_some.1 hk]; exact Nat.le_refl _, x1⟩
    obtain ⟨B2, c2, rfl, o2⟩ := Ob.of hv x1
    have x2 : Ext w1 w2 := by obtain ⟨_, _, _, _, _, _, x⟩ := hv; exact x
    obtain ⟨A3, c3, w3, hr3, o3, k3⟩ := (o1.ext x2).app (ty := 26) (d := c2) o2.rd (by decide)
    refine ⟨_, _, _, rfl, _, w3, hr3, _, _, _, rfl, _, (hs.ext o3.x).at_ 7 rfl, letA fun w4 hw4 x4 s4 => ?_⟩
    have l4 : IBytes w4 (some (newA w3)) 8 [0, 0, 0, 0, 64, IntKind.u8.wrap s.nx, 0, 0] := lit_rd (f := Value.int .u8) hw4 rfl
    obtain ⟨A5, c5, w5, hr5, o5, k5⟩ := (o3.ext x4).app (ty := 26) (d := 8) l4 (by decide)
    refine ⟨_, w5, hr5, _, _, _, rfl, by decide, by decide, by decide, ?_⟩
    obtain ⟨A6, c6, w6, hr6, o6, k6⟩ := o5.app (ty := 26) (d := 16) (srcBytes (n := 4) (hs.ext o5.x) (by decide)) (by decide)
    refine ⟨_, w6, hr6, _, _, _, rfl, by decide, by decide, by decide, ?_⟩
    obtain ⟨A7, c7, w7, hr7, o7, k7⟩ := o6.app (ty := 26) (d := 16) (dstBytes (n := 4) (hs.ext o6.x) (by decide)) (by decide)
    refine ⟨_, w7, hr7, _, _, _, rfl, ?_⟩
    obtain ⟨A8, c8, w8, hr8, o8, k8⟩ := o7.app (ty := 26) (d := c) (h.rd.ext o7.x) (by show 2 + 2 + 8 + 4 + 4 + n ≤ _; omega)
    refine ⟨_, w8, hr8, _, _, _, rfl, _, _, _, rfl, ?_⟩
    have := o8.base h.x
    simpa only [List.append_assoc] using this
  · have hsd : saidB s = true := by rw [ht] at h1; simpa using h1
    have e0 : ipHB s xs = hdrB s n := by rw [ipHB, if_pos (by simp [ipB, hsd, h87]), hln]
    rw [e0, hdrB, if_neg h33]
    refine letA fun w1 hw1 x1 s1 => rbytes_spec (by omega) |>.mono ?_
    rintro v w2 hv
    have o1 : Ob w w1 (some (newA w)) 4 4 [96, 0, 0, 0] := ⟨.inr ⟨_, [], rfl, hw1, rfl⟩, rfl, fun k hk => by rw [blk_some.1 hk]; exact Nat.le_refl _, x1⟩
    obtain ⟨B2, c2, rfl, o2⟩ := Ob.of hv x1
    have x2 : Ext w1 w2 := by obtain ⟨_, _, _, _, _, _, x⟩ := hv; exact x
    obtain ⟨A3, c3, w3, hr3, o3, k3⟩ := (o1.ext x2).app (ty := 26) (d := c2) o2.rd (by decide)
    refine ⟨_, _, _, rfl, _, w3, hr3, _, _, _, rfl, _, (hs.ext o3.x).at_ 7 rfl, letA fun w4 hw4 x4 s4 => ?_⟩
    have l4 : IBytes w4 (some (newA w3)) 2 [IntKind.u8.wrap s.nx, 64] := lit_rd (f := Value.int .u8) hw4 rfl
    obtain ⟨A5, c5, w5, hr5, o5, k5⟩ := (o3.ext x4).app (ty := 26) (d := 2) l4 (by decide)
    refine ⟨_, w5, hr5, _, _, _, rfl, by decide, by decide, by decide, ?_⟩
    obtain ⟨A6, c6, w6, hr6, o6, k6⟩ := o5.app (ty := 26) (d := 16) (srcBytes (n := 16) (hs.ext o5.x) (by decide)) (by decide)
    refine ⟨_, w6, hr6, _, _, _, rfl, by decide, by decide, by decide, ?_⟩
    obtain ⟨A7, c7, w7, hr7, o7, k7⟩ := o6.app (ty := 26) (d := 16) (dstBytes (n := 16) (hs.ext o6.x) (by decide)) (by decide)
    refine ⟨_, w7, hr7, _, _, _, rfl, ?_⟩
    obtain ⟨A8, c8, w8, hr8, o8, k8⟩ := o7.app (ty := 26) (d := c) (h.rd.ext o7.x) (by show 4 + 2 + 2 + 16 + 16 + n ≤ _; omega)
    refine ⟨_, w8, hr8, _, _, _, rfl, _, _, _, rfl, ?_⟩
    have := o8.base h.x
    simpa only [List.append_assoc] using this
  · have e0 : ipHB s xs = [] := if_neg (by simp [ipB, h33, h87])
    rw [e0]
    exact ⟨A, n, c, rfl, h⟩
end
end Go.Proofs.Ytjlbegfbdjhhdaa
