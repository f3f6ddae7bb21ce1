/- forge.Make: the whole. -/
import Derived.Test.YtjlbegfbdjhhdaaG6
namespace Go.Proofs.Ytjlbegfbdjhhdaa
open Go.Rd Go.RowKit
set_option linter.unusedVariables false
set_option linter.unusedSimpArgs false

theorem gcheck_spec {w : World} {k : Lnk} : Run Try.prog 24 #[.agg #[.bool k.ac, .bool k.pf, .int .i64 k.mp]] w fun v w' => v = .int .i64 (if linkOk k = true then 0 else 70) ∧ Ext w w' := by
  refine frame_Check.ok (letA fun w1 h1 x1 s1 => ?_)
  have c2 : w1.cell? ((newA w).add 2) = some (.int .i64 k.mp) := by rw [newA, add_mk]; exact (cell_of h1).trans rfl
  have fin : ∀ t : Bool, (t = true ↔ linkOk k = false) → frame_Check.J0 (fun v w' => v = .int .i64 (if linkOk k = true then 0 else 70) ∧ Ext w w') t w1 := by
    intro t ht
    refine ifP_of (fun h => ⟨by rw [ht.1 h]; rfl, x1⟩) fun h => ⟨?_, x1⟩
    have : linkOk k = true := by
      cases hk : linkOk k with
      | true => rfl
      | false => rw [ht.2 hk] at h; cases h
    rw [if_pos this]
  have ok : (k.mp = 0 ∨ k.mp = 1 ∨ k.mp = 2) → linkOk k = true := fun h => decide_eq_true h
  refine ⟨_, c2, ifP_bne.2 ⟨fun h0 => ⟨_, c2, ifP_bne.2 ⟨fun h1 => ⟨_, c2, fin _ ?_⟩, fun h1 => fin _ ⟨fun h => (by cases h), fun h => by rw [ok (by omega)] at h; cases h⟩⟩⟩, fun h0 => fin _ ⟨fun h => (by cases h), fun h => by rw [ok (by omega)] at h; cases h⟩⟩⟩
  rw [bne_iff_ne]
  constructor
  · intro h; exact decide_eq_false (by omega)
  · intro h h2; rw [ok (by omega)] at h; cases h

section
variable {W : World} {k : Lnk} {s : Sp} {xs : List Int} {bl bs bl2 bs2 bn q : Nat}
theorem make_wide {r : Except Int (List Int)} {w : World} (h : Mk W w k s bl bs none 0 []) (hd : IBytes W s.dA s.dn xs) (hb : s.dn ≤ 140737488351232) (hr : r = if 65535 < (outB k s xs).length then .error 81 else .ok (outB k s xs)) :
    ∃ t29 : Bool, w.cell? ((Addr.mk bs 0 none).add 1) = some (.bool t29) ∧ ifP t29
      (letW (w.alloc (.cells #[(.int .u8 255), (.int .u8 3)] 5)) fun w_3 => letW (w_3.alloc (.cells #[(.slice (some (newA w)) 2 2)] 26)) fun w_4 => ∃ (v_2 : Value) (w_5 : World), (Builtin.append_ #[51, 51] 51 #[(.slice none 0 0), (.slice (some (newA w_3)) 1 1)]).run Try.prog w_4 = .ok v_2 w_5 ∧ ∃ (t33A : Option Addr) (t33n t33c : Nat), v_2 = (.slice t33A t33n t33c) ∧ forge_Make.J0 (MakeOf W r) ⟨bl, 0, none⟩ ⟨bs, 0, none⟩ t33A t33n t33c w_5)
      (forge_Make.J0 (MakeOf W r) ⟨bl, 0, none⟩ ⟨bs, 0, none⟩ none 0 0 w) := by
  refine ⟨_, h.s.at_ 1 rfl, ifP_of (fun hwd => ?_) fun hwd => ?_⟩
  · have e0 : wideB s = [255, 3] := if_pos hwd
    refine letA fun w1 hw1 x1 s1 => letA fun w2 hw2 x2 s2 => ?_
    have h2 := (h.ext x1).ext x2
    have o1 : OBytes w1 (some (newA w)) 2 [255, 3] := .inr ⟨_, [], rfl, hw1, rfl⟩
    obtain ⟨A', c', w3, hrn, h3, k3⟩ := h2.push (qs := [⟨some (newA w), 2, 2, [255, 3]⟩]) (ty := 51) (d := 1) (by show 0 + 1 ≤ 1000; decide) (lit_parts hw2 rfl) (fun p hp => by rw [List.mem_singleton.1 hp]; exact ⟨⟨_, o1.ext x2⟩, rfl⟩)
    have hrn1 : (Builtin.append_ #[51, 51] 51 #[(.slice none 0 0), (.slice (some (newA w1)) 1 1)]).run Try.prog w2 = .ok (.slice A' 1 c') w3 := hrn
    refine ⟨.slice A' 1 c', w3, hrn1, A', 1, c', rfl, ?_⟩
    have ef : flat ([] ++ [(⟨some (newA w), 2, 2, [255, 3]⟩ : Part)]) = wideB s := by rw [e0]; rfl
    have hlen : (flat ([] ++ [(⟨some (newA w), 2, 2, [255, 3]⟩ : Part)])).length ≤ 800 := by rw [ef, e0]; show 2 ≤ 800; decide
    have hr' : r = if 65535 < (flat ([] ++ [(⟨some (newA w), 2, 2, [255, 3]⟩ : Part)]) ++ (multiB k s ++ (sayB k s ++ (ipHB s xs ++ loadB s xs)))).length then .error 81 else .ok (flat ([] ++ [(⟨some (newA w), 2, 2, [255, 3]⟩ : Part)]) ++ (multiB k s ++ (sayB k s ++ (ipHB s xs ++ loadB s xs)))) := by rw [hr, ef, outB]
    have key := make_zero_ h3 (by show 1 ≤ 10; decide) hd hb hlen hr'
    exact key
  · have e0 : wideB s = [] := if_neg (by rw [hwd]; decide)
    have hr' : r = if 65535 < (flat [] ++ (multiB k s ++ (sayB k s ++ (ipHB s xs ++ loadB s xs)))).length then .error 81 else .ok (flat [] ++ (multiB k s ++ (sayB k s ++ (ipHB s xs ++ loadB s xs)))) := by
      rw [hr, outB, e0]; rfl
    have key := make_zero_ h (by show 0 ≤ 10; decide) hd hb (by show 0 ≤ 800; decide) hr'
    exact key
theorem make_loop (hd : IBytes W s.dA s.dn xs) (hb : s.dn ≤ 140737488351232) (p0 : 0 ≤ s.pr) (p1 : s.pr ≤ 4294967295) (hk : linkOk k = true) : ∀ (d j : Nat), 11 - j = d → j ≤ 11 → (∀ i, i < j → wrB k s i = false) → ∀ w, Mk W w k s bl bs none 0 [] → CAt w k s bs2 bl2 bn → (∃ t fz, w.heap[q]? = some (.cells (clos bs2 bl2 bn) t fz)) →
    forge_Make.L0 (MakeOf W (makeX k s xs)) ⟨bl, 0, none⟩ ⟨bs, 0, none⟩ (some ⟨q, 0, none⟩) 11 11 ((11 : Nat) : Int) j w := by
  intro d
  induction d with
  | zero =>
    intro j hj0 hj hw w h hc hq
    have : j = 11 := by omega
    subst this
    have hany : anyWrong k s = false := by
      unfold anyWrong
      rw [List.any_eq_false]
      intro i hi
      rw [hw i (by simpa using hi)]
      decide
    have er : makeX k s xs = if 65535 < (outB k s xs).length then .error 81 else .ok (outB k s xs) := by
      rw [makeX, if_neg (by rw [hk]; decide), if_neg (by rw [hany]; decide)]
    exact forge_Make.L0_step (ifP_no (by omega) (make_wide h hd hb er))
  | succ d ih =>
    intro j hj0 hj hw w h hc hq
    obtain ⟨t, fz, hq⟩ := hq
    obtain ⟨g, cs, hg, hok, hrun⟩ := wr_at hc p0 p1 (j := j) (by omega)
    refine forge_Make.L0_step (ifP_yes (by omega) ⟨by omega, by omega, _, rfl, .func (.func g) #[] cs, ?_, g, #[], cs, rfl, hok, hrun.mono ?_⟩)
    · rw [add_mk, cell_of hq, Int.toNat_natCast, Nat.zero_add, Nat.mul_one]; exact hg
    rintro v w1 ⟨rfl, x1⟩
    refine ⟨_, rfl, ifP_of (fun hwr => ?_) fun hwr => ?_⟩
    · have hany : anyWrong k s = true := by
        unfold anyWrong
        rw [List.any_eq_true]
        exact ⟨j, by simp; omega, hwr⟩
      rw [makeX, if_neg (by rw [hk]; decide), if_pos hany]
      exact ⟨rfl, h.x.trans x1⟩
    · have e1 : IntKind.i64.wrap ((j : Int) + 1) = ((j + 1 : Nat) : Int) := wrap_i64 (by omega) (by omega)
      rw [e1]
      refine ih (j + 1) (by omega) (by omega) (fun i hi => ?_) w1 (h.ext x1) (hc.ext x1) ⟨t, fz, x1.heap hq⟩
      by_cases hij : i = j
      · rw [hij]; exact hwr
      · exact hw i (by omega)

theorem make_spec (hd : IBytes W s.dA s.dn xs) (hb : s.dn ≤ 140737488351232) (p0 : 0 ≤ s.pr) (p1 : s.pr ≤ 4294967295) :
    Run Try.prog 10 #[.agg #[.bool k.ac, .bool k.pf, .int .i64 k.mp], s.v] W (MakeOf W (makeX k s xs)) := by
  refine forge_Make.ok (letA fun w1 h1 x1 s1 => letA fun w2 h2 x2 s2 => ?_)
  have hk2 : LAt w2 W.heap.size k := x2.heap h1
  have hs2 : SAt w2 w1.heap.size s := h2
  refine hk2.rd (gcheck_spec.mono ?_)
  rintro v w3 ⟨rfl, x3⟩
  refine ⟨_, rfl, ifP_bne.2 ⟨fun hl => ?_, fun hl => ?_⟩⟩
  · have hk' : linkOk k = false := by
      cases h : linkOk k with
      | false => rfl
      | true => rw [h] at hl; exact absurd rfl hl
    rw [makeX, if_pos hk', hk']
    exact ⟨rfl, (x1.trans x2).trans x3⟩
  · have hk' : linkOk k = true := by
      cases h : linkOk k with
      | true => rfl
      | false => rw [h] at hl; exact absurd hl (by decide)
    refine (hk2.ext x3).rd ((hs2.ext x3).rd (wrongs_spec.mono ?_))
    rintro v w4 ⟨q, bs2, bl2, bn, rfl, hc, hq, x4⟩
    have mk : Mk W w4 k s W.heap.size w1.heap.size none 0 [] := ⟨(hs2.ext x3).ext x4, (hk2.ext x3).ext x4, Pts.nil, ((x1.trans x2).trans x3).trans x4⟩
    exact ⟨_, _, _, rfl, make_loop hd hb p0 p1 hk' 11 0 rfl (by omega) (fun i hi => absurd hi (by omega)) w4 mk hc hq⟩
end
end Go.Proofs.Ytjlbegfbdjhhdaa
