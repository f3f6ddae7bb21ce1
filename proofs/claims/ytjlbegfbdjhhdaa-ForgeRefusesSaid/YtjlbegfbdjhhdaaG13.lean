/- The document's forge: Make, the whole. -/
import Derived.Test.YtjlbegfbdjhhdaaG12
namespace Go.Proofs.Ytjlbegfbdjhhdaa
open Go.Rd Go.RowKit
set_option linter.unusedVariables false
set_option linter.unusedSimpArgs false

section
variable {W w w' : World} {A B : Option Addr} {n c m d : Nat} {k : Lnk} {s : Sp} {bs bl : Nat} {xs pre : List Int} {r : Except Int (List Int)}
theorem rmake_zero (h : Ob W w A n c pre) (hs : SAt w bs s) (hk : LAt w bl k) (hd : IBytes W s.dA s.dn xs) (hb : s.dn ≤ 140737488351232) (hn : n ≤ 10) (hr : r = if 65535 < (pre ++ (multiB k s ++ (sayB k s ++ (ipHB s xs ++ loadB s xs)))).length then .error 81 else .ok (pre ++ (multiB k s ++ (sayB k s ++ (ipHB s xs ++ loadB s xs))))) :
    ref8_Make.J0 (MakeOf W r) ⟨bl, 0, none⟩ ⟨bs, 0, none⟩ A n c w := by
  refine ⟨_, hs.at_ 2 rfl, ifP_of (fun hm => hk.rd ⟨_, hs.at0, field_spec.mono ?_⟩) fun hm => ?_⟩
  · have e0 : multiB k s = protoB k s.pl 61 ++ headB k s.bg s.en s.sq := if_pos hm
    intro v w2 hv
    obtain ⟨A2, c2, rfl, o2⟩ := Ob.of hv h.x
    have x2 : Ext w w2 := by obtain ⟨_, _, _, _, _, _, x⟩ := hv; exact x
    have hpl := protoB_length k s.pl 61
    obtain ⟨A3, c3, w3, hr3, o3, k3⟩ := (h.ext x2).app (ty := 26) (d := c2) o2.rd (by omega)
    have hs3 : SAt w3 bs s := (h.ext x2).stay k3 (hs.ext x2) (by decide)
    have hk3 : LAt w3 bl k := (h.ext x2).stay k3 (hk.ext x2) (by decide)
    refine ⟨_, _, _, rfl, _, w3, hr3, _, _, _, rfl, hk3.rd ⟨_, hs3.at_ 3 rfl, _, hs3.at_ 4 rfl, _, hs3.at_ 5 rfl, head_spec.mono ?_⟩⟩
    intro v w4 hv
    obtain ⟨A4, c4, rfl, o4⟩ := Ob.of hv o3.x
    have x4 : Ext w3 w4 := by obtain ⟨_, _, _, _, _, _, x⟩ := hv; exact x
    have hsz : (headSize k).toNat ≤ 4 := by unfold headSize; split <;> decide
    obtain ⟨A5, c5, w5, hr5, o5, k5⟩ := (o3.ext x4).app (ty := 26) (d := c4) o4.rd (by omega)
    refine ⟨_, _, _, rfl, _, w5, hr5, _, _, _, rfl, rmake_one o5 ((o3.ext x4).stay k5 (hs3.ext x4) (by decide)) ((o3.ext x4).stay k5 (hk3.ext x4) (by decide)) hd hb (by omega) ?_⟩
    rw [hr, e0]
    simp only [List.append_assoc]
  · have e0 : multiB k s = [] := if_neg (by rw [hm]; decide)
    rw [e0, List.nil_append] at hr
    exact rmake_one h hs hk hd hb (by omega) hr
theorem grcheck_spec : Run Try.prog 18 #[.agg #[.bool k.ac, .bool k.pf, .int .i64 k.mp]] w fun v w' => v = .int .i64 (if linkOk k = true then 0 else 70) ∧ Ext w w' := by
  refine ref7_Check.ok (letA fun w1 h1 x1 s1 => ?_)
  have c2 : w1.cell? ((newA w).add 2) = some (.int .i64 k.mp) := by rw [newA, add_mk]; exact (cell_of h1).trans rfl
  have lk : linkOk k = decide (k.mp = 0 ∨ k.mp = 1 ∨ k.mp = 2) := rfl
  refine ⟨_, c2, ifP_decide.2 ⟨fun h0 => ifP_t rfl ⟨?_, x1⟩, fun h0 => ⟨_, c2, ifP_decide.2 ⟨fun h2 => ⟨?_, x1⟩, fun h2 => ⟨?_, x1⟩⟩⟩⟩⟩
  · rw [if_neg (by rw [lk, decide_eq_true_eq]; omega)]
  · rw [if_neg (by rw [lk, decide_eq_true_eq]; omega)]
  · rw [if_pos (by rw [lk, decide_eq_true_eq]; omega)]
theorem rmake_spec (hd : IBytes W s.dA s.dn xs) (hb : s.dn ≤ 140737488351232) (p0 : 0 ≤ s.pr) (p1 : s.pr ≤ 4294967295) :
    Run Try.prog 8 #[.agg #[.bool k.ac, .bool k.pf, .int .i64 k.mp], s.v] W (MakeOf W (makeX k s xs)) := by
  refine ref8_Make.ok (letA fun w1 h1 x1 s1 => letA fun w2 h2 x2 s2 => ?_)
  have hk2 : LAt w2 W.heap.size k := x2.heap h1
  have hs2 : SAt w2 w1.heap.size s := h2
  refine hk2.rd (grcheck_spec.mono ?_)
  rintro v w3 ⟨rfl, x3⟩
  refine ⟨_, rfl, ifP_bne.2 ⟨fun hl => ?_, fun hl => ?_⟩⟩
  · have hk' : linkOk k = false := by
      cases h : linkOk k with
      | false => rfl
      | true => rw [h] at hl; exact absurd rfl hl
    rw [makeX, if_pos hk', hk']
    exact ⟨rfl, (x1.trans x2).trans x3⟩
  have hk' : linkOk k = true := by
    cases h : linkOk k with
    | true => rfl
    | false => rw [h] at hl; exact absurd hl (by decide)
  refine (hk2.ext x3).rd ((hs2.ext x3).rd ((rfits_spec p0 p1).mono ?_))
  rintro v w4 ⟨rfl, x4⟩
  have x04 := ((x1.trans x2).trans x3).trans x4
  have hk4 := (hk2.ext x3).ext x4
  have hs4 := (hs2.ext x3).ext x4
  refine ⟨_, rfl, ifP_not.2 (ifP_of (fun hf => ?_) fun hf => ?_)⟩
  · have hany : anyWrong k s = false := by simpa using hf
    have er : makeX k s xs = if 65535 < (outB k s xs).length then .error 81 else .ok (outB k s xs) := by
      rw [makeX, if_neg (by rw [hk']; decide), if_neg (by rw [hany]; decide)]
    refine ⟨_, hs4.at_ 1 rfl, ifP_of (fun hwd => ?_) fun hwd => ?_⟩
    · have e0 : wideB s = [255, 3] := if_pos hwd
      refine letA fun w5 hw5 x5 s5 => ?_
      have l5 : IBytes w5 (some (newA w4)) 2 [255, 3] := lit_rd (f := Value.int .u8) hw5 rfl
      obtain ⟨A6, c6, w6, hr6, o6, k6⟩ := (Ob.nil (x04.trans x5)).app (ty := 26) (d := 2) l5 (by decide)
      refine ⟨_, w6, hr6, _, _, _, rfl, ?_⟩
      have key := rmake_zero (r := makeX k s xs) o6 ((Ob.nil (x04.trans x5)).stay k6 (hs4.ext x5) (by decide)) ((Ob.nil (x04.trans x5)).stay k6 (hk4.ext x5) (by decide)) hd hb (by decide) (by rw [er, outB, e0]; rfl)
      exact key
    · have e0 : wideB s = [] := if_neg (by rw [hwd]; decide)
      have key := rmake_zero (r := makeX k s xs) (Ob.nil x04) hs4 hk4 hd hb (by decide) (by rw [er, outB, e0])
      exact key
  · have hany : anyWrong k s = true := by simpa using hf
    rw [makeX, if_neg (by rw [hk']; decide), if_pos hany]
    exact ⟨rfl, x04⟩
end
end Go.Proofs.Ytjlbegfbdjhhdaa
