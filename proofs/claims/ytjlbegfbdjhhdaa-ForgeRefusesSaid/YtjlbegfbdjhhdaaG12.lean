/- The document's forge: Make. -/
import Derived.Test.YtjlbegfbdjhhdaaG11
namespace Go.Proofs.Ytjlbegfbdjhhdaa
open Go.Rd Go.RowKit
set_option linter.unusedVariables false
set_option linter.unusedSimpArgs false

section
variable {W w w' : World} {A B : Option Addr} {n c m d : Nat} {k : Lnk} {s : Sp} {bs bl : Nat} {xs pre : List Int} {r : Except Int (List Int)}
theorem load_le : xs.length ≤ (loadB s xs).length := by
  unfold loadB
  split
  · simp only [List.length_append]; omega
  · omega
theorem hdr_le {j : Int} : (hdrB s j).length ≤ 40 := by
  unfold hdrB
  split <;> simp [fieldB_length]
theorem iph_le : (ipHB s xs).length ≤ 40 := by
  unfold ipHB
  split
  · exact hdr_le
  · simp
theorem load_ge : (loadB s xs).length ≤ xs.length + 4 := by
  unfold loadB
  split
  · simp [fieldB_length]; omega
  · omega
theorem rmake_three (h : Ob W w A n c pre) (hs : SAt w bs s) (hd : IBytes W s.dA s.dn xs) (hb : s.dn ≤ 140737488351232) (hn : n ≤ 100) (hr : r = if 65535 < (pre ++ (ipHB s xs ++ loadB s xs)).length then .error 81 else .ok (pre ++ (ipHB s xs ++ loadB s xs))) :
    ref8_Make.J3 (MakeOf W r) ⟨bs, 0, none⟩ A n c w := by
  have hl := hd.len
  have h1 := load_le (s := s) (xs := xs)
  have h2 := iph_le (s := s) (xs := xs)
  have h3 := load_ge (s := s) (xs := xs)
  refine ⟨_, _, _, hs.at_ 43 rfl, ifP_decide.2 ⟨fun hbig => ?_, fun _ => hs.rd ((carried_spec (hd.ext h.x) hb).mono ?_)⟩⟩
  · rw [hr, if_pos (by simp only [List.length_append]; omega)]
    exact ⟨rfl, h.x⟩
  rintro v w2 ⟨A2, n2, c2, rfl, o2⟩
  have hn2 := o2.len
  rw [List.length_append] at hn2
  obtain ⟨A3, c3, w3, hr3, o3, k3⟩ := (h.ext o2.x).app (ty := 26) (d := c2) o2.rd (by omega)
  have hlen := o3.len
  refine ⟨_, _, _, rfl, _, w3, hr3, _, _, _, rfl, ifP_decide.2 ⟨fun hbig => ?_, fun hsm => ?_⟩⟩
  · rw [hr, if_pos (by omega)]
    exact ⟨rfl, o3.x⟩
  · rw [hr, if_neg (by omega)]
    exact ⟨A3, c3, by rw [hlen], o3.own, o3.new, o3.x⟩
theorem rmake_two {t : Bool} (h : Ob W w A n c pre) (hs : SAt w bs s) (hk : LAt w bl k) (hd : IBytes W s.dA s.dn xs) (hb : s.dn ≤ 140737488351232) (hn : n ≤ 90) (ht : t = saidB s) (hr : r = if 65535 < (pre ++ (sayB k s ++ (ipHB s xs ++ loadB s xs))).length then .error 81 else .ok (pre ++ (sayB k s ++ (ipHB s xs ++ loadB s xs)))) :
    ref8_Make.J2 (MakeOf W r) ⟨bl, 0, none⟩ ⟨bs, 0, none⟩ A n c t w := by
  refine ifP_of (fun h1 => hk.rd ⟨_, hs.at0, _, hs.at_ 6 rfl, field_spec.mono ?_⟩) fun h1 => ?_
  · have e0 : sayB k s = protoB k s.pl s.pr := if_pos (by rw [← ht]; exact h1)
    intro v w2 hv
    obtain ⟨A2, c2, rfl, o2⟩ := Ob.of hv h.x
    have x2 : Ext w w2 := by obtain ⟨_, _, _, _, _, _, x⟩ := hv; exact x
    have hpl := protoB_length k s.pl s.pr
    obtain ⟨A3, c3, w3, hr3, o3, k3⟩ := (h.ext x2).app (ty := 26) (d := c2) o2.rd (by omega)
    refine ⟨_, _, _, rfl, _, w3, hr3, _, _, _, rfl, rmake_three o3 ((h.ext x2).stay k3 (hs.ext x2) (by decide)) hd hb (by omega) ?_⟩
    rw [hr, e0, List.append_assoc]
  · have e0 : sayB k s = [] := if_neg (by rw [← ht, h1]; decide)
    rw [e0, List.nil_append] at hr
    exact rmake_three h hs hd hb (by omega) hr
theorem rmake_one (h : Ob W w A n c pre) (hs : SAt w bs s) (hk : LAt w bl k) (hd : IBytes W s.dA s.dn xs) (hb : s.dn ≤ 140737488351232) (hn : n ≤ 90) (hr : r = if 65535 < (pre ++ (sayB k s ++ (ipHB s xs ++ loadB s xs))).length then .error 81 else .ok (pre ++ (sayB k s ++ (ipHB s xs ++ loadB s xs)))) :
    ref8_Make.J1 (MakeOf W r) ⟨bl, 0, none⟩ ⟨bs, 0, none⟩ A n c w :=
  ⟨_, hs.at_ 2 rfl, ifP_not.2 (ifP_of (fun hm => ⟨_, hs.at_ 3 rfl, rmake_two h hs hk hd hb hn (by simp [saidB, hm]) hr⟩) fun hm => rmake_two h hs hk hd hb hn (by simp [saidB, hm]) hr)⟩
end
end Go.Proofs.Ytjlbegfbdjhhdaa
