/- The document's forge: carried. -/
import Derived.Test.YtjlbegfbdjhhdaaG10
namespace Go.Proofs.Ytjlbegfbdjhhdaa
open Go.Rd Go.RowKit
set_option linter.unusedVariables false
set_option linter.unusedSimpArgs false

section
variable {W w w' : World} {A B : Option Addr} {n c m d : Nat} {ys zs : List Int} {k : Lnk} {s : Sp} {bs bl : Nat} {xs : List Int}
theorem carried_one {pre : List Int} (h : Ob W w A n c pre) (hs : SAt w bs s) (hd : IBytes W s.dA s.dn xs) (hb : s.dn ≤ 140737488351232) (hn : n ≤ 4) (he : pre ++ xs = loadB s xs) : ref8_carried.J1 (Cr W (ipHB s xs ++ loadB s xs)) ⟨bs, 0, none⟩ A n c w := by
  obtain ⟨A2, c2, w2, hr, o2, k2⟩ := h.app (ty := 26) (d := s.dc) (hd.ext h.x) (by omega)
  rw [he] at o2
  have hs2 : SAt w2 bs s := h.stay k2 hs (by decide)
  exact ⟨_, _, _, hs.at_ 43 rfl, _, w2, hr, _, _, _, rfl, _, hs2.at_ 2 rfl, ifP_of (fun hm => ⟨_, hs2.at_ 3 rfl, carried_two o2 hs2 (by omega) (by simp [saidB, hm])⟩) fun hm => carried_two o2 hs2 (by omega) (by simp [saidB, hm])⟩
theorem carried_spec (hd : IBytes W s.dA s.dn xs) (hb : s.dn ≤ 140737488351232) : Run Try.prog 22 #[s.v] W (Cr W (ipHB s xs ++ loadB s xs)) := by
  refine ref8_carried.ok (letA fun w1 h1 x1 s1 => ?_)
  have hs : SAt w1 W.heap.size s := h1
  refine ⟨_, hs.at_ 40 rfl, ifP_of (fun hp => ?_) fun hp => ?_⟩
  · refine ⟨fun u => SAt u W.heap.size s, hs.ext (Ext.drew w1), letD fun w2 _ x2 => ⟨_, fun u hu => SAt.at_ hu 41 rfl, _, fun u hu => SAt.at_ hu 42 rfl, (rbytes_spec (by omega)).mono ?_⟩⟩
    intro v w3 hv
    obtain ⟨A3, c3, rfl, o3⟩ := Ob.of hv (x1.trans x2)
    have x3 : Ext w2 w3 := by obtain ⟨_, _, _, _, _, _, x⟩ := hv; exact x
    refine ⟨_, _, _, rfl, (hs.ext x2).ext x3, (rbytes_spec (by omega)).mono ?_⟩
    intro v w4 hv
    obtain ⟨A4, c4, rfl, o4⟩ := Ob.of hv o3.x
    have x4 : Ext w3 w4 := by obtain ⟨_, _, _, _, _, _, x⟩ := hv; exact x
    obtain ⟨A5, c5, w5, hr, o5, k5⟩ := (o3.ext x4).app (ty := 26) (d := c4) o4.rd (by decide)
    refine ⟨_, _, _, rfl, _, w5, hr, _, _, _, rfl, carried_one o5 ((o3.ext x4).stay k5 (((hs.ext x2).ext x3).ext x4) (by decide)) hd hb (by decide) ?_⟩
    rw [loadB, if_pos hp, List.append_assoc]
  · have key := carried_one (Ob.nil x1) hs hd hb (by decide) (by rw [loadB, if_neg (by rw [hp]; decide), List.nil_append])
    exact key
end
end Go.Proofs.Ytjlbegfbdjhhdaa
