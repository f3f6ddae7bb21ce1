/- forge.Make, to its end. -/
import Derived.Test.YtjlbegfbdjhhdaaG5
namespace Go.Proofs.Ytjlbegfbdjhhdaa
open Go.Rd Go.RowKit
set_option linter.unusedVariables false
set_option linter.unusedSimpArgs false

theorem own_ne {w : World} {A : Option Addr} {c : Nat} {cs : List Value} {b : Nat} {vs : Array Value} {t : TypeId} (h : Own 26 1 w A c cs) (hb : w.heap[b]? = some (.cells vs t (0, 0))) (ht : t ≠ 26) : ¬ blk A b := fun hk => by
  obtain ⟨us, h1⟩ := Own.typ h hk
  rw [h1] at hb
  injection hb with hb
  injection hb with _ hb
  exact ht hb.symm

structure Mk (W w : World) (k : Lnk) (s : Sp) (bl bs : Nat) (A : Option Addr) (c : Nat) (ps : List Part) : Prop where
  s : SAt w bs s
  k : LAt w bl k
  p : Pts W w A c ps
  x : Ext W w
section
variable {W w w' : World} {A L : Option Addr} {c ln lc : Nat} {ps qs : List Part} {k : Lnk} {s : Sp} {xs : List Int} {bl bs : Nat}
theorem Mk.ext (h : Mk W w k s bl bs A c ps) (x : Ext w w') : Mk W w' k s bl bs A c ps := ⟨h.s.ext x, h.k.ext x, h.p.ext x, h.x.trans x⟩
theorem Mk.push (h : Mk W w k s bl bs A c ps) (hn : ps.length + qs.length ≤ 1000) {B : Option Addr} {d ty : Nat} (hB : RdC w B (qs.map Part.v)) (hq : ∀ p ∈ qs, (∃ c', OBytes w p.A c' p.xs) ∧ p.xs.length = p.n) :
    ∃ A' c' w', (Builtin.append_ #[51, 51] ty #[.slice A ps.length c, .slice B qs.length d]).run Try.prog w = .ok (.slice A' (ps.length + qs.length) c') w' ∧ Mk W w' k s bl bs A' c' (ps ++ qs) ∧ Keep (blk A) w w' := by
  obtain ⟨A', c', w', hr, hp, k', x'⟩ := h.p.push h.x hn (ty := ty) (d := d) hB hq
  exact ⟨A', c', w', hr, ⟨k'.heap h.s (own_ne h.p.own h.s (by decide)), k'.heap h.k (own_ne h.p.own h.k (by decide)), hp, x'⟩, k'⟩
theorem lit_parts {u u' : World} {qs : List Part} {cs : Array Value} (h : u'.heap[u.heap.size]? = some (.cells cs 26 (0, 0))) (e : cs = (qs.map Part.v).toArray) : RdC u' (some (newA u)) (qs.map Part.v) := by
  have : Own 26 1 u' (some (newA u)) qs.length (qs.map Part.v) := .inr ⟨_, [], rfl, by rw [h, e, List.append_nil], by simp⟩
  exact this.cells

variable {r : Except Int (List Int)}
theorem make_five (h : Mk W w k s bl bs A c ps) (hn : ps.length ≤ 50) (hl : Ld W w L ln xs) (hb : ln ≤ 140737488351300) (hf : (flat ps).length ≤ 1000) (hr : r = if 65535 < (flat ps ++ ((if ipB s = true then hdrB s xs.length else []) ++ xs)).length then .error 81 else .ok (flat ps ++ ((if ipB s = true then hdrB s xs.length else []) ++ xs))) :
    forge_Make.J5 (MakeOf W r) ⟨bs, 0, none⟩ A ps.length c L ln lc w := by
  have lx := (hl.rd h.x).len
  refine h.s.rd (gip_spec.mono ?_)
  rintro v w1 ⟨rfl, x1⟩
  have h1 := h.ext x1
  have l1 := hl.ext x1
  refine ⟨_, rfl, ifP_of (fun hi => h1.s.rd (header_spec.mono ?_)) fun hi => ?_⟩
  · have e0 : (if ipB s = true then hdrB s xs.length else []) = hdrB s xs.length := if_pos hi
    rw [e0] at hr
    rintro v w2 ⟨B, bc, rfl, o2, ll2, b2, x2⟩
    have h2 := h1.ext x2
    refine ⟨_, _, _, rfl, letA fun w3 hw3 x3 s3 => ?_⟩
    have h3 := h2.ext x3
    obtain ⟨A', c', w4, hrn, h4, k4⟩ := h3.push (qs := [⟨B, hdrN s, bc, hdrB s ln⟩]) (ty := 51) (d := 1) (by simp; omega) (lit_parts hw3 rfl) (fun p hp => by rw [List.mem_singleton.1 hp]; exact ⟨⟨_, o2.ext x3⟩, ll2⟩)
    refine ⟨_, w4, hrn, _, _, _, rfl, ?_⟩
    have e1 : ps.length + [(⟨B, hdrN s, bc, hdrB s ln⟩ : Part)].length = (ps ++ [(⟨B, hdrN s, bc, hdrB s ln⟩ : Part)]).length := by simp
    rw [e1]
    have hN : hdrN s ≤ 40 := by unfold hdrN; split <;> omega
    refine make_six h4.p h4.x (by simp; omega) (((l1.ext x2).ext x3).keep h3.p k4) (out := flat ps ++ (hdrB s xs.length ++ xs)) ?_ ?_ hr
    · rw [flat_app, flat_one, lx, List.append_assoc]
    · simp only [List.length_append]
      rw [lx]
      omega
  · have e0 : (if ipB s = true then hdrB s xs.length else []) = [] := if_neg (by rw [hi]; decide)
    rw [e0, List.nil_append] at hr
    exact make_six h1.p h1.x (by omega) l1 rfl (by rw [List.length_append]; omega) hr

theorem make_three (h : Mk W w k s bl bs A c ps) (hn : ps.length ≤ 50) (hd : IBytes W s.dA s.dn xs) (hb : s.dn ≤ 140737488351232) (hf : (flat ps).length ≤ 1000) (hr : r = if 65535 < (flat ps ++ (ipHB s xs ++ loadB s xs)).length then .error 81 else .ok (flat ps ++ (ipHB s xs ++ loadB s xs))) :
    forge_Make.J3 (MakeOf W r) ⟨bs, 0, none⟩ A ps.length c w := by
  refine ⟨_, _, _, h.s.at_ 43 rfl, _, h.s.at_ 40 rfl, ifP_of (fun hp => ?_) fun hp => ?_⟩
  · have el : loadB s xs = fieldB 2 s.fr ++ (fieldB 2 s.to ++ xs) := if_pos hp
    refine ⟨fun u => SAt u bs s, h.s.ext (Ext.drew w), letD fun w1 _ x1 => ⟨_, fun u hu => SAt.at_ hu 41 rfl, _, fun u hu => SAt.at_ hu 42 rfl, _, _, _, fun u hu => SAt.at_ hu 43 rfl, gnum_spec.mono ?_⟩⟩
    rintro v w2 ⟨B2, c2, rfl, o2, l2, b2, x2⟩
    refine ⟨_, _, _, rfl, (h.s.ext x1).ext x2, gnum_spec.mono ?_⟩
    rintro v w3 ⟨B3, c3, rfl, o3, l3, b3, x3⟩
    refine ⟨_, _, _, rfl, ((h.s.ext x1).ext x2).ext x3, letA fun w4 h4 x4 s4 => ?_⟩
    have xx := (x1.trans x2).trans (x3.trans x4)
    have rd := lit_rd (f := Part.v) (w := w3) (xs := [⟨B2, 2, c2, fieldB 2 s.fr⟩, ⟨B3, 2, c3, fieldB 2 s.to⟩, ⟨s.dA, s.dn, s.dc, xs⟩]) h4 rfl
    have hdl := hd.len
    refine (join_spec rd (by show 3 ≤ 140737488355328; decide) (by
      intro p hp
      simp only [List.mem_cons, List.not_mem_nil, or_false] at hp
      rcases hp with rfl | rfl | rfl
      · exact ((o2.ext x3).ext x4).rd l2
      · exact (o3.ext x4).rd l3
      · exact hd.ext (h.x.trans xx)) (by simp [total]; omega)).mono ?_
    rintro v w5 ⟨B5, c5, rfl, o5, l5, b5, x5⟩
    have e5 : flat [(⟨B2, 2, c2, fieldB 2 s.fr⟩ : Part), ⟨B3, 2, c3, fieldB 2 s.to⟩, ⟨s.dA, s.dn, s.dc, xs⟩] = loadB s xs := by rw [el]; simp [flat]
    rw [e5] at o5 l5
    refine ⟨_, _, _, rfl, ?_⟩
    have := make_five (r := r) (lc := c5) ((h.ext xx).ext x5) hn (.inr ⟨⟨_, o5⟩, l5⟩) (by simp [total]; omega) hf (by rw [hr]; rfl)
    exact this
  · have el : loadB s xs = xs := if_neg (by rw [hp]; decide)
    refine make_five h hn (.inl hd) (by omega) hf ?_
    rw [hr, ipHB, el]

theorem make_two (h : Mk W w k s bl bs A c ps) (hn : ps.length ≤ 40) (hd : IBytes W s.dA s.dn xs) (hb : s.dn ≤ 140737488351232) (hf : (flat ps).length ≤ 900) (hr : r = if 65535 < (flat ps ++ (sayB k s ++ (ipHB s xs ++ loadB s xs))).length then .error 81 else .ok (flat ps ++ (sayB k s ++ (ipHB s xs ++ loadB s xs)))) :
    forge_Make.J2 (MakeOf W r) ⟨bl, 0, none⟩ ⟨bs, 0, none⟩ A ps.length c w := by
  refine h.s.rd (says_spec.mono ?_)
  rintro v w1 ⟨rfl, x1⟩
  have h1 := h.ext x1
  refine ⟨_, rfl, ifP_of (fun hi => h1.k.rd ⟨_, h1.s.at0, _, h1.s.at_ 6 rfl, gproto_spec.mono ?_⟩) fun hi => ?_⟩
  · have e0 : sayB k s = protoB k s.pl s.pr := if_pos hi
    rintro v w2 ⟨B, bc, rfl, o2, ll2, b2, x2⟩
    have h2 := h1.ext x2
    refine ⟨_, _, _, rfl, letA fun w3 hw3 x3 s3 => ?_⟩
    have h3 := h2.ext x3
    obtain ⟨A', c', w4, hrn, h4, k4⟩ := h3.push (qs := [⟨B, (protoB k s.pl s.pr).length, bc, protoB k s.pl s.pr⟩]) (ty := 51) (d := 1) (by simp; omega) (lit_parts hw3 rfl) (fun p hp => by rw [List.mem_singleton.1 hp]; exact ⟨⟨_, o2.ext x3⟩, ll2⟩)
    refine ⟨_, w4, hrn, _, _, _, rfl, ?_⟩
    have e1 : ps.length + [(⟨B, (protoB k s.pl s.pr).length, bc, protoB k s.pl s.pr⟩ : Part)].length = (ps ++ [(⟨B, (protoB k s.pl s.pr).length, bc, protoB k s.pl s.pr⟩ : Part)]).length := by simp
    rw [e1]
    have hpl := protoB_length k s.pl s.pr
    have ef : flat (ps ++ [(⟨B, (protoB k s.pl s.pr).length, bc, protoB k s.pl s.pr⟩ : Part)]) = flat ps ++ sayB k s := by rw [flat_app, flat_one, e0]
    refine make_three h4 (by simp; omega) hd hb (by rw [ef, List.length_append, e0]; omega) ?_
    rw [hr, ef, List.append_assoc]
  · have e0 : sayB k s = [] := if_neg (by rw [hi]; decide)
    rw [e0, List.nil_append] at hr
    exact make_three h1 (by omega) hd hb (by omega) hr

theorem make_zero_ (h : Mk W w k s bl bs A c ps) (hn : ps.length ≤ 10) (hd : IBytes W s.dA s.dn xs) (hb : s.dn ≤ 140737488351232) (hf : (flat ps).length ≤ 800) (hr : r = if 65535 < (flat ps ++ (multiB k s ++ (sayB k s ++ (ipHB s xs ++ loadB s xs)))).length then .error 81 else .ok (flat ps ++ (multiB k s ++ (sayB k s ++ (ipHB s xs ++ loadB s xs))))) :
    forge_Make.J0 (MakeOf W r) ⟨bl, 0, none⟩ ⟨bs, 0, none⟩ A ps.length c w := by
  refine ⟨_, h.s.at_ 2 rfl, ifP_of (fun hm => ?_) fun hm => ?_⟩
  · have e0 : multiB k s = protoB k s.pl 61 ++ headB k s.bg s.en s.sq := if_pos hm
    refine ⟨fun u => SAt u bs s ∧ LAt u bl k, ⟨h.s.ext (Ext.drew w), h.k.ext (Ext.drew w)⟩, letD fun w1 _ x1 => ?_⟩
    have h1 := h.ext x1
    refine LAt.rdS (fun u hu => hu.2) ⟨_, fun u hu => hu.1.at0, LAt.rdS (fun u hu => hu.2) (SAt.rdS (fun u hu => hu.1) (gproto_spec.mono ?_))⟩
    rintro v w2 ⟨B2, c2, rfl, o2, l2, b2, x2⟩
    have h2 := h1.ext x2
    refine ⟨_, _, _, rfl, ⟨h2.s, h2.k⟩, piece_spec.mono ?_⟩
    rintro v w3 ⟨B3, c3, rfl, o3, l3, b3, x3⟩
    have h3 := h2.ext x3
    refine ⟨_, _, _, rfl, letA fun w4 hw4 x4 s4 => ?_⟩
    have h4 := h3.ext x4
    have hsz : (headSize k).toNat ≤ 4 := by unfold headSize; split <;> decide
    obtain ⟨A', c', w5, hrn, h5, k5⟩ := h4.push (qs := [⟨B2, (protoB k s.pl 61).length, c2, protoB k s.pl 61⟩, ⟨B3, (headSize k).toNat, c3, headB k s.bg s.en s.sq⟩]) (ty := 51) (d := 2) (by simp; omega) (lit_parts hw4 rfl) (fun p hp => by
      simp only [List.mem_cons, List.not_mem_nil, or_false] at hp
      rcases hp with rfl | rfl
      · exact ⟨⟨_, (o2.ext x3).ext x4⟩, l2⟩
      · exact ⟨⟨_, o3.ext x4⟩, l3⟩)
    refine ⟨_, w5, hrn, _, _, _, rfl, ?_⟩
    have e1 : ps.length + [(⟨B2, (protoB k s.pl 61).length, c2, protoB k s.pl 61⟩ : Part), ⟨B3, (headSize k).toNat, c3, headB k s.bg s.en s.sq⟩].length = (ps ++ [(⟨B2, (protoB k s.pl 61).length, c2, protoB k s.pl 61⟩ : Part), ⟨B3, (headSize k).toNat, c3, headB k s.bg s.en s.sq⟩]).length := by simp
    rw [e1]
    have hpl := protoB_length k s.pl 61
    have ef : flat (ps ++ [(⟨B2, (protoB k s.pl 61).length, c2, protoB k s.pl 61⟩ : Part), ⟨B3, (headSize k).toNat, c3, headB k s.bg s.en s.sq⟩]) = flat ps ++ multiB k s := by rw [flat_app, e0]; simp [flat]
    have l3' : (headB k s.bg s.en s.sq).length = (headSize k).toNat := l3
    have := make_two (r := r) h5 (by simp; omega) hd hb (by rw [ef, List.length_append, e0, List.length_append]; omega) (by rw [hr, ef, List.append_assoc])
    exact this
  · have e0 : multiB k s = [] := if_neg (by rw [hm]; decide)
    rw [e0, List.nil_append] at hr
    exact make_two h (by omega) hd hb (by omega) hr
end
end Go.Proofs.Ytjlbegfbdjhhdaa
