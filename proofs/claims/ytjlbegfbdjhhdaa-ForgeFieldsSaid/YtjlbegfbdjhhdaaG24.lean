/- The statement ForgeFields. -/
import Derived.Test.YtjlbegfbdjhhdaaG23
namespace Go.Proofs.Ytjlbegfbdjhhdaa
open Go.Rd Go.RowKit
set_option linter.unusedVariables false
set_option linter.unusedSimpArgs false

section
variable {W : World} {k : Lnk} {s : Sp} {xs : List Int}
theorem be_fieldB2 {v : Int} (h0 : 0 ≤ v) (h1 : v ≤ 65535) : be 0 (fieldB 2 v) = v := by
  rw [fieldB_two, be_two (by omega) (by omega)]
  omega
theorem and_low {v : Int} (h0 : 0 ≤ v) (h1 : v ≤ 65535) : andI .u32 v 65535 = v := by
  obtain ⟨n, rfl⟩ := Int.eq_ofNat_of_zero_le h0
  rw [show (65535 : Int) = ((65535 : Nat) : Int) from rfl, andI_nat (by omega) (by decide)]
  have := Nat.and_two_pow_sub_one_of_lt_two_pow (n := 16) (x := n) (by omega)
  exact congrArg Int.ofNat this
/-- The parts of the header of IP. -/
structure Parts (s : Sp) (L size mid lg : Nat) (c : Int) : Prop where
  eq : ∃ a m : List Int, a.length = size ∧ m.length = mid ∧ hdrB s (L : Int) = a ++ (fieldB 2 c ++ (m ++ ((List.range lg).map s.sr ++ (List.range lg).map s.ds)))
theorem parts4 {L : Nat} (h : s.pr = 33) (hL : L ≤ 65535) : Parts s L 2 8 4 (20 + L) := by
  refine ⟨[69, 0], [0, 0, 0, 0, 64, IntKind.u8.wrap s.nx, 0, 0], rfl, rfl, ?_⟩
  rw [hdrB, if_pos h, wrap_i64 (by omega) (by omega), wrap_u32 (by omega) (by omega)]
theorem parts6 {L : Nat} (h : s.pr ≠ 33) (hL : L ≤ 65535) : Parts s L 4 2 16 L := by
  refine ⟨[96, 0, 0, 0], [IntKind.u8.wrap s.nx, 64], rfl, rfl, ?_⟩
  rw [hdrB, if_neg h, wrap_u32 (by omega) (by omega)]

theorem fields_load {w : World} {bs bv c : Nat} {A : Option Addr} (x : Go.Rd.Ext W w) (hs : SAt w bs s) (hv : VAt w bv (lookM k s xs)) (t : Taken k s) (ok : s.ok) (hb : IBytes w A (outB k s xs).length (outB k s xs)) (hc : (outB k s xs).length ≤ c) (hn : (outB k s xs).length ≤ 65535) (hi : ipB s = true) {P : Nat}
    (hP : ((P : Nat) : Int) = (lookM k s xs).l) (hd : (outB k s xs).drop P = loadB s xs) (hl : xs.length = s.dn) :
    law8_ForgeFields.J8 (Good W) ⟨bs, 0, none⟩ A (outB k s xs).length c ⟨bv, 0, none⟩ w := by
  have aw : ∀ w', Go.Rd.Ext w w' → Run Try.prog 14 #[] w' fun v w' => ∃ t : Bool, v = .bool t ∧ Good W (.bool t) w' := by
    intro w' x'
    refine gawake_spec.mono ?_
    rintro v w1 ⟨rfl, x1⟩
    exact ⟨_, rfl, rfl, Fr.of_ext ((x.trans x').trans x1)⟩
  have hL := load_length hl
  have hlen := congrArg List.length hd
  rw [List.length_drop] at hlen
  refine ⟨_, hs.at_ 40 rfl, ifP_of (fun hpo => ?_) fun hpo => aw _ (Go.Rd.Ext.refl w)⟩
  rw [if_pos hpo] at hL
  have d1 : (outB k s xs).drop P = fieldB 2 s.fr ++ (fieldB 2 s.to ++ xs) := by rw [hd, loadB, if_pos hpo]
  have d2 : (outB k s xs).drop (P + 2) = fieldB 2 s.to ++ xs := at_next d1
  have g1 : getV (outB k s xs) (P : Int) 2 = s.fr := by rw [getV_at d1 rfl, be_fieldB2 ok.fr.1 t.ft.1]
  have g2 : getV (outB k s xs) ((P + 2 : Nat) : Int) 2 = s.to := by rw [getV_at d2 rfl, be_fieldB2 ok.to.1 t.ft.2]
  refine ⟨_, hv.at9.l, (get_spec hb hc (by omega)).mono ?_⟩
  rintro v w1 ⟨rfl, rfl⟩
  rw [← hP, if_pos (fitsB_iff.2 ⟨by omega, by omega, by omega⟩), g1]
  refine ⟨_, _, rfl, _, hv.at9.l, ?_⟩
  have ew : IntKind.i64.wrap ((lookM k s xs).l + 2) = ((P + 2 : Nat) : Int) := by
    rw [← hP, wrap_i64 (by omega) (by omega)]
    rfl
  rw [ew]
  refine (get_spec hb hc (by omega)).mono ?_
  rintro v w2 ⟨rfl, rfl⟩
  rw [if_pos (fitsB_iff.2 ⟨by omega, by omega, by omega⟩), g2]
  exact ⟨_, _, rfl, _, hs.at_ 41 rfl, ifP_eq rfl ⟨_, hs.at_ 42 rfl, ifP_eq rfl (aw _ (Go.Rd.Ext.refl _))⟩⟩

theorem fields_head {w : World} {bs bv c : Nat} {A : Option Addr} (x : Go.Rd.Ext W w) (hs : SAt w bs s) (hv : VAt w bv (lookM k s xs)) (t : Taken k s) (ok : s.ok) (hb : IBytes w A (outB k s xs).length (outB k s xs)) (hc : (outB k s xs).length ≤ c) (hn : (outB k s xs).length ≤ 65535) (hi : ipB s = true)
    (hd : (outB k s xs).drop (placeB k s) = hdrB s (loadB s xs).length ++ loadB s xs) (hl : xs.length = s.dn) {size mid lg : Nat} {C : Int} (hp : Parts s (loadB s xs).length size mid lg C) (hlg : lg ≤ 16) (hH : size + 2 + mid + lg + lg = hdrN s) (c0 : 0 ≤ C) (c1 : C ≤ 65535) (h1 : 1 ≤ placeB k s) (hC : (hdrN s : Int) ≤ C + 40) {long src sz count : Int} (e1 : long = (lg : Nat)) (e2 : src = ((size + 2 + mid : Nat) : Int)) (e3 : sz = (size : Nat)) (e4 : count = C) (hN : hdrN s ≤ 40 ∧ 20 ≤ hdrN s) (h40 : placeB k s + 40 ≤ (outB k s xs).length + 20):
    law8_ForgeFields.J4 (Good W) ⟨bs, 0, none⟩ A (outB k s xs).length c ⟨bv, 0, none⟩ ((placeB k s : Nat) : Int) long src sz count w := by
  subst e1; subst e2; subst e3; subst e4
  obtain ⟨a, m, la, lm, he⟩ := hp.eq
  have hO := out_length (k := k) (s := s) (xs := xs)
  have hI := ipH_length (s := s) (xs := xs)
  rw [if_pos hi] at hI
  generalize hP : placeB k s = P at *
  rw [he, List.append_assoc] at hd
  have d1 := at_next hd
  rw [la, List.append_assoc] at d1
  have d2 := at_next d1
  rw [show (fieldB 2 count).length = 2 from rfl, List.append_assoc] at d2
  have d3 := at_next d2
  rw [lm, List.append_assoc] at d3
  have d4 := at_next d3
  rw [List.length_map, List.length_range] at d4
  have d5 := at_next d4
  rw [List.length_map, List.length_range] at d5
  have q1 : IntKind.i64.wrap ((P : Int) + 40) = ((P + 40 : Nat) : Int) := wrap_i64 (by omega) (by omega)
  have q2 : IntKind.i64.wrap (((outB k s xs).length : Int) + 20) = (((outB k s xs).length + 20 : Nat) : Int) := wrap_i64 (by omega) (by omega)
  have q3 : IntKind.i64.wrap ((P : Int) + ((size + 2 + mid : Nat) : Int)) = ((P + (size + 2 + mid) : Nat) : Int) := wrap_i64 (by omega) (by omega)
  have q4 : IntKind.i64.wrap (2 * ((lg : Nat) : Int)) = ((2 * lg : Nat) : Int) := wrap_i64 (by omega) (by omega)
  have q5 : IntKind.i64.wrap (((P + (size + 2 + mid) : Nat) : Int) + ((2 * lg : Nat) : Int)) = ((P + (size + 2 + mid) + 2 * lg : Nat) : Int) := wrap_i64 (by omega) (by omega)
  have q6 : IntKind.i64.wrap ((P : Int) + (size : Int)) = ((P + size : Nat) : Int) := wrap_i64 (by omega) (by omega)
  have q7 : IntKind.i64.wrap (((P + (size + 2 + mid) : Nat) : Int) + (lg : Int)) = ((P + (size + 2 + mid) + lg : Nat) : Int) := wrap_i64 (by omega) (by omega)
  unfold law8_ForgeFields.J4
  rw [q1, q2, q3, q4, q5]
  refine ifP_no (by omega) (ifP_no (by omega) (ifP_f (decide_eq_false (by omega)) ?_))
  unfold law8_ForgeFields.J6
  rw [q6]
  refine (get_spec hb hc (by omega)).mono ?_
  rintro v w1 ⟨rfl, rfl⟩
  have g1 : getV (outB k s xs) ((P + size : Nat) : Int) 2 = count := by rw [getV_at d1 rfl, be_fieldB2 c0 c1]
  rw [if_pos (fitsB_iff.2 ⟨by omega, by omega, by omega⟩), g1]
  refine ⟨_, _, rfl, letD fun w2 _ x2 => ?_⟩
  have hs2 := hs.ext x2
  have s1 := IBytes.sub (hb.ext x2) (i := P + (size + 2 + mid)) (j := P + (size + 2 + mid) + lg) (by omega) (by omega) hc
  have s2 := IBytes.sub (hb.ext x2) (i := P + (size + 2 + mid) + lg) (j := P + (size + 2 + mid) + 2 * lg) (by omega) (by omega) hc
  rw [q3, q4, q7, q5, wrap_u32 c0 (by omega), and_low c0 c1]
  simp only [Int.toNat_natCast]
  refine ifP_nne rfl ⟨by omega, by omega, by omega, by omega, by omega, by omega, (sameBytes_spec s1 (srcBytes hs2 hlg) (by omega)).mono ?_⟩
  rintro v w3 ⟨rfl, x3⟩
  have l1 : ((outB k s xs).drop (P + (size + 2 + mid))).take (P + (size + 2 + mid) + lg - (P + (size + 2 + mid))) = (List.range lg).map s.sr := by
    rw [show P + (size + 2 + mid) = P + size + 2 + mid by omega, d3]
    exact List.take_left' (by rw [List.length_map, List.length_range]; omega)
  have l2 : ((outB k s xs).drop (P + (size + 2 + mid) + lg)).take (P + (size + 2 + mid) + 2 * lg - (P + (size + 2 + mid) + lg)) = (List.range lg).map s.ds := by
    rw [show P + (size + 2 + mid) + lg = P + size + 2 + mid + lg by omega, d4]
    exact List.take_left' (by rw [List.length_map, List.length_range]; omega)
  refine ⟨_, rfl, ifP_f (by rw [l1]; simp) ⟨by omega, by omega, by omega, by omega, by omega, by omega, (sameBytes_spec (s2.ext x3) (dstBytes (hs2.ext x3) hlg) (by omega)).mono ?_⟩⟩
  rintro v w4 ⟨rfl, x4⟩
  have x24 := (x2.trans x3).trans x4
  refine ⟨_, rfl, ifP_f (by rw [l2]; simp) (fields_load (x.trans x24) (hs.ext x24) (x24.heap hv) t ok (hb.ext x24) hc hn hi (P := P + (size + 2 + mid) + lg + lg) ?_ ?_ hl)⟩
  · simp only [lookM, hi, if_true, hP]
    rw [← hH]
    omega
  · rw [show P + (size + 2 + mid) + lg + lg = P + size + 2 + mid + lg + lg by omega, d5]

theorem ForgeFields_main {W : World} (hd : IBytes W s.dA s.dn xs) (hx : ∀ x ∈ xs, 0 ≤ x ∧ x ≤ 255) (hb : s.dn ≤ 140737488351232) (ok : s.ok) : Run Try.prog 7 #[.agg #[.bool k.ac, .bool k.pf, .int .i64 k.mp], s.v] W (Good W) := by
  have hl := hd.len
  refine law8_ForgeFields.ok (letA fun w1 h1 x1 s1 => letA fun w2 h2 x2 s2 => ?_)
  have hk2 : LAt w2 W.heap.size k := x2.heap h1
  have hs2 : SAt w2 w1.heap.size s := h2
  have x02 := x1.trans x2
  let S : World → Prop := fun u => LAt u W.heap.size k ∧ SAt u w1.heap.size s
  have hS : ∀ u u', S u → Go.Rd.Ext u u' → S u' := fun u u' h x => ⟨h.1.ext x, h.2.ext x⟩
  refine ⟨S, hS _ _ ⟨hk2, hs2⟩ (Ext.drew w2), letD fun w4 _ x4 => LAt.rdS (k := k) (fun u hu => hu.1) (SAt.rdS (s := s) (fun u hu => hu.2) ((lend_spec (hd.ext (x02.trans x4)) hb).mono ?_))⟩
  rintro v w5 ⟨A5, c5, rfl, o5, b5, x5⟩
  have x45 := x4.trans x5
  refine ⟨_, _, _, _, _, _, _, _, _, _, _, _, _, _, _, _, _, _, _, _, _, _, _, _, _, _, _, _, _, _, _, _, _, _, _, _, _, _, _, _, _, _, _, _, _, _, rfl, hS _ _ ⟨hk2, hs2⟩ x45, (make_spec (k := k) (s := lentS s A5 c5) (lent_read o5 hl) hb ok.pr.1 ok.pr.2).mono ?_⟩
  intro v w6 hv
  rw [make_lent] at hv
  have x04 := x02.trans x45
  obtain ⟨A6, c6, rfl, o6, b6, x6⟩ := hv.form
  have x06 := x04.trans x6
  have s6 : S w6 := hS _ _ ⟨hk2, hs2⟩ (x45.trans x6)
  have aw : law8_ForgeFields.J1 (Good W) ⟨W.heap.size, 0, none⟩ ⟨w1.heap.size, 0, none⟩ A6 (ysR (makeX k s xs)).length c6 true w6 := by
    refine ifP_t rfl (gawake_spec.mono ?_)
    rintro v w7 ⟨rfl, x7⟩
    exact ⟨_, rfl, rfl, Fr.of_ext (x06.trans x7)⟩
  have main : erR (makeX k s xs) = 0 → ipB s = true → law8_ForgeFields.J1 (Good W) ⟨W.heap.size, 0, none⟩ ⟨w1.heap.size, 0, none⟩ A6 (ysR (makeX k s xs)).length c6 false w6 := by
    intro he hi
    have hm := erR_zero he
    obtain ⟨hk, hw, hy16, hy⟩ := make_ok hm
    have t := taken hw
    rw [hy] at hm hy16 o6 ⊢
    have hlook := look_made ok hm
    have hyb := out_bytes (k := k) (s := s) ok hx
    refine ifP_f rfl ⟨S, hS _ _ s6 (Ext.drew w6), letD fun w7 _ x7 => LAt.rdS (k := k) (fun u hu => hu.1) (look_three (k := k) hS (hS _ _ s6 x7) hyb (o6.rd rfl |>.ext x7) (by omega) (J := fun a e w' => law8_ForgeFields.J3 (Good W) ⟨w1.heap.size, 0, none⟩ A6 (outB k s xs).length c6 a w') ?_)⟩
    intro w8 bv hv8 x8
    rw [hlook] at hv8
    have hv8 : VAt w8 bv (lookM k s xs) := hv8
    unfold law8_ForgeFields.J3
    refine letD fun w9 _ x9 => ?_
    have x69 := (x7.trans x8).trans x9
    have hv9 : VAt w9 bv (lookM k s xs) := x9.heap hv8
    have s9 := hS _ _ s6 x69
    have hO := out_length (k := k) (s := s) (xs := xs)
    have hI := ipH_length (s := s) (xs := xs)
    rw [if_pos hi] at hI
    have hL : (loadB s xs).length ≤ 65535 := by omega
    have hdr : (outB k s xs).drop (placeB k s) = hdrB s (loadB s xs).length ++ loadB s xs := by
      have d0 : (outB k s xs).drop 0 = wideB s ++ (multiB k s ++ (sayB k s ++ (ipHB s xs ++ loadB s xs))) := rfl
      have d3 := at_next (at_next (at_next d0))
      rw [Nat.zero_add] at d3
      rw [placeB, d3, ipHB, if_pos hi]
    have hsay : 1 ≤ placeB k s := by
      have : 1 ≤ (sayB k s).length := by
        rw [sayB, if_pos (ip_said hi), protoB]
        split
        · exact Nat.le_refl 1
        · exact Nat.le_succ 1
      unfold placeB
      omega
    have hcap := own_cap o6 rfl
    refine ⟨_, hv9.at9.a, _, hv9.at9.a, _, s9.2.at_ 6 rfl, ifP_beq.2 ⟨fun h33 => ⟨_, hv9.at9.a, ?_⟩, fun h33 => ?_⟩⟩
    · have e : hdrN s = 20 := by rw [hdrN, if_pos h33]
      refine fields_head (x06.trans x69) s9.2 hv9 t ok ((o6.rd rfl).ext x69) hcap hy16 hi hdr hl (parts4 h33 hL) (by omega) (by omega) (by omega) (by omega) hsay (by omega) rfl rfl rfl ?_ (by omega) (by omega)
      show IntKind.i64.wrap (((outB k s xs).length : Int) - ((placeB k s : Nat) : Int)) = _
      rw [wrap_i64 (by omega) (by omega)]
      omega
    · have e : hdrN s = 40 := by rw [hdrN, if_neg h33]
      refine fields_head (x06.trans x69) s9.2 hv9 t ok ((o6.rd rfl).ext x69) hcap hy16 hi hdr hl (parts6 h33 hL) (by omega) (by omega) (by omega) (by omega) hsay (by omega) rfl rfl rfl ?_ (by omega) (by omega)
      show IntKind.i64.wrap (IntKind.i64.wrap (((outB k s xs).length : Int) - ((placeB k s : Nat) : Int)) - 40) = _
      rw [wrap_i64 (by rw [wrap_i64 (by omega) (by omega)]; omega) (by rw [wrap_i64 (by omega) (by omega)]; omega), wrap_i64 (by omega) (by omega)]
      omega
  refine ⟨_, _, _, _, rfl, ifP_bne.2 ⟨fun _ => aw, fun he => ?_⟩⟩
  have last : saidB s = true → ∃ t40 : Int, w6.cell? ((Addr.mk w1.heap.size 0 none).add 6) = some (.int .u32 t40) ∧ ifP (t40 != 33) (∃ t44 : Int, w6.cell? ((Addr.mk w1.heap.size 0 none).add 6) = some (.int .u32 t44) ∧ law8_ForgeFields.J1 (Good W) ⟨W.heap.size, 0, none⟩ ⟨w1.heap.size, 0, none⟩ A6 (ysR (makeX k s xs)).length c6 (t44 != 87) w6) (law8_ForgeFields.J1 (Good W) ⟨W.heap.size, 0, none⟩ ⟨w1.heap.size, 0, none⟩ A6 (ysR (makeX k s xs)).length c6 false w6) := by
    intro hsaid
    refine ⟨_, s6.2.at_ 6 rfl, ifP_bne.2 ⟨fun h33 => ⟨_, s6.2.at_ 6 rfl, ?_⟩, fun h33 => main he (by simp [ipB, hsaid, h33])⟩⟩
    by_cases h87 : s.pr = 87
    · rw [show (s.pr != 87) = false by simp [h87]]
      exact main he (by simp [ipB, hsaid, h87])
    · rw [show (s.pr != 87) = true by simp [h87]]
      exact aw
  refine ⟨_, s6.2.at_ 2 rfl, ifP_of (fun hmu => ⟨_, s6.2.at_ 3 rfl, ifP_not.2 (ifP_of (fun hbg => last (by simp [saidB, hbg])) fun _ => aw)⟩) fun hmu => last (by simp [saidB, hmu])⟩
end
end Go.Proofs.Ytjlbegfbdjhhdaa
