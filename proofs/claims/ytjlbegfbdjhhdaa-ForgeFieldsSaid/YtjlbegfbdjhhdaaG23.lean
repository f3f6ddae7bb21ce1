/- The statement ForgeLooks. -/
import Derived.Test.YtjlbegfbdjhhdaaG22
import Derived.Test.YtjlbegfbdjhhdaaG19
import Derived.Test.YtjlbegfbdjhhdaaFThree
namespace Go.Proofs.Ytjlbegfbdjhhdaa
open Go.Rd Go.RowKit
set_option linter.unusedVariables false
set_option linter.unusedSimpArgs false

theorem IBytes.sub {w : World} {A : Option Addr} {n c : Nat} {xs : List Int} (h : IBytes w A n xs) {i j : Nat} (hij : i ≤ j) (hj : j ≤ n) (hc : n ≤ c) : IBytes w (subA A c i 1) (j - i) ((xs.drop i).take (j - i)) := by
  have hl := h.len
  by_cases hi : i < c
  · have := ((h.cells).drop i hi).take (j - i)
    rw [← List.map_drop, ← List.map_take] at this
    exact this.rd (by rw [List.length_take, List.length_drop]; omega)
  · have e : j - i = 0 := by omega
    rw [e]
    exact ⟨rfl, fun i x hi => by simp at hi⟩

section
variable {W : World} {k : Lnk} {s : Sp} {xs : List Int}
theorem load_length (hl : xs.length = s.dn) : (loadB s xs).length = s.dn + (if s.po = true then 4 else 0) := by
  unfold loadB
  split <;> simp [fieldB_two, hl] <;> omega
theorem out_length : (outB k s xs).length = placeB k s + (ipHB s xs).length + (loadB s xs).length := by
  simp only [outB, placeB, List.length_append]
  omega
theorem ipH_length : (ipHB s xs).length = if ipB s = true then hdrN s else 0 := by
  unfold ipHB
  split
  · exact hdr_length
  · rfl
theorem out_tail : (outB k s xs).drop ((outB k s xs).length - xs.length) = xs := by
  have e : ∃ pre, outB k s xs = pre ++ xs := by
    unfold outB loadB
    split
    · exact ⟨wideB s ++ (multiB k s ++ (sayB k s ++ (ipHB s xs ++ (fieldB 2 s.fr ++ fieldB 2 s.to)))), by simp⟩
    · exact ⟨wideB s ++ (multiB k s ++ (sayB k s ++ ipHB s xs)), by simp⟩
  obtain ⟨pre, e⟩ := e
  rw [e, List.length_append, Nat.add_sub_cancel]
  exact List.drop_left

def Bts (l : List Int) : Prop := ∀ x ∈ l, 0 ≤ x ∧ x ≤ 255
theorem Bts.app {a b : List Int} (h : Bts a) (h2 : Bts b) : Bts (a ++ b) := fun x hx => by
  rcases List.mem_append.1 hx with h3 | h3
  · exact h x h3
  · exact h2 x h3
theorem bts_nil : Bts [] := fun x hx => by cases hx
theorem Bts.cons {a : Int} {l : List Int} (h : 0 ≤ a ∧ a ≤ 255) (h2 : Bts l) : Bts (a :: l) := fun x hx => by
  rcases List.mem_cons.1 hx with rfl | h3
  · exact h
  · exact h2 x h3
theorem bts_two (v : Int) : Bts (fieldB 2 v) := .cons (by omega) (.cons (by omega) bts_nil)
theorem bts_four (v : Int) : Bts (fieldB 4 v) := .cons (by omega) (.cons (by omega) (.cons (by omega) (.cons (by omega) bts_nil)))
theorem bts_proto {pl : Bool} {p : Int} : Bts (protoB k pl p) := by
  unfold protoB
  split
  · exact .cons (by rw [wrap_u8_mod]; omega) bts_nil
  · exact bts_two p
theorem bts_map {f : Nat → Int} (h : ∀ i, 0 ≤ f i ∧ f i ≤ 255) (n : Nat) : Bts ((List.range n).map f) := fun x hx => by
  obtain ⟨i, _, rfl⟩ := List.mem_map.1 hx
  exact h i
theorem out_bytes (ok : s.ok) (hx : ∀ x ∈ xs, 0 ≤ x ∧ x ≤ 255) : Bts (outB k s xs) := by
  have hw : 0 ≤ IntKind.u8.wrap s.nx ∧ IntKind.u8.wrap s.nx ≤ 255 := by rw [wrap_u8_mod]; omega
  refine .app ?_ (.app ?_ (.app ?_ (.app ?_ ?_)))
  · unfold wideB
    split
    · exact .cons (by omega) (.cons (by omega) bts_nil)
    · exact bts_nil
  · unfold multiB
    split
    · refine .app bts_proto ?_
      unfold headB headSize
      split
      · exact bts_four _
      · exact bts_two _
    · exact bts_nil
  · unfold sayB
    split
    · exact bts_proto
    · exact bts_nil
  · unfold ipHB
    split
    · unfold hdrB
      split
      · exact .app (.cons (by omega) (.cons (by omega) bts_nil)) (.app (bts_two _) (.app (.cons (by omega) (.cons (by omega) (.cons (by omega) (.cons (by omega) (.cons (by omega) (.cons hw (.cons (by omega) (.cons (by omega) bts_nil)))))))) (.app (bts_map ok.sr _) (bts_map ok.ds _))))
      · exact .app (.cons (by omega) (.cons (by omega) (.cons (by omega) (.cons (by omega) bts_nil)))) (.app (bts_two _) (.app (.cons hw (.cons (by omega) bts_nil)) (.app (bts_map ok.sr _) (bts_map ok.ds _))))
    · exact bts_nil
  · unfold loadB
    split
    · exact .app (bts_two _) (.app (bts_two _) hx)
    · exact hx

theorem looks_tail {w : World} {bs bv bn c : Nat} {A : Option Addr} (x : Go.Rd.Ext W w) (hs : SAt w bs s) (hv : VAt w bv (lookM k s xs)) (t : Taken k s) (hl : xs.length = s.dn) (hN : bn = (outB k s xs).length) (hn : bn ≤ 65535) :
    law8_ForgeLooks.J5 (Good W) ⟨bs, 0, none⟩ A bn c ⟨bv, 0, none⟩ w := by
  have aw : Run Try.prog 14 #[] w fun v w' => ∃ t : Bool, v = .bool t ∧ Good W (.bool t) w' := by
    refine gawake_spec.mono ?_
    rintro v w1 ⟨rfl, x1⟩
    exact ⟨_, rfl, rfl, Fr.of_ext (x.trans x1)⟩
  have hL := load_length hl
  have hO := out_length (k := k) (s := s) (xs := xs)
  have hI := ipH_length (s := s) (xs := xs)
  have h9 := hv.at9
  have hH : hdrN s = 20 ∨ hdrN s = 40 := by unfold hdrN; split <;> simp
  have j11 : ∀ head net load : Int, (ipB s = true → net = (if s.pr = 33 then 4 else 6) ∧ head = hdrN s) → (ipB s = false → net = 0) → saidB s = true → load = ((placeB k s + (ipHB s xs).length : Nat) : Int) → law8_ForgeLooks.J11 (Good W) ⟨bs, 0, none⟩ ⟨bv, 0, none⟩ head net load w := by
    intro head net load h1 h2 hsaid hload
    have hp : (lookM k s xs).p = s.pr := by simp only [lookM, hsaid, if_true]
    refine ifP_beq.2 ⟨fun h0 => ?_, fun h0 => ?_⟩
    · have hi : ipB s = false := by
        cases h : ipB s with
        | false => rfl
        | true => have := (h1 h).1; split at this <;> omega
      rw [hi] at hI
      refine ⟨_, h9.p, _, hs.at_ 6 rfl, ifP_t (beq_iff_eq.2 hp) ⟨_, h9.n, ifP_t (beq_iff_eq.2 (by simp only [lookM, hi, Bool.false_eq_true, if_false])) ⟨_, h9.x, ifP_t (beq_iff_eq.2 (t.flat hi).1) ⟨_, h9.l, ifP_t (beq_iff_eq.2 (by simp only [lookM, hi, Bool.false_eq_true, if_false])) ⟨_, h9.a, ifP_t (beq_iff_eq.2 ?_) aw⟩⟩⟩⟩⟩
      rw [hload, hI]
      rfl
    · have hi : ipB s = true := by
        cases h : ipB s with
        | true => rfl
        | false => exact absurd (h2 h) h0
      obtain ⟨e1, e2⟩ := h1 hi
      rw [if_pos hi] at hI
      rw [hI] at hload
      refine ⟨_, h9.p, _, hs.at_ 6 rfl, ifP_t (beq_iff_eq.2 hp) ⟨_, h9.n, ifP_t (beq_iff_eq.2 (by simp only [lookM, hi, if_true]; exact e1.symm)) ⟨_, h9.x, _, hs.at_ 7 rfl, ifP_t (beq_iff_eq.2 rfl) ⟨_, h9.l, ifP_t (beq_iff_eq.2 (by simp only [lookM, hi, if_true]; exact hload.symm)) ⟨_, h9.a, ifP_t (beq_iff_eq.2 ?_) aw⟩⟩⟩⟩⟩
      show ((placeB k s : Nat) : Int) = _
      rw [wrap_i64 (by omega) (by omega)]
      omega
  have j10 : ∀ head net : Int, (ipB s = true → net = (if s.pr = 33 then 4 else 6) ∧ head = hdrN s) → (ipB s = false → net = 0) → saidB s = true → law8_ForgeLooks.J10 (Good W) ⟨bs, 0, none⟩ A bn c ⟨bv, 0, none⟩ head net w := by
    intro head net h1 h2 hsaid
    refine ⟨_, _, _, hs.at_ 43 rfl, _, hs.at_ 40 rfl, ifP_of (fun hpo => j11 _ _ _ h1 h2 hsaid ?_) fun hpo => j11 _ _ _ h1 h2 hsaid ?_⟩
    · rw [if_pos hpo] at hL
      rw [wrap_i64 (by rw [wrap_i64 (by omega) (by omega)]; omega) (by rw [wrap_i64 (by omega) (by omega)]; omega), wrap_i64 (by omega) (by omega)]
      omega
    · rw [if_neg (by rw [hpo]; decide)] at hL
      rw [wrap_i64 (by omega) (by omega)]
      omega
  have j6 : ∀ b, b = saidB s → law8_ForgeLooks.J6 (Good W) ⟨bs, 0, none⟩ A bn c ⟨bv, 0, none⟩ b w := by
    rintro b rfl
    refine ifP_not.2 (ifP_of (fun hsaid => ?_) fun hsaid => ?_)
    · have hi33 : s.pr = 33 → ipB s = true := fun h => by simp [ipB, hsaid, h]
      have hi87 : s.pr = 87 → ipB s = true := fun h => by simp [ipB, hsaid, h]
      refine ⟨_, hs.at_ 6 rfl, ifP_beq.2 ⟨fun h33 => ⟨_, hs.at_ 6 rfl, ifP_beq.2 ⟨fun h87 => by omega, fun _ => ?_⟩⟩, fun h33 => ⟨_, hs.at_ 6 rfl, ifP_beq.2 ⟨fun h87 => ?_, fun h87 => ?_⟩⟩⟩⟩
      · exact j10 20 4 (fun _ => by rw [if_pos h33, hdrN, if_pos h33]; exact ⟨rfl, rfl⟩) (fun h => by rw [hi33 h33] at h; cases h) hsaid
      · exact j10 40 6 (fun _ => by rw [if_neg h33, hdrN, if_neg h33]; exact ⟨rfl, rfl⟩) (fun h => by rw [hi87 h87] at h; cases h) hsaid
      · exact j10 0 0 (fun h => by rcases ip_pr h with h | h; exact absurd h h33; exact absurd h h87) (fun _ => rfl) hsaid
    · have hi : ipB s = false := by simp [ipB, hsaid]
      rw [hi] at hI
      rw [if_neg (by rw [(t.no hsaid).2.2]; decide)] at hL
      refine ⟨_, h9.p, ifP_t (beq_iff_eq.2 (by simp only [lookM, hsaid, Bool.false_eq_true, if_false])) ⟨_, h9.n, ifP_t (beq_iff_eq.2 (by simp only [lookM, hi, Bool.false_eq_true, if_false])) ⟨_, h9.a, _, _, _, hs.at_ 43 rfl, ifP_t (beq_iff_eq.2 ?_) aw⟩⟩⟩
      show ((placeB k s : Nat) : Int) = _
      rw [wrap_i64 (by omega) (by omega)]
      simp only [Bool.false_eq_true, if_false] at hI
      omega
  refine ⟨_, hs.at_ 2 rfl, ifP_not.2 (ifP_of (fun hmu => ⟨_, hs.at_ 3 rfl, j6 _ ?_⟩) fun hmu => j6 _ ?_)⟩
  · simp [saidB, hmu]
  · simp [saidB, hmu]

theorem ForgeLooks_main {W : World} (hd : IBytes W s.dA s.dn xs) (hx : ∀ x ∈ xs, 0 ≤ x ∧ x ≤ 255) (hb : s.dn ≤ 140737488351232) (ok : s.ok) : Run Try.prog 6 #[.agg #[.bool k.ac, .bool k.pf, .int .i64 k.mp], s.v] W (Good W) := by
  have hl := hd.len
  refine law8_ForgeLooks.ok (letA fun w1 h1 x1 s1 => letA fun w2 h2 x2 s2 => ?_)
  have hk2 : LAt w2 W.heap.size k := x2.heap h1
  have hs2 : SAt w2 w1.heap.size s := h2
  have x02 := x1.trans x2
  let S : World → Prop := fun u => LAt u W.heap.size k ∧ SAt u w1.heap.size s
  have hS : ∀ u u', S u → Go.Rd.Ext u u' → S u' := fun u u' h x => ⟨h.1.ext x, h.2.ext x⟩
  refine ⟨S, hS _ _ ⟨hk2, hs2⟩ (Ext.drew w2), letD fun w4 _ x4 => LAt.rdS (k := k) (fun u hu => hu.1) (SAt.rdS (s := s) (fun u hu => hu.2) ((lend_spec (hd.ext (x02.trans x4)) hb).mono ?_))⟩
  rintro v w5 ⟨A5, c5, rfl, o5, b5, x5⟩
  have x45 := x4.trans x5
  refine ⟨_, _, _, _, _, _, _, _, _, _, _, _, _, _, _, _, _, _, _, _, _, _, _, _, _, _, _, _, _, _, _, _, _, _, _, _, _, _, _, _, _, _, _, _, _, _, rfl, hS _ _ ⟨hk2, hs2⟩ x45, (make_spec (k := k) (s := lentS s A5 c5) (lent_read o5 hl) hb ok.pr.1 ok.pr.2).mono ?_⟩
  intro v w6 hv
  rw [make_lent] at hv
  have x04 := x02.trans x45
  cases hm : makeX k s xs with
  | error e =>
    rw [hm] at hv
    obtain ⟨rfl, x6⟩ := hv
    have he : e ≠ 0 := by
      unfold makeX at hm
      split at hm
      · cases hm; decide
      · split at hm
        · cases hm; decide
        · split at hm
          · cases hm; decide
          · cases hm
    refine ⟨_, _, _, _, rfl, ifP_ne he (ifP_eq rfl (gawake_spec.mono ?_))⟩
    rintro v w7 ⟨rfl, x7⟩
    exact ⟨_, rfl, (show Good W (.bool true) w7 from ⟨rfl, Fr.of_ext ((x04.trans x6).trans x7)⟩)⟩
  | ok ys =>
    rw [hm] at hv
    obtain ⟨A6, c6, rfl, o6, b6, x6⟩ := hv
    obtain ⟨hk, hw, hy16, rfl⟩ := make_ok hm
    have t := taken hw
    have hlook := look_made ok hm
    have s6 : S w6 := hS _ _ ⟨hk2, hs2⟩ (x45.trans x6)
    have hyb := out_bytes (k := k) (s := s) ok hx
    refine ⟨_, _, _, _, rfl, ifP_f rfl ⟨S, hS _ _ s6 (Ext.drew w6), letD fun w7 _ x7 => LAt.rdS (k := k) (fun u hu => hu.1) (look_three (k := k) hS (hS _ _ s6 x7) hyb (o6.rd rfl |>.ext x7) (by omega) (J := fun a e w' => law8_ForgeLooks.J3 (Good W) ⟨w1.heap.size, 0, none⟩ A6 (outB k s xs).length c6 a e w') ?_)⟩⟩
    intro w8 bv hv8 x8
    rw [hlook] at hv8 ⊢
    have hv8 : VAt w8 bv (lookM k s xs) := hv8
    have x68 := x7.trans x8
    have s8 := hS _ _ s6 x68
    let T : World → Prop := fun u => VAt u bv (lookM k s xs) ∧ SAt u w1.heap.size s
    have hT : ∀ u u', T u → Go.Rd.Ext u u' → T u' := fun u u' h x => ⟨x.heap h.1, h.2.ext x⟩
    have t8 : T w8 := ⟨hv8, s8.2⟩
    have hO := out_length (k := k) (s := s) (xs := xs)
    have hL := load_length (s := s) hl
    have hcap := own_cap o6 rfl
    have hle : s.dn ≤ (outB k s xs).length := by rw [hO, hL]; omega
    refine ⟨T, hT _ _ t8 (Ext.drew w8), letD fun w9 _ x9 => ifP_f rfl ⟨_, fun u hu => hu.1.at9.m, _, fun u hu => hu.2.at_ 2 rfl, ifP_f (by simp [lookM]) ⟨_, fun u hu => hu.1.at9.b, _, fun u hu => hu.2.at_ 3 rfl, ifP_f (by simp [lookM]) ⟨_, fun u hu => hu.1.at9.e, _, fun u hu => hu.2.at_ 4 rfl, ifP_f (by simp [lookM]) ⟨_, fun u hu => hu.1.at9.s, _, fun u hu => hu.2.at_ 5 rfl, ifP_nne rfl ⟨_, _, _, fun u hu => hu.2.at_ 43 rfl, ifP_no (by omega) ⟨_, _, _, fun u hu => hu.2.at_ 43 rfl, ?_⟩⟩⟩⟩⟩⟩⟩
    have ew : IntKind.i64.wrap (((outB k s xs).length : Int) - (s.dn : Int)) = (((outB k s xs).length - s.dn : Nat) : Int) := by
      rw [wrap_i64 (by omega) (by omega)]
      omega
    rw [ew, Int.toNat_natCast]
    refine ⟨by omega, by omega, by omega, _, _, _, fun u hu => hu.2.at_ 43 rfl, ?_⟩
    have x69 := x68.trans x9
    have x09 := (x04.trans x6).trans x69
    have hsub := IBytes.sub ((o6.rd rfl).ext x69) (i := (outB k s xs).length - s.dn) (j := (outB k s xs).length) (by omega) (by omega) hcap
    have hsx : ((outB k s xs).drop ((outB k s xs).length - s.dn)).take ((outB k s xs).length - ((outB k s xs).length - s.dn)) = xs := by
      rw [← hl, out_tail]
      exact List.take_of_length_le (by omega)
    rw [hsx] at hsub
    refine (sameBytes_spec hsub (hd.ext x09) (by omega)).mono ?_
    rintro v w10 ⟨rfl, x10⟩
    have t10 := hT _ _ t8 (x9.trans x10)
    exact ⟨_, rfl, ifP_f (by simp) (looks_tail (x09.trans x10) t10.2 t10.1 t hl rfl (by omega))⟩
end
end Go.Proofs.Ytjlbegfbdjhhdaa
