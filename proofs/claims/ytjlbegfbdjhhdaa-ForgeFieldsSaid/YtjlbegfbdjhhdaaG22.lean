/- The plain law of ForgeLooks: the whole look of a frame that was made. -/
import Derived.Test.YtjlbegfbdjhhdaaG21
namespace Go.Proofs.Ytjlbegfbdjhhdaa
open Go.Rd Go.RowKit
set_option linter.unusedVariables false
set_option linter.unusedSimpArgs false

section
variable {k : Lnk} {s : Sp} {xs : List Int}
/-- What is known of a spec that is taken. -/
structure Taken (k : Lnk) (s : Sp) : Prop where
  wd : s.wd = false → k.ac = true
  mu : s.mu = true → k.mp ≠ 0 ∧ s.sq ≤ seqsN k
  un : s.mu = false → s.bg = false ∧ s.en = false ∧ s.sq = 0 ∧ (s.pr = 61 → k.mp = 0)
  no : saidB s = false → s.pr = 0 ∧ s.nx = 0 ∧ s.po = false
  yes : saidB s = true → s.pr ≤ 65535 ∧ s.pr % 2 = 1 ∧ s.pr / 256 % 2 = 0
  flat : ipB s = false → s.nx = 0 ∧ s.po = false
  nx : 0 ≤ s.nx ∧ s.nx ≤ 255
  zs : s.po = false → s.fr = 0 ∧ s.to = 0
  ft : s.fr ≤ 65535 ∧ s.to ≤ 65535
  cf : s.mu = false → s.wd = false → k.pf = true → s.pl = false → s.pr ≠ 255
theorem taken (h : anyWrong k s = false) : Taken k s := by
  have h1 : wr1 k s = false := right_of h 0 (by decide)
  have h2 : wr2 k s = false := right_of h 1 (by decide)
  have h3 : wr3 k s = false := right_of h 2 (by decide)
  have h4 : wr4 s = false := right_of h 3 (by decide)
  have h5 : wr5 s = false := right_of h 4 (by decide)
  have h6 : wr6 s = false := right_of h 5 (by decide)
  have h9 : wr9 s = false := right_of h 8 (by decide)
  have h10 : wr10 s = false := right_of h 9 (by decide)
  have h11 : wr11 k s = false := right_of h 10 (by decide)
  refine ⟨fun e => ?_, fun e => ?_, fun e => ?_, fun e => ?_, fun e => ?_, fun e => ?_, nx_facts h, fun e => ?_, ?_, fun e1 e2 e3 e4 => ?_⟩
  · simpa [wr1, e] using h1
  · simp [wr2, e] at h2
    exact ⟨h2.1, by omega⟩
  · simp only [wr3, e, Bool.not_false, Bool.true_and, Bool.or_eq_false_iff, Bool.and_eq_false_iff, bne_eq_false_iff_eq, beq_eq_false_iff_ne] at h3
    obtain ⟨⟨⟨a, b⟩, c⟩, d⟩ := h3
    exact ⟨a, b, c, fun hp => by rcases d with d | d; exact absurd hp d; exact d⟩
  · simp only [wr4, e, Bool.not_false, Bool.true_and, Bool.or_eq_false_iff, bne_eq_false_iff_eq] at h4
    exact ⟨h4.1.1, h4.1.2, h4.2⟩
  · simp only [wr5, e, Bool.true_and, Bool.or_eq_false_iff, decide_eq_false_iff_not, beq_eq_false_iff_ne] at h5
    omega
  · simp only [wr6, e, Bool.not_false, Bool.true_and, Bool.or_eq_false_iff, bne_eq_false_iff_eq] at h6
    exact ⟨h6.1.1.1, h6.2⟩
  · simp only [wr9, e, Bool.not_false, Bool.true_and, Bool.or_eq_false_iff, bne_eq_false_iff_eq] at h9
    exact h9
  · simp only [wr10, Bool.or_eq_false_iff, decide_eq_false_iff_not] at h10
    omega
  · intro hp
    simp [wr11, e1, e2, e3, e4, hp] at h11
theorem ip_pr (h : ipB s = true) : s.pr = 33 ∨ s.pr = 87 := by
  simp only [ipB, Bool.and_eq_true, Bool.or_eq_true, beq_iff_eq] at h
  exact h.2
theorem ip_said (h : ipB s = true) : saidB s = true := by
  simp only [ipB, Bool.and_eq_true] at h
  exact h.1
theorem hdr_length {n : Int} : (hdrB s n).length = hdrN s := by
  unfold hdrB hdrN
  split <;> simp [fieldB_two]

/-- The place behind the protocol. -/
def placeB (k : Lnk) (s : Sp) : Nat := (wideB s).length + (multiB k s).length + (sayB k s).length
def lookM (k : Lnk) (s : Sp) (xs : List Int) : Vw :=
  ⟨if saidB s = true then s.pr else 61, s.mu, s.bg, s.en, s.sq, placeB k s, if ipB s = true then (if s.pr = 33 then 4 else 6) else 0, s.nx, if ipB s = true then ((placeB k s + hdrN s : Nat) : Int) else 0⟩

def lookP (k : Lnk) (s : Sp) : Vw := ⟨if saidB s = true then s.pr else 61, s.mu, s.bg, s.en, s.sq, placeB k s, 0, 0, 0⟩

theorem netX_made (t : Taken k s) (hd : (outB k s xs).drop (placeB k s) = ipHB s xs ++ loadB s xs) {v : Vw} (hv : v = lookP k s) : netX (outB k s xs) v = .ok (lookM k s xs) := by
  subst hv
  unfold netX
  cases hs : saidB s with
  | false =>
    have h1 : s.mu = true ∧ s.bg = false := by
      revert hs; unfold saidB; cases s.mu <;> cases s.bg <;> simp
    have h2 : ipB s = false := by simp [ipB, hs]
    have n1 : (lookP k s).m = true ∧ (lookP k s).b = false := h1
    rw [if_pos n1]
    simp only [lookM, lookP, hs, h2, (t.no hs).2.1, if_false, Bool.false_eq_true]
  | true =>
    have h1 : ¬ (s.mu = true ∧ s.bg = false) := by
      revert hs; unfold saidB; cases s.mu <;> cases s.bg <;> simp
    have n1 : ¬ ((lookP k s).m = true ∧ (lookP k s).b = false) := h1
    rw [if_neg n1]
    cases hi : ipB s with
    | false =>
      have h2 : ¬ ((lookP k s).p = 33 ∨ (lookP k s).p = 87) := by
        simp only [lookP, hs, if_true]
        revert hi
        simp [ipB, hs]
      rw [if_neg h2]
      simp only [lookM, lookP, hs, hi, (t.flat hi).1, if_false, Bool.false_eq_true]
    | true =>
      have h2 : (lookP k s).p = 33 ∨ (lookP k s).p = 87 := by
        simp only [lookP, hs, if_true]
        exact ip_pr hi
      rw [if_pos h2]
      have e1 : ipHB s xs = hdrB s (loadB s xs).length := by rw [ipHB, if_pos hi]
      rw [e1] at hd
      have hlen := at_len hd (by rw [hdr_length]; unfold hdrN; split <;> omega)
      have g := fun i hi => at_get (i := i) hd hi
      rw [hdr_length] at hlen
      simp only [hdr_length] at g
      have wn : IntKind.u8.wrap s.nx = s.nx := wrap_u8 t.nx.1 t.nx.2
      unfold ipX
      by_cases h33 : s.pr = 33
      · have en : hdrN s = 20 := by rw [hdrN, if_pos h33]
        have eb : hdrB s (loadB s xs).length = [69, 0] ++ (fieldB 2 (IntKind.u32.wrap (IntKind.i64.wrap (20 + ((loadB s xs).length : Int)))) ++ ([0, 0, 0, 0, 64, IntKind.u8.wrap s.nx, 0, 0] ++ ((List.range 4).map s.sr ++ (List.range 4).map s.ds))) := by
          rw [hdrB, if_pos h33]
        rw [en] at hlen g
        have g0 := g 0 (by omega)
        have g6 := g 6 (by omega)
        have g7 := g 7 (by omega)
        have g9 := g 9 (by omega)
        rw [eb] at g0 g6 g7 g9
        have g0 : (outB k s xs).getD (placeB k s) 0 = 69 := g0
        have g6 : (outB k s xs).getD ((placeB k s : Int) + 6).toNat 0 = 0 := g6
        have g7 : (outB k s xs).getD ((placeB k s : Int) + 7).toNat 0 = 0 := g7
        have g9 : (outB k s xs).getD ((placeB k s : Int) + 9).toNat 0 = s.nx := g9.trans wn
        have ep : (lookP k s).p = 33 := by simp only [lookP, hs, if_true]; exact h33
        have ea : (lookP k s).a = (placeB k s : Int) := rfl
        simp only [ep, ea, Int.toNat_natCast, g0, g6, g7, g9]
        rw [if_neg (by decide), if_neg (by omega), if_neg (by decide), if_neg (by omega), if_pos (by decide)]
        simp only [lookM, lookP, hs, hi, h33, en, if_true]
        rfl
      · have h87 : s.pr = 87 := by rcases ip_pr hi with h | h; exact absurd h h33; exact h
        have en : hdrN s = 40 := by rw [hdrN, if_neg h33]
        have eb : hdrB s (loadB s xs).length = [96, 0, 0, 0] ++ (fieldB 2 (IntKind.u32.wrap ((loadB s xs).length : Int)) ++ ([IntKind.u8.wrap s.nx, 64] ++ ((List.range 16).map s.sr ++ (List.range 16).map s.ds))) := by
          rw [hdrB, if_neg h33]
        rw [en] at hlen g
        have g0 := g 0 (by omega)
        have g6 := g 6 (by omega)
        rw [eb] at g0 g6
        have g0 : (outB k s xs).getD (placeB k s) 0 = 96 := g0
        have g6 : (outB k s xs).getD ((placeB k s : Int) + 6).toNat 0 = s.nx := g6.trans wn
        have ep : (lookP k s).p = 87 := by simp only [lookP, hs, if_true]; exact h87
        have ea : (lookP k s).a = (placeB k s : Int) := rfl
        simp only [ep, ea, Int.toNat_natCast, g0, g6]
        rw [if_pos trivial, if_neg (by omega), if_pos (by decide)]
        simp only [lookM, lookP, hs, hi, h87, en, if_true]
        rfl

theorem look_made (ok : s.ok) (hm : makeX k s xs = .ok (outB k s xs)) : lookX k (outB k s xs) = .ok (lookM k s xs) := by
  obtain ⟨hk, hw, hb, _⟩ := make_ok hm
  have t := taken hw
  have d0 : (outB k s xs).drop 0 = wideB s ++ (multiB k s ++ (sayB k s ++ (ipHB s xs ++ loadB s xs))) := rfl
  have d1 := at_next d0
  have d2 := at_next d1
  have d3 := at_next d2
  have e1 : plainX k (outB k s xs) = .ok ((wideB s).length : Int) := by
    unfold plainX
    cases hwd : s.wd with
    | true =>
      have ew : wideB s = [255, 3] := by rw [wideB, if_pos hwd]
      have hlen := at_len d0 (by rw [ew]; decide)
      have g0 := at_get (i := 0) d0 (by rw [ew]; decide)
      have g1 := at_get (i := 1) d0 (by rw [ew]; decide)
      rw [ew] at hlen g0 g1
      rw [if_pos ⟨by simp at hlen; omega, g0, g1⟩, ew]
      rfl
    | false =>
      have ew : wideB s = [] := by rw [wideB, if_neg (by rw [hwd]; decide)]
      have hf : (outB k s xs).getD 0 0 ≠ 255 := by
        have e : outB k s xs = multiB k s ++ (sayB k s ++ (ipHB s xs ++ loadB s xs)) := by rw [outB, ew]; rfl
        rw [e]
        rcases Bool.eq_false_or_eq_true s.mu with hmu | hmu
        · rw [multiB, if_pos hmu, List.append_assoc]
          exact proto_first (by decide) (by decide) (by decide) (fun _ _ => by decide)
        · have hs : saidB s = true := by simp [saidB, hmu]
          rw [multiB, if_neg (by rw [hmu]; decide), sayB, if_pos hs, List.nil_append]
          exact proto_first ok.pr.1 (t.yes hs).1 (t.yes hs).2.2 (fun h1 h2 => t.cf hmu hwd h1 h2)
      rw [if_neg (fun h => hf h.2.1), if_pos (t.wd hwd), ew]
      rfl
  have e2 : pieceX k (outB k s xs) = .ok { vw0 with p := if s.mu = true then 61 else s.pr, m := s.mu, b := s.bg, e := s.en, s := s.sq, a := if s.mu = true then (((wideB s).length + (multiB k s).length : Nat) : Int) else placeB k s } := by
    unfold pieceX
    rw [e1]
    simp only
    rcases Bool.eq_false_or_eq_true s.mu with hmu | hmu
    · have em : multiB k s = protoB k s.pl 61 ++ headB k s.bg s.en s.sq := by rw [multiB, if_pos hmu]
      rw [Nat.zero_add, em, List.append_assoc] at d1
      rw [proto_made (by decide) (by decide) (by decide) (by decide) d1]
      simp only
      rw [if_neg (by rintro (h | h); exact (t.mu hmu).1 h; exact h rfl), head_made ok.sq.1 (t.mu hmu).2 (at_next d1)]
      simp only [hmu, if_true, em, List.length_append, Nat.add_assoc]
    · have hs : saidB s = true := by simp [saidB, hmu]
      have em : multiB k s = [] := by rw [multiB, if_neg (by rw [hmu]; decide)]
      have es : sayB k s = protoB k s.pl s.pr := by rw [sayB, if_pos hs]
      rw [Nat.zero_add, em, List.nil_append, es] at d1
      rw [proto_made ok.pr.1 (t.yes hs).1 (t.yes hs).2.1 (t.yes hs).2.2 d1]
      simp only
      obtain ⟨u1, u2, u3, u4⟩ := t.un hmu
      rw [if_pos (by by_cases h : s.pr = 61; exact .inl (u4 h); exact .inr h)]
      simp only [hmu, u1, u2, u3, if_false, Bool.false_eq_true, placeB, em, es, List.length_nil, Nat.add_zero]
      rfl
  have e3 : ∀ v, v = lookP k s → innerX k (outB k s xs) { vw0 with p := if s.mu = true then 61 else s.pr, m := s.mu, b := s.bg, e := s.en, s := s.sq, a := if s.mu = true then (((wideB s).length + (multiB k s).length : Nat) : Int) else placeB k s } = .ok v := by
    rintro v rfl
    unfold innerX
    simp only
    rcases Bool.eq_false_or_eq_true s.mu with hmu | hmu
    · rw [if_pos hmu]
      rcases Bool.eq_false_or_eq_true s.bg with hbg | hbg
      · have hs : saidB s = true := by simp [saidB, hbg]
        have es : sayB k s = protoB k s.pl s.pr := by rw [sayB, if_pos hs]
        rw [if_pos hbg, if_pos hmu]
        rw [Nat.zero_add, es] at d2
        rw [proto_made ok.pr.1 (t.yes hs).1 (t.yes hs).2.1 (t.yes hs).2.2 d2]
        simp only [lookP, hs, if_true, placeB, es]
        rfl
      · have hs : saidB s = false := by simp [saidB, hbg, hmu]
        have es : sayB k s = [] := by rw [sayB, if_neg (by rw [hs]; decide)]
        rw [if_neg (by rw [hbg]; decide)]
        simp only [lookP, hs, hmu, if_true, if_false, Bool.false_eq_true, placeB, es, List.length_nil, Nat.add_zero]
        rfl
    · have hs : saidB s = true := by simp [saidB, hmu]
      rw [if_neg (by rw [hmu]; decide)]
      simp only [lookP, hs, hmu, if_true, if_false, Bool.false_eq_true]
      rfl
  have d4 : (outB k s xs).drop (placeB k s) = ipHB s xs ++ loadB s xs := by
    rw [← d3]
    rw [placeB, Nat.zero_add]
  rw [lookX, if_neg (by rw [hk]; decide), if_neg (by omega), e2]
  simp only
  rw [e3 _ rfl]
  simp only
  exact netX_made t d4 rfl
end
end Go.Proofs.Ytjlbegfbdjhhdaa
