/- The statement BundleSplits. -/
import Derived.Test.YtgjabpgkiaojhaaB9
namespace Go.Proofs.Ytgjabpgkiaojhaa
open Go.Rd Go.RowKit
set_option linter.unusedVariables false
set_option linter.unusedSimpArgs false

def frR : Ex (List (List Int)) → List (List Int)
  | .ok fr => fr
  | .error _ => []
def erR : Ex (List (List Int)) → Int
  | .ok _ => 0
  | .error e => e
theorem SplitOf.form {W w' : World} {r : Ex (List (List Int))} {v : Value} (h : SplitOf W r v w') : ∃ A c, v = .tuple #[.slice A (frR r).length c, .int .i64 (erR r)] ∧ Made W w' A c (frR r) := by
  cases r with
  | ok fr => exact h
  | error e =>
    obtain ⟨rfl, x⟩ := h
    exact ⟨none, 0, rfl, Made.nil W w' x |> fun m => ⟨m.ok, x⟩⟩
theorem piece_length {k : Lnk} {m : Nat} {first : Int} {xs : List Int} {i : Nat} : (pieceAt k m first xs i).length ≤ 8 + m ∧ (pieceAt k m first xs i).length = 4 + ((headSize k).toNat + min m (xs.length - i * m)) := by
  have e : (pieceAt k m first xs i).length = 4 + ((headSize k).toNat + min m (xs.length - i * m)) := by
    simp only [pieceAt, List.length_append, List.length_take, List.length_drop, headB, fieldB_length, List.length_cons, List.length_nil]
  have := headSize_two (k := k)
  rw [e]
  refine ⟨?_, rfl⟩
  rcases this with h | h <;> rw [h] <;> omega
theorem split_ok {k : Lnk} {most first : Int} {xs : List Int} {fr : List (List Int)} (h : splitX k most first xs = .ok fr) : goodK k ∧ 1 ≤ most ∧ most ≤ 65527 ∧ first < spaceK k ∧ xs.length ≤ 65535 ∧ (xs.length : Int) ≤ most * 4096 ∧ fr = piecesX k most.toNat first xs := by
  unfold splitX at h
  split at h
  · cases h
  · rename_i h1
    split at h
    · cases h
    · split at h
      · cases h
      · split at h
        · cases h
        · refine ⟨Decidable.not_not.1 h1, by omega, by omega, by omega, by omega, by omega, (Except.ok.inj h).symm⟩
theorem split_small {k : Lnk} {most first : Int} {xs : List Int} : (frR (splitX k most first xs)).length ≤ 4096 ∧ ∀ f ∈ frR (splitX k most first xs), f.length ≤ 70000 := by
  cases h : splitX k most first xs with
  | error e => exact ⟨Nat.zero_le _, fun f hf => by cases hf⟩
  | ok fr =>
    obtain ⟨_, h1, h2, _, h3, h4, rfl⟩ := split_ok h
    obtain ⟨m, rfl⟩ := Int.eq_ofNat_of_zero_le (show 0 ≤ most by omega)
    refine ⟨?_, fun f hf => ?_⟩
    · simp only [frR, piecesX, List.length_map, List.length_range, Int.toNat_natCast]
      exact count_le (by omega) (by omega) (by omega)
    · simp only [frR, piecesX] at hf
      obtain ⟨i, _, rfl⟩ := List.mem_map.1 hf
      have := (piece_length (k := k) (m := m) (first := first) (xs := xs) (i := i)).1
      simp only [Int.toNat_natCast]
      omega
theorem lent_read {w : World} {A : Option Addr} {n c : Nat} {xs : List Int} (h : OBytes w A c (xs ++ [201, 201, 201])) (hl : xs.length = n) : IBytes w A n xs := by
  have := (h.cells).take n
  rw [← List.map_take, List.take_left' hl] at this
  exact this.rd hl
theorem lent_cap {w : World} {A : Option Addr} {n c : Nat} {xs : List Int} (h : OBytes w A c (xs ++ [201, 201, 201])) (hl : xs.length = n) : n ≤ c := by
  have : n + 3 ≤ c := h.len (n := n + 3) (by omega) (by simp [hl])
  omega
theorem own_cap {w : World} {A : Option Addr} {n c : Nat} {xs : List Int} (h : OBytes w A c xs) (hl : xs.length = n) : n ≤ c := by
  by_cases h0 : 0 < n
  · exact Own.len (n := n) (by omega) h (by rw [List.length_map]; omega)
  · omega
theorem Fr.lrd {W w : World} {A : Option Addr} {n : Nat} {fr : List (List Int)} (h : LRd W A n fr) (x : Go.Rd.Ext W w) : LRd w A n fr := h.ext x

section
variable {W Wa : World} {fr : List (List Int)} {VA A YA : Option Addr} {vc c yc : Nat} {ps qs : List Part}
theorem spoil_loop (hWa : Go.Rd.Ext W Wa) (want : LRd Wa VA fr.length fr) (hn : fr.length ≤ 4096) (hl : ∀ f ∈ fr, f.length ≤ 70000) (hlen : ps.length = fr.length) (hfr : ps.map (·.xs) = fr) (hpl : ∀ p ∈ ps, p.xs.length = p.n)
    (sep : ∀ p ∈ ps, ∀ k, blk p.A k → ¬ blkC A c k ∧ Wa.heap.size ≤ k ∧ ¬ ffp YA yc qs k) (pair : ps.Pairwise (fun p q => ∀ k, blk p.A k → ¬ blk q.A k)) :
    ∀ (d i : Nat), fr.length - i = d → i ≤ fr.length → ∀ w, Go.Rd.Ext Wa w → OwnS 24 1 w A c (ps.map Part.v) → (∀ j p, i ≤ j → ps[j]? = some p → OBytes w p.A p.c p.xs) → FOk w YA fr.length yc qs fr →
      law9_BundleSplits.L0 (Good W) VA fr.length vc A fr.length c YA fr.length yc i w := by
  intro d
  induction d with
  | zero =>
    intro i hd hi w x hdr parts y
    have yrd : LRd w YA fr.length fr := by
      refine ⟨qs, ⟨y.len, fun i p hp => ?_⟩, fun p hp => ?_, y.frs⟩
      · obtain ⟨a, ha, hc⟩ := y.own.cells i p.v (by rw [List.getElem?_map, hp]; rfl)
        exact ⟨a, ha, by rw [Nat.mul_one]; exact hc⟩
      · obtain ⟨o, l⟩ := y.part p hp
        exact o.rd l
    refine law9_BundleSplits.L0_step (ifP_no (by omega) ((sameLists_spec yrd (want.ext x) (by omega) (fun f hf => by have := hl f hf; omega)).mono ?_))
    rintro v w1 ⟨rfl, x1⟩
    refine ⟨_, rfl, ifP_t (by simp) (bawake_spec.mono ?_)⟩
    rintro v w2 ⟨rfl, x2⟩
    exact ⟨_, rfl, (show Good W (.bool true) w2 from ⟨rfl, Fr.of_ext (((hWa.trans x).trans x1).trans x2)⟩)⟩
  | succ d ih =>
    intro i hd hi w x hdr parts y
    have hp : ps[i]? = some (ps[i]'(by omega)) := List.getElem?_eq_getElem _
    generalize ps[i]'(by omega) = p at hp
    have hpm := List.mem_of_getElem? hp
    obtain ⟨a, ha, hc⟩ := hdr.cells i p.v (by rw [List.getElem?_map, hp]; rfl)
    have op := parts i p (Nat.le_refl i) hp
    refine law9_BundleSplits.L0_step (ifP_yes (by omega) ⟨by omega, by omega, a, ha, _, _, _, by rw [Int.toNat_natCast, Nat.mul_one]; exact hc, (spoilBytes_spec op (by rw [List.length_map]; exact hpl p hpm) (by have := hl p.xs (by rw [← hfr]; exact List.mem_map.2 ⟨p, hpm, rfl⟩); rw [hpl p hpm] at this; omega)).mono ?_⟩)
    rintro v w1 ⟨rfl, k1⟩
    have x1 : Go.Rd.Ext Wa w1 := x.fresh k1 fun k hk => (sep p hpm k hk).2.1
    have hdr1 := hdr.keep k1 fun k hk hk2 => (sep p hpm k hk2).1 hk
    have y1 := y.keep k1 fun k hk hk2 => (sep p hpm k hk2).2.2 hk
    have parts1 : ∀ j q, i + 1 ≤ j → ps[j]? = some q → OBytes w1 q.A q.c q.xs := by
      intro j q hj hq
      refine (parts j q (by omega) hq).keep k1 fun k hk hk2 => ?_
      have hjl := (List.getElem?_eq_some_iff.1 hq)
      have hil := (List.getElem?_eq_some_iff.1 hp)
      have := List.pairwise_iff_getElem.1 pair i j hil.1 hjl.1 (by omega)
      rw [hil.2, hjl.2] at this
      exact this k hk2 hk
    have hw : IntKind.i64.wrap ((i : Int) + 1) = ((i + 1 : Nat) : Int) := wrap_i64 (by omega) (by omega)
    have next : ∀ w2, Go.Rd.Ext w1 w2 → law9_BundleSplits.J2 (Good W) VA fr.length vc A fr.length c YA fr.length yc i false w2 := by
      intro w2 x2
      refine ifP_f rfl ?_
      rw [hw]
      exact ih (i + 1) (by omega) (by omega) w2 (x1.trans x2) (hdr1.ext x2) (fun j q hj hq => (parts1 j q hj hq).ext x2) (y1.ext x2)
    refine ⟨rfl, ?_⟩
    rw [hw]
    by_cases hlast : i + 1 < fr.length
    · have hq : ps[i + 1]? = some (ps[i + 1]'(by omega)) := List.getElem?_eq_getElem _
      generalize ps[i + 1]'(by omega) = q at hq
      obtain ⟨a2, ha2, hc2⟩ := hdr1.cells (i + 1) q.v (by rw [List.getElem?_map, hq]; rfl)
      obtain ⟨b2, r, hb2, hcr, hir, er⟩ := (want.ext x1).at (i := i + 1) hlast
      have oq := parts1 (i + 1) q (Nat.le_refl _) hq
      have eq : q.xs = r.xs := by
        have : fr[i + 1]? = some q.xs := by rw [← hfr, List.getElem?_map, hq]; rfl
        rw [er] at this
        exact (Option.some.inj this).symm
      let S : World → Prop := fun u => u.cell? (a2.add (i + 1)) = some q.v ∧ u.cell? (b2.add ((i + 1) * 1)) = some (.slice r.A r.n r.c)
      refine ⟨S, ⟨(Go.Rd.Ext.drew w1).cell hc2, (Go.Rd.Ext.drew w1).cell hcr⟩, letD fun w2 _ x2 => ifP_yes (by omega) ⟨by omega, by omega, a2, ha2, q.A, q.n, q.c, fun u hu => ?_, by omega, by omega, b2, hb2, r.A, r.n, r.c, fun u hu => ?_, (sameBytes_spec ((oq.ext x2).rd (hpl q (List.mem_of_getElem? hq))) (hir.ext x2) ?_).mono ?_⟩⟩
      · rw [Int.toNat_natCast, Nat.mul_one]; exact hu.1
      · rw [Int.toNat_natCast]; exact hu.2
      · have := hl q.xs (by rw [← hfr]; exact List.mem_map.2 ⟨q, List.mem_of_getElem? hq, rfl⟩)
        rw [hpl q (List.mem_of_getElem? hq)] at this
        omega
      · rintro v w3 ⟨rfl, x3⟩
        refine ⟨_, rfl, ?_⟩
        rw [show (!decide (q.xs = r.xs)) = false by rw [eq]; simp]
        exact next w3 (x2.trans x3)
    · refine ⟨fun _ => True, trivial, letD fun w2 _ x2 => ifP_no (by omega) (next w2 x2)⟩

theorem BundleSplits_main {k : Lnk} {B : Option Addr} {n bc : Nat} {xs : List Int} {most first : Int} (hb : IBytes W B n xs) (hc : n ≤ bc) (hn : n ≤ 140737488351232) (m0 : -9223372036854775808 ≤ most) (m1 : most ≤ 9223372036854775807) (f0 : 0 ≤ first) :
    Run Try.prog 3 #[.agg #[.bool k.ac, .bool k.pf, .int .i64 k.mp], .slice B n bc, .int .i64 most, .int .u32 first] W (Good W) := by
  have hl := hb.len
  obtain ⟨q1, q2⟩ := split_small (k := k) (most := most) (first := first) (xs := xs)
  refine law9_BundleSplits.ok (letA fun w1 h1 x1 s1 => ?_)
  have hk1 : LAt w1 W.heap.size k := h1
  refine hk1.rd ((rsplit_spec (k := k) (most := most) (first := first) (hb.ext x1) hc hn m0 m1 f0).mono ?_)
  intro v w2 hv
  obtain ⟨VA, vc, rfl, m2⟩ := hv.form
  have x02 := x1.trans m2.x
  refine ⟨_, _, _, _, rfl, (lendBytes_spec (hb.ext x02) (by omega)).mono ?_⟩
  rintro v w3 ⟨L, lc, rfl, o3, b3, x3⟩
  have x03 := x02.trans x3
  refine ⟨_, _, _, rfl, ((hk1.ext m2.x).ext x3).rd ((split_spec (k := k) (most := most) (first := first) (lent_read o3 hl) (lent_cap o3 hl) hn m0 m1 f0).mono ?_)⟩
  intro v w4 hv
  obtain ⟨A, c, rfl, m4⟩ := hv.form
  have x04 := x03.trans m4.x
  refine ⟨_, _, _, _, rfl, (keptBytes_spec (o3.ext m4.x) (hb.ext x04) (by omega)).mono ?_⟩
  rintro v w5 ⟨rfl, k5⟩
  have z02 := x02.size
  have L3 := o3.lt
  have hk4 := ((hk1.ext m2.x).ext x3).ext m4.x
  have x35 : Go.Rd.Ext w2 w5 := (x3.trans m4.x).fresh k5 fun i hi => b3 i hi
  have hk5 : LAt w5 W.heap.size k := k5.heap hk4 (fun h => by have := b3 _ h; have := m2.x.size; have := x1.size; omega)
  obtain ⟨⟨ps, f4, new4⟩, xx4⟩ := m4
  have f5 := f4.keep k5 fun j hj hj2 => by have := new4 j hj; have := L3 j hj2; omega
  let S : World → Prop := fun u => LAt u W.heap.size k
  refine ⟨_, rfl, ifP_f rfl ⟨S, hk5.ext (Go.Rd.Ext.drew w5), letD fun w6 _ x6 => LAt.rdS (k := k) (fun u hu => hu) ((copyBytes_spec (hb.ext ((x02.trans x35).trans x6)) (by omega)).mono ?_)⟩⟩
  rintro v w7 ⟨C, cc, rfl, o7, l7, b7, x7⟩
  refine ⟨_, _, _, rfl, (hk5.ext x6).ext x7, (split_spec (k := k) (most := most) (first := first) (o7.rd l7) (own_cap o7 l7) hn m0 m1 f0).mono ?_⟩
  intro v w8 hv
  obtain ⟨YA, yc, rfl, m8⟩ := hv.form
  have x57 := x6.trans x7
  have x28 := (x35.trans x57).trans m8.x
  have f8 := f5.ext (x57.trans m8.x)
  refine ⟨_, _, _, _, rfl, ifP_nne rfl (ifP_nne rfl ?_)⟩
  have rx : LRd w8 A (frR (splitX k most first xs)).length (frR (splitX k most first xs)) := by
    refine ⟨ps, ⟨f8.len, fun i p hp => ?_⟩, fun p hp => ?_, f8.frs⟩
    · obtain ⟨a, ha, hc⟩ := f8.own.cells i p.v (by rw [List.getElem?_map, hp]; rfl)
      exact ⟨a, ha, by rw [Nat.mul_one]; exact hc⟩
    · obtain ⟨o, l⟩ := f8.part p hp
      exact o.rd l
  refine (sameLists_spec rx (m2.rd.ext x28) (by omega) (fun f hf => by have := q2 f hf; omega)).mono ?_
  rintro v w9 ⟨rfl, x9⟩
  refine ⟨_, rfl, ?_⟩
  rw [show (!decide (frR (splitX k most first xs) = frR (splitX k most first xs))) = false by simp]
  obtain ⟨⟨qs, y8, newy⟩, xx8⟩ := m8
  have f9 := f8.ext x9
  have z57 := x57.size
  have z3 := x3.size
  exact ifP_f rfl (spoil_loop (Wa := w2) (fr := frR (splitX k most first xs)) (ps := ps) (qs := qs) x02 m2.rd q1 q2 f9.len f9.frs (fun p hp => (f9.part p hp).2) (fun p hp j hj => ⟨fun h => f9.sep hp h hj, by have := new4 j (.inr ⟨p, hp, hj⟩); omega, fun h => by have := newy j h; have := f5.lt (.inr ⟨p, hp, hj⟩); omega⟩) f9.pair _ 0 rfl (Nat.zero_le _) w9 (x28.trans x9) f9.own (fun j p _ hp => (f9.part p (List.mem_of_getElem? hp)).1) (y8.ext x9))
end
end Go.Proofs.Ytgjabpgkiaojhaa
