/- Package frame: Look. -/
import Derived.Test.YthcpkjfccfgiaaaFLook2
namespace Go.Proofs.Ythcpkjfccfgiaaa
open Go.Rd Go.RowKit
set_option linter.unusedVariables false
set_option linter.unusedSimpArgs false
set_option maxRecDepth 100000

theorem look_spec {W : World} {k : Lnk} {A : Option Addr} {n c : Nat} {xs : List Int} (hb : IBytes W A n xs) (hx : ∀ x ∈ xs, 0 ≤ x ∧ x ≤ 255) (hc : n ≤ c) (hA : ∀ q, blk A q → q < W.heap.size) :
    Run Try.prog 12 #[.agg #[.bool k.ac, .bool k.pf, .int .i64 k.mp], .slice A n c] W fun v w' => v = ansX (lookX k xs) ∧ Ext W w' := by
  have hl := hb.len
  have hbody : Try.f12.body = some look_head.body := by kernel_rfl
  let R : Ending → World → Prop := fun e w' => ∃ v, e = .returned v ∧ v = ansX (lookX k xs) ∧ Ext W w'
  refine calls_of_wp_defers (R := R) Try.func12 hbody ?_
  have toExt : ∀ {w : World}, Fr W w → Ext W w := fun f => (Keep.of_below f).mono fun k hk hs => by have : W.heap.size ≤ k := hs; omega
  have est : ({ tmps := #[.agg #[.bool k.ac, .bool k.pf, .int .i64 k.mp], .slice A n c] ++ Array.replicate (Try.f12.ntmps - (#[Value.agg #[.bool k.ac, .bool k.pf, .int .i64 k.mp], .slice A n c]).size) undef, defers := [] } : Act) =
      act [] [.agg #[.bool k.ac, .bool k.pf, .int .i64 k.mp], .slice A n c, undef, undef, undef, undef, undef, undef, undef, undef, undef, undef, undef, undef, undef, undef, undef, undef, undef, undef, undef, undef, undef, undef, undef, undef, undef, undef, undef, undef, undef, undef, undef, undef, undef, undef, undef, undef, undef, undef, undef, undef, undef, undef] := by kernel_rfl
  rw [est]
  -- where it ends without a walk
  let KW : Go.Rd.Ex → Value → Value → World → Prop := fun e v4 v5 w => e = .ret ∧ ∃ p4 p5 v e0, v4 = .pointer (some ⟨p4, 0, none⟩) ∧ v5 = .pointer (some ⟨p5, 0, none⟩) ∧ Out W w p4 p5 v e0 ∧ Value.tuple #[v.v, .int .i64 e0] = ansX (lookX k xs)
  let J : St → World → Prop := fun st w => hasLen st 44 = true ∧ ∃ p4 p5 b v e0, get st 4 = .pointer (some ⟨p4, 0, none⟩) ∧ get st 5 = .pointer (some ⟨p5, 0, none⟩) ∧ get st 7 = .pointer (some ⟨b, 0, none⟩) ∧ Out W w p4 p5 v e0 ∧ RAt w b k A n c 0 vw0 ∧ W.heap.size ≤ b ∧ p4 ≠ b ∧ p5 ≠ b ∧ linkOk k = true
  refine spine_wp (Z := none) (D := []) (live := look_head.live) (J := J) (K := fun e st w => KW e (get st 4) (get st 5) w) (n := 2) Try.mixed (fun Y hY => by cases hY) ?_ ?_ (Eq.mpr (look_head.eq KW J k.ac k.pf k.mp A n c W) ?_)
  · rintro e st w ⟨rfl, p4, p5, v, e0, h4, h5, ho, he⟩
    exact ⟨_, look_results ho h4 h5, _, rfl, he, toExt ho.fr⟩
  · -- behind the place where it defers
    rintro st w ⟨hl44, p4, p5, b, v, e0, h4, h5, h7, ho, hr, hnb, n4, n5, hk⟩
    have hcut : restAt 2 look_head.body = .seq (.region 5 #[opAt (sub look_head.body [1, 1, 1, 0]) 0, opAt (sub look_head.body [1, 1, 1, 0]) 1] false) (sub look_head.body [1, 1, 1, 1]) := by kernel_rfl
    rw [hcut]
    refine wp_seq (wp_defer_two (g := 26) (i := 4) (j := 5) (d := 20) (cc := ⟨.value (.tmp 20), #[], #[]⟩) (by kernel_rfl) (by kernel_rfl) (by kernel_rfl) (by kernel_rfl) rfl rfl (by kernel_rfl) (by kernel_rfl) (by rw [hasLen_iff hl44]; decide) ?_)
    show Code.wp _ _ _ _ _
    rw [h4, h5]
    generalize hst : st.set 20 (Value.func (.func 26) #[] #[.pointer (some ⟨p4, 0, none⟩), .pointer (some ⟨p5, 0, none⟩)]) = st'
    have ht' : Tl st' p4 p5 b := by
      rw [← hst]
      exact ⟨hasLen_set hl44, (get_set_ne (by decide)).trans h4, (get_set_ne (by decide)).trans h5, (get_set_ne (by decide)).trans h7⟩
    let d : Deferred := { target := .fn (.func 26) #[.pointer (some ⟨p4, 0, none⟩), .pointer (some ⟨p5, 0, none⟩)], args := #[] }
    have hinv : ∀ w : World, (invoke (.fn (.func 26) #[.pointer (some ⟨p4, 0, none⟩), .pointer (some ⟨p5, 0, none⟩)]) #[]).run Try.prog w = .ok (.enter 26 (cloArgs p4 p5)) w := by
      intro w
      have := run_callFunc (P := Try.prog) (g := 26) (args := cloArgs p4 p5) (by kernel_rfl) w
      simp [invoke, cloArgs, this]
    refine look_tail (D := [d]) hb hx hc hA ?_ ?_ hk n4 n5 hnb ht' ho hr
    · rintro st w v hst ho he
      refine leaves_cons (by simp) (hinv w) ((clo_none ho).mono ?_)
      rintro r u w2 ⟨rfl, rfl, ho2⟩
      exact ⟨_, look_results ho2 hst.t4 hst.t5, _, rfl, by rw [he]; rfl, toExt ho2.fr⟩
    · rintro st w v e hst ho he
      show Leaves _ _ _ _ _ _ _
      refine leaves_cons (by simp) (hinv w) ((clo_stop ho).mono ?_)
      rintro r u w2 ⟨rfl, rfl, ho2⟩
      exact ⟨_, look_results ho2 hst.t4 hst.t5, _, rfl, by rw [he]; rfl, toExt ho2.fr⟩
  · -- up to that place
    refine letA fun w1 h1 x1 s1 => letA fun w2 h2 x2 s2 => letA fun w3 h3 x3 s3 => ?_
    have h13 := x3.heap (x2.heap h1)
    have h23 := x3.heap h2
    have x03 : Go.Rd.Ext W w3 := (x1.trans x2).trans x3
    have c1 : w3.cell? ((newA W).add 1) = some (.bool k.pf) := by rw [newA, add_mk]; exact (cell_of h13).trans rfl
    have c2 : w3.cell? ((newA W).add 2) = some (.int .i64 k.mp) := by rw [newA, add_mk]; exact (cell_of h13).trans rfl
    refine ⟨k.ac, (cell_of h13).trans rfl, k.pf, c1, k.mp, c2, fcheck_spec.mono ?_⟩
    rintro v w4 ⟨rfl, x4⟩
    refine ⟨_, rfl, ifP_bne.2 ⟨fun hk => ?_, fun hk => ?_⟩⟩
    · have hk' : linkOk k = false := by
        cases h : linkOk k with
        | false => rfl
        | true => rw [h] at hk; exact absurd rfl hk
      have e70 : (if linkOk k = true then (0 : Int) else 70) = 70 := by rw [hk']; rfl
      rw [e70]
      refine st9 (x4.heap h23) rfl (v := vw0) fun w5 h5 k5 => ?_
      have a5 := k5.heap (x4.heap h3) (by show w2.heap.size ≠ w1.heap.size; omega)
      refine cell_put a5 (i := 0) (by simp) rfl fun w6 h6 k6 => ⟨rfl, _, _, vw0, 70, rfl, rfl, ?_, ?_⟩
      · exact { at4 := k6.heap h5 (by show w1.heap.size ≠ w2.heap.size; omega), at5 := h6, ne := by show w1.heap.size ≠ w2.heap.size; omega, new4 := by show W.heap.size ≤ w1.heap.size; omega, new5 := by show W.heap.size ≤ w2.heap.size; omega, fr := ((Fr.of_ext (x03.trans x4)).step k5 fun i hi => by rw [hi]; show W.heap.size ≤ w1.heap.size; omega).step k6 fun i hi => by rw [hi]; show W.heap.size ≤ w2.heap.size; omega }
      · unfold lookX; rw [if_pos hk']; rfl
    · have hk' : linkOk k = true := by
        cases h : linkOk k with
        | true => rfl
        | false => rw [h] at hk; exact absurd hk (by decide)
      have e0 : (if linkOk k = true then (0 : Int) else 70) = 0 := by rw [hk']; rfl
      rw [e0]
      have s4 := x4.size
      refine ⟨k.ac, x4.cell ((cell_of h13).trans rfl), k.pf, x4.cell c1, k.mp, x4.cell c2, letA fun w5 h5 x5 s5 => ?_⟩
      refine ⟨by kernel_rfl, _, _, _, vw0, 0, rfl, rfl, rfl, ?_, h5, ?_, ?_, ?_, hk'⟩
      · exact { at4 := x5.heap (x4.heap h23), at5 := x5.heap (x4.heap h3), ne := by show w1.heap.size ≠ w2.heap.size; omega, new4 := by show W.heap.size ≤ w1.heap.size; omega, new5 := by show W.heap.size ≤ w2.heap.size; omega, fr := Fr.of_ext ((x03.trans x4).trans x5) }
      · show W.heap.size ≤ w4.heap.size; omega
      · show w1.heap.size ≠ w4.heap.size; omega
      · show w2.heap.size ≠ w4.heap.size; omega
end Go.Proofs.Ythcpkjfccfgiaaa
