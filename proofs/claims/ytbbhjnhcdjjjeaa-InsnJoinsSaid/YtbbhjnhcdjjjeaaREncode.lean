/- The document's answer: Encode. -/
import Derived.Test.YtbbhjnhcdjjjeaaRBytes
namespace Go.Proofs.Ytbbhjnhcdjjjeaa
open Go.Rd Go.RowKit
set_option linter.unusedVariables false
set_option linter.unusedSimpArgs false

theorem rencode_spec {w : World} {A : Option Addr} {n c : Nat} {ps : List Ins} (h : IInsns w A n ps) (hok : ∀ p ∈ ps, p.ok) (hn : n ≤ 140737488351232) :
    Run Try.prog 8 #[.slice A n c] w (EncOf w n ps) := by
  have loop : n ≤ 4096 → ∀ (d i : Nat), n - i = d → i ≤ n → ∀ (O : Option Addr) (oc : Nat) (w' : World), OBytes w' O oc ((ps.take i).flatMap encI) → (∀ k, blk O k → w.heap.size ≤ k) → Ext w w' →
      ref2_Encode.L0 (EncOf w n ps) A n c O (8 * i) oc i w' := by
    intro hn d
    induction d with
    | zero =>
      intro i hd hi O oc w' o b x
      have : i = n := by omega
      subst this
      refine ref2_Encode.L0_step (ifP_no (by omega) ?_)
      rw [List.take_of_length_le (by rw [h.len]; omega)] at o
      unfold EncOf
      rw [if_neg (by omega)]
      exact ⟨O, oc, rfl, o, b, x⟩
    | succ d ih =>
      intro i hd hi O oc w' o b x
      obtain ⟨a, p, rfl, gp, ca⟩ := (h.ext x).at Ins.len (by omega) (i := i) (by omega)
      obtain ⟨⟨p0, p1⟩, ⟨p2, p3⟩, ⟨p4, p5⟩, p6, p7⟩ := hok p (List.mem_of_getElem? gp)
      have rd : ∀ {u : World}, Ext w' u → ∀ j v, p.v[j]? = some v → u.cell? ((a.add (Int.toNat (i : Int) * 4)).add j) = some v := fun xu j v hv => xu.cell (ca j v hv)
      refine ref2_Encode.L0_step (ifP_yes (by omega) ⟨by omega, by omega, a, rfl, p.c, ca 0 _ rfl, ?_⟩)
      rw [wrap_u32 (x := p.c) (by omega) (by omega)]
      refine (rbytes_spec (.inr (.inl rfl))).mono ?_
      rintro v w1 ⟨B1, c1, rfl, o1, l1, b1, x1⟩
      have lo : ((ps.take i).flatMap encI).length = 8 * i := by rw [encL_length, List.length_take, h.len]; omega
      obtain ⟨O2, oc2, w2, hr2, o2, _, k2, n2⟩ := append_own slBytes (ty := 23) (n := 8 * i) (d := c1) (o.ext x1) (by rw [List.length_map, lo]; omega) o1.cells (m := 2) (by rw [List.length_map, fieldB_length]; rfl) (cellsBytes _) (by omega) (by omega)
      refine ⟨B1, _, c1, rfl, _, w2, hr2, O2, _, oc2, rfl, ?_⟩
      have x02 : Ext w w2 := (x.trans x1).fresh k2 fun k hk => b k hk
      have b2 : ∀ k, blk O2 k → w.heap.size ≤ k := fun k hk => (n2 k hk).elim (b k) fun h => by have := (x.trans x1).size; omega
      have rd : ∀ {u : World}, Ext w u → ∀ j v, p.v[j]? = some v → u.cell? ((a.add (Int.toNat (i : Int) * 4)).add j) = some v := by
        intro u xu j v hv
        obtain ⟨a', p', ha, gp', ca'⟩ := (h.ext xu).at Ins.len (by omega) (i := i) (by omega)
        obtain rfl := Option.some.inj ha
        rw [gp] at gp'
        obtain rfl := Option.some.inj gp'
        exact ca' j v hv
      refine ⟨fun u => Ext w u, x02.trans (Ext.drew _), letD fun w3 h3 x3 => ⟨by omega, by omega, a, rfl, p.t, fun u hu => rd hu 1 _ rfl, by omega, by omega, a, rfl, p.f, fun u hu => rd hu 2 _ rfl, letA fun w4 h4 x4 s4 => ⟨(x02.trans x3).trans x4, ?_⟩⟩⟩
      have hB : RdC w4 (some (newA w3)) ([p.t, p.f].map (Value.int .u8)) := by
        have : OBytes w4 (some (newA w3)) 2 [p.t, p.f] := .inr ⟨_, [], rfl, h4, rfl⟩
        exact this.cells
      obtain ⟨O5, oc5, w5, hr5, o5, _, k5, n5⟩ := append_own slBytes (ty := 23) (n := 8 * i + 2) (d := 2) (o2.ext (x3.trans x4)) (by rw [List.length_append, List.length_map, List.length_map, lo, fieldB_length]; omega) hB (m := 2) rfl (cellsBytes _) (by omega) (by omega)
      have x05 : Ext w w5 := (x02.trans (x3.trans x4)).fresh k5 fun k hk => b2 k hk
      have b5 : ∀ k, blk O5 k → w.heap.size ≤ k := fun k hk => (n5 k hk).elim (b2 k) fun h => by have := (x02.trans (x3.trans x4)).size; omega
      refine ⟨_, w5, hr5, O5, _, oc5, rfl, x05, ?_⟩
      refine ⟨by omega, by omega, a, rfl, p.k, rd x05 3 _ rfl, (rbytes_spec (.inr (.inr rfl))).mono ?_⟩
      rintro v w6 ⟨B6, c6, rfl, o6, l6, b6, x6⟩
      obtain ⟨O7, oc7, w7, hr7, o7, _, k7, n7⟩ := append_own slBytes (ty := 23) (n := 8 * i + 2 + 2) (d := c6) (o5.ext x6) (by simp [lo, fieldB_length]) o6.cells (m := 4) (by rw [List.length_map, fieldB_length]; rfl) (cellsBytes _) (by omega) (by omega)
      refine ⟨B6, _, c6, rfl, _, w7, hr7, O7, _, oc7, rfl, ?_⟩
      rw [wrap_i64 (by omega) (by omega)]
      refine ih (i + 1) (by omega) (by omega) O7 oc7 w7 ?_ (fun k hk => (n7 k hk).elim (b5 k) fun h => by have := (x05.trans x6).size; omega) ((x05.trans x6).fresh k7 fun k hk => b5 k hk)
      rw [List.take_add_one, gp, OBytes, List.flatMap_append, List.map_append]
      have e : encI p = fieldB 2 p.c ++ ([p.t, p.f] ++ fieldB 4 p.k) := by rw [encI, fieldB_one p2 p3, fieldB_one p4 p5]; rfl
      simp only [Option.toList_some, List.flatMap_cons, List.flatMap_nil, List.append_nil, e, List.map_append]
      simpa only [List.append_assoc] using o7
  refine ref2_Encode.ok (ifP_decide.2 ⟨fun hm => ?_, fun hm => ?_⟩)
  · unfold EncOf
    rw [if_pos (by omega)]
    exact ⟨rfl, rfl⟩
  · exact loop (by omega) n 0 (by omega) (by omega) _ _ w Own.empty (fun k hk => (blk_none hk).elim) (Ext.refl w)
end Go.Proofs.Ytbbhjnhcdjjjeaa
