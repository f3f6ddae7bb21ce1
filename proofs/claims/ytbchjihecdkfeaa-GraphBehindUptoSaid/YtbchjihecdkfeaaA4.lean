/- Lent blocks, looked at again. -/
import Derived.Test.YtbchjihecdkfeaaA3
namespace Go.Proofs.Ytbchjihecdkfeaa
open Go.Rd Go.RowKit
set_option linter.unusedVariables false
set_option linter.unusedSimpArgs false
set_option maxRecDepth 100000
section
variable {w w' W : World} {A B : Option Addr} {n c d : Nat} {ps qs : List BP}
theorem keptBlocks_two {w₀ : World} {okb : Bool} {m fc : Nat} {R : Value → World → Prop} (hm : m ≤ 281474976710656) (hR : ∀ w, Keep (blk A) w₀ w → R (.bool okb) w) :
    ∀ (k i : Nat), m - i = k → i ≤ m → ∀ (w : World), Wr 49 8 w A m → Keep (blk A) w₀ w → law0_KeptBlocks.L2 R A m fc okb i w := by
  intro k
  induction k with
  | zero => intro i hk hi w hO hw; exact law0_KeptBlocks.L2_step (ifP_no (by omega) (hR w hw))
  | succ k ih =>
    intro i hk hi w hO hw
    refine law0_KeptBlocks.L2_step (ifP_yes (by omega) ⟨by omega, by omega, hO.store (i := i) (by omega) hO rfl rfl fun w1 h1 _ k1 => ?_⟩)
    rw [wrap_i64 (by omega) (by omega)]
    exact ih (i + 1) (by omega) (by omega) w1 h1 (hw.trans' k1)
theorem keptBlocks_spec (hx : IBl W B n ps) (hs : ∀ p ∈ ps, p.n * 8 ≤ 140737488351232) (hn : n * 56 ≤ 140737488351232) (x : Go.Rd.Ext W w) (hO : GOk [bad, bad, bad] [roomB, roomB] w A c qs) (hb : blks qs = blks ps) (hq : qs.length = n) (hf : ∀ k, gff A qs k → W.heap.size ≤ k) :
    Run Try.prog 13 #[.slice A n c, .slice B n d] w fun v w' => v = .bool true ∧ Keep (gff A qs) w w' := by
  have hl := hx.len
  have hcap : qs.length + 2 ≤ c := hO.cap
  have e2 : IntKind.i64.wrap ((n : Int) + 2) = ((n + 2 : Nat) : Int) := by rw [wrap_i64 (by omega) (by omega)]; rfl
  have e1 : IntKind.i64.wrap ((n : Int) + 1) = ((n + 1 : Nat) : Int) := by rw [wrap_i64 (by omega) (by omega)]; rfl
  have same : ∀ (i : Nat) (p q : BP), ps[i]? = some p → qs[i]? = some q → q.b = p.b ∧ q.n = p.n := fun i p q hp hq' => by
    have e : q.b = p.b := by
      have h1 : (blks qs)[i]? = some q.b := by rw [blks, List.getElem?_map, hq']; rfl
      have h2 : (blks ps)[i]? = some p.b := by rw [blks, List.getElem?_map, hp]; rfl
      rw [hb, h2] at h1
      exact (Option.some.inj h1).symm
    refine ⟨e, ?_⟩
    rw [← (hO.part q (List.mem_of_getElem? hq')).2, e]
    exact (hx.code p (List.mem_of_getElem? hp)).len
  have hsq : ∀ q ∈ qs, q.n ≤ 281474976710656 := fun q hq' => by
    obtain ⟨i, hi⟩ := List.getElem?_of_mem hq'
    have hlt := (List.getElem?_eq_some_iff.1 hi).1
    obtain ⟨p, hp⟩ : ∃ p, ps[i]? = some p := ⟨_, List.getElem?_eq_getElem (by omega)⟩
    have := (same i p q hp hi).2
    have := hs p (List.mem_of_getElem? hp)
    omega
  refine law0_KeptBlocks.ok ?_
  rw [law0_KeptBlocks.vc, e2, e1]
  refine ⟨by omega, by omega, by omega, (sameBlocks_spec (hO.read hq) (hx.ext x) hsq (by omega)).mono ?_⟩
  rintro v w1 ⟨rfl, x1⟩
  rw [decide_eq_true hb, subA_zero]
  have hO1 := hO.ext x1
  have hfull : RdM BP.v w1 A (n + 2) (qs ++ [roomB, roomB]) := hO1.own.rdM (by rw [List.length_append, hq]; rfl)
  obtain ⟨a, p1, ha, hp1, hc1⟩ := RdM.at BP.len (by omega) hfull (i := n) (by omega)
  obtain ⟨a', p2, ha', hp2, hc2⟩ := RdM.at BP.len (by omega) hfull (i := n + 1) (by omega)
  obtain rfl : a = a' := by rw [ha] at ha'; exact Option.some.inj ha'
  obtain rfl : p1 = roomB := by
    rw [List.getElem?_append_right (by omega), hq, Nat.sub_self] at hp1
    exact (Option.some.inj hp1).symm
  obtain rfl : p2 = roomB := by
    rw [List.getElem?_append_right (by omega), hq, show n + 1 - n = 1 by omega] at hp2
    exact (Option.some.inj hp2).symm
  have t0 : Int.toNat ((n : Nat) : Int) = n := Int.toNat_natCast n
  have t1 : Int.toNat ((n + 1 : Nat) : Int) = n + 1 := Int.toNat_natCast (n + 1)
  have t2 : Int.toNat ((n + 2 : Nat) : Int) - 0 = n + 2 := by rw [Int.toNat_natCast]; rfl
  rw [t0, t1, t2]
  refine ⟨_, rfl, ifP_t rfl ⟨by omega, by omega, a, ha, _, hc1 1 _ rfl, ifP_t rfl ⟨by omega, by omega, a, ha, _, hc2 1 _ rfl, ?_⟩⟩⟩
  show law0_KeptBlocks.L0 _ _ _ _ _ _ _ _ _ _ true 0 _
  suffices H : ∀ (k i : Nat), n - i = k → i ≤ n → ∀ w', Keep (gff A qs) w w' → (∀ (j : Nat) (q : BP), i ≤ j → qs[j]? = some q → OInsns w' q.A q.c (q.b.code ++ [bad, bad, bad])) → Own 49 8 w' A c ((qs ++ [roomB, roomB]).flatMap BP.v) →
      law0_KeptBlocks.L0 (fun v w' => v = .bool true ∧ Keep (gff A qs) w w') A n c B n d A (n + 2) (c - 0) true i w' from H n 0 (by omega) (by omega) w1 (Keep.ext x1) (fun j q _ hj => (hO1.part q (List.mem_of_getElem? hj)).1) hO1.own
  intro k
  induction k with
  | zero =>
    intro i hk hi w' k' hp ho
    refine law0_KeptBlocks.L0_step (ifP_no (by omega) ?_)
    exact keptBlocks_two (by omega) (fun w2 h2 => ⟨rfl, k'.trans h2 (fun _ _ h => h) fun j _ h => .inl h⟩) (n + 2) 0 (by omega) (by omega) w' (ho.wr (by omega) (by rw [flat_len BP.len, List.length_append, hq]; rfl)) (Keep.refl w')
  | succ k ih =>
    intro i hk hi w' k' hp ho
    have xw : Go.Rd.Ext W w' := x.fresh k' hf
    obtain ⟨q, hqi⟩ : ∃ q, qs[i]? = some q := ⟨_, List.getElem?_eq_getElem (by omega)⟩
    obtain ⟨p, hpi⟩ : ∃ p, ps[i]? = some p := ⟨_, List.getElem?_eq_getElem (by omega)⟩
    obtain ⟨eb, en⟩ := same i p q hpi hqi
    obtain ⟨a2, p3, ha2, hp3, _⟩ := RdM.at BP.len (by omega) (show RdM BP.v w' A (n + 2) (qs ++ [roomB, roomB]) from ho.rdM (by rw [List.length_append, hq]; rfl)) (i := i) (by omega)
    have rq : ∀ u, Go.Rd.Ext w' u → u.cell? (a2.add (i * 8)) = some (.slice q.A q.n q.c) := fun u xu => by
      obtain ⟨a', p', ha', hp', h8⟩ := RdM.at BP.len (by omega) (show RdM BP.v u A (n + 2) (qs ++ [roomB, roomB]) from (ho.ext xu).rdM (by rw [List.length_append, hq]; rfl)) (i := i) (by omega)
      obtain rfl : a2 = a' := by rw [ha2] at ha'; exact Option.some.inj ha'
      rw [List.getElem?_append_left (by omega), hqi] at hp'
      obtain rfl := Option.some.inj hp'
      have := h8 0 _ rfl
      rwa [add_zero] at this
    obtain ⟨b2, p4, hb2, hp4, _⟩ := (hx.ext xw).at8 (i := i) (by omega)
    have rp : ∀ u, Go.Rd.Ext w' u → u.cell? (b2.add (i * 8)) = some (.slice p.A p.n p.c) := fun u xu => by
      obtain ⟨a', p', ha', hp', h8⟩ := (hx.ext (xw.trans xu)).at8 (i := i) (by omega)
      obtain rfl : b2 = a' := by rw [hb2] at ha'; exact Option.some.inj ha'
      rw [hpi] at hp'
      obtain rfl := Option.some.inj hp'
      exact h8.s
    have ht : Int.toNat ((i : Nat) : Int) = i := Int.toNat_natCast i
    refine law0_KeptBlocks.L0_step (ifP_yes (by omega) ⟨fun u => Go.Rd.Ext w' u, Go.Rd.Ext.drew w', letD fun w2 _ x2 => ?_⟩)
    rw [ht]
    refine ⟨by omega, by omega, a2, ha2, _, _, _, rq, by omega, by omega, b2, hb2, _, _, _, rp, ?_⟩
    rw [en]
    have oq := (hp i q (Nat.le_refl i) hqi).ext x2
    rw [eb] at oq
    refine (keptInsns_spec oq (RdM.ext (hx.code p (List.mem_of_getElem? hpi)) (xw.trans x2)) (hs p (List.mem_of_getElem? hpi))).mono ?_
    rintro v w3 ⟨rfl, k3⟩
    refine ⟨_, rfl, ifP_t rfl ?_⟩
    unfold law0_KeptBlocks.J1
    rw [wrap_i64 (by omega) (by omega)]
    refine ih (i + 1) (by omega) (by omega) w3 ((k'.trans' (Keep.ext x2)).trans k3 (fun _ _ h => h) fun j _ h => .inr ⟨q, List.mem_of_getElem? hqi, h⟩) (fun j r hj hr => ?_) ((ho.ext x2).keep k3 fun j hj hj2 => hO.sep (List.mem_of_getElem? hqi) hj hj2)
    refine ((hp j r (by omega) hr).ext x2).keep k3 fun l hl1 hl2 => ?_
    have hlt := (List.getElem?_eq_some_iff.1 hr)
    have hlt2 := (List.getElem?_eq_some_iff.1 hqi)
    have := (List.pairwise_iff_getElem.1 hO.pair) i j hlt2.1 hlt.1 (by omega)
    rw [hlt2.2, hlt.2] at this
    exact this l hl2 hl1
end
end Go.Proofs.Ytbchjihecdkfeaa
