/- The document's queue: Put, Take. -/
import Derived.Test.YthhfipjmjnfjlaaC14
namespace Go.Proofs.Ythhfipjmjnfjlaa
open Go.Rd Go.RowKit
set_option linter.unusedVariables false
set_option linter.unusedSimpArgs false
set_option maxRecDepth 100000
def WStep (w : World) (q : Nat) (F : Nat → Prop) (cl' : List Cls) (w' : World) : Prop := ∃ F', WOk w' q F' cl' ∧ Keep F w w' ∧ ∀ k, F' k → F k ∨ w.heap.size ≤ k
theorem WStep.same {w w' : World} {q : Nat} {F : Nat → Prop} {cl : List Cls} (h : WOk w q F cl) (x : Ext w w') : WStep w q F cl w' := ⟨F, h.ext x, Keep.ext x, fun k hk => .inl hk⟩
theorem radd_spec {w : World} {a : Int} (h0 : 0 ≤ a) (h1 : a ≤ 4294967295) : Run Try.prog 39 #[.int .u32 a, .int .u32 1] w fun v w' => v = .int .u32 (min (a + 1) 4294967295) ∧ w' = w := by
  have e : IntKind.u32.wrap (4294967295 - a) = 4294967295 - a := wrap_u32 (by omega) (by omega)
  refine ref1_Add.ok ?_
  rw [ref1_Add.vc, e]
  refine ifP_decide.2 ⟨fun h => ⟨?_, rfl⟩, fun h => ⟨?_, rfl⟩⟩
  · rw [show min (a + 1) 4294967295 = 4294967295 by omega]
  · rw [wrap_u32 (by omega) (by omega), show min (a + 1) 4294967295 = a + 1 by omega]
section
variable {w w' : World} {q : Nat} {F : Nat → Prop} {cl : List Cls} {D X L : Option Addr} {dc xc lc : Nat} {S : List DSpot}
theorem WAt.updLost {i : Nat} {C : Cls} {v : Int} (h : WAt w q cl D dc X xc L lc S) (hC : cl[i]? = some C) (hv : 0 ≤ v ∧ v ≤ 4294967295) (k : Keep (blk L) w w') (ho : OWords w' L lc ((cl.map (·.lost)).set i v)) : WAt w' q (cl.set i { C with lost := v }) D dc X xc L lc S := by
  have hic : i < cl.length := (List.getElem?_eq_some_iff.1 hC).1
  have md : (cl.set i { C with lost := v }).map (·.d) = cl.map (·.d) := by
    refine List.ext_getElem? fun j => ?_
    rw [List.getElem?_map, List.getElem?_map]
    by_cases hj : j = i
    · subst hj
      rw [List.getElem?_set_self hic, hC]
      rfl
    · rw [List.getElem?_set_ne (fun e => hj e.symm)]
  refine { head := ?_, dep := ?_, frs := ?_, lost := ?_, slen := ?_, each := ?_, sep := h.sep, ok := ?_, len := ?_ }
  · rw [List.length_set]
    exact k.heap h.head fun hx => (h.nL hx).1 rfl
  · rw [md]
    exact h.dep.keep k fun j hj hx => (h.nL hx).2.1 hj
  · exact h.frs.keep k fun j hj hx => (h.nL hx).2.2.1 hj
  · rw [List.map_set]
    exact ho
  · rw [List.length_set]
    exact h.slen
  · intro j t C2 ht hC2
    have f : ∀ C3, cl[j]? = some C3 → FOk w' t.A t.n t.c t.ps C3.fr := fun C3 h3 => (h.each j t C3 ht h3).keep k fun l hl hx => (h.nL hx).2.2.2 t (List.mem_of_getElem? ht) hl
    by_cases hj : j = i
    · subst hj
      rw [List.getElem?_set_self hic] at hC2
      obtain rfl := Option.some.inj hC2
      exact f C hC
    · rw [List.getElem?_set_ne (fun e => hj e.symm)] at hC2
      exact f C2 hC2
  · intro C2 hC2
    rcases List.mem_or_eq_of_mem_set hC2 with h2 | rfl
    · exact h.ok C2 h2
    · have := h.ok C (List.mem_of_getElem? hC)
      exact ⟨this.1, this.2.1, hv⟩
  · rw [List.length_set]
    exact h.len
theorem WAt.c0 (h : WAt w q cl D dc X xc L lc S) : w.cell? ⟨q, 0, none⟩ = some (.slice D cl.length dc) := (cell_of h.head).trans rfl
theorem WAt.c1 (h : WAt w q cl D dc X xc L lc S) : w.cell? ((Addr.mk q 0 none).add 1) = some (.slice X cl.length xc) := by rw [add_mk]; exact (cell_of h.head).trans rfl
theorem WAt.c2 (h : WAt w q cl D dc X xc L lc S) : w.cell? ((Addr.mk q 0 none).add 2) = some (.slice L cl.length lc) := by rw [add_mk]; exact (cell_of h.head).trans rfl
theorem rput_spec {k : Int} {B : Option Addr} {n bc : Nat} {xs : List Int} (h : WOk w q F cl) (hb : IBytes w B n xs) (hn : n ≤ 140737488351232) :
    Run Try.prog 33 #[.pointer (some ⟨q, 0, none⟩), .int .i64 k, .slice B n bc] w fun v w' => v = .tuple #[.bool (putQ cl k xs).1.1, .int .i64 (putQ cl k xs).1.2] ∧ WStep w q F (putQ cl k xs).2 w' := by
  have hq' := h
  obtain ⟨D, dc, X, xc, L, lc, S, hq, rfl⟩ := h
  have hl := hb.len
  have out : k < 0 ∨ (cl.length : Int) ≤ k → (.tuple #[.bool false, .int .i64 211] : Value) = .tuple #[.bool (putQ cl k xs).1.1, .int .i64 (putQ cl k xs).1.2] ∧ WStep w q (wfp q D X L S) (putQ cl k xs).2 w := by
    intro hk
    have e : putQ cl k xs = ((false, 211), cl) := by unfold putQ; rw [if_pos hk]
    rw [e]
    exact ⟨rfl, WStep.same hq' (Ext.refl w)⟩
  refine ref21_Queue_Put.ok (ifP_decide.2 ⟨fun hk => ifP_t rfl (out (.inl hk)), fun hk => ⟨_, rfl, _, _, _, hq.c0, ?_⟩⟩)
  by_cases hk2 : k ≥ (cl.length : Int)
  · rw [decide_eq_true hk2]
    exact ifP_t rfl (out (.inr hk2))
  rw [decide_eq_false hk2]
  refine ifP_f rfl (ifP_decide.2 ⟨fun hlong => ?_, fun hlong => letD fun w1 _ x1 => ?_⟩)
  · have e : putQ cl k xs = ((false, 212), cl) := by unfold putQ; rw [if_neg (by omega), if_pos (by omega)]
    rw [e]
    exact ⟨rfl, WStep.same hq' (Ext.refl w)⟩
  obtain ⟨i, rfl⟩ : ∃ i : Nat, k = i := ⟨k.toNat, by omega⟩
  have hi : i < cl.length := by omega
  have ht : Int.toNat ((i : Nat) : Int) = i := Int.toNat_natCast i
  obtain ⟨s, C, hs, hC, f, sn, ⟨aX, hX, cX⟩, ⟨aD, hD, cD⟩, ⟨aL, hL, cL⟩⟩ := hq.at_ hi
  have ok := hq.ok C (List.mem_of_getElem? hC)
  have hsm := List.mem_of_getElem? hs
  have ep : putQ cl (i : Int) xs = (((C.put xs).1, 0), cl.set i (C.put xs).2) := by
    unfold putQ
    rw [if_neg (by omega), if_neg (by omega), ht, hC]
  have at1 : ∀ u, Ext w u → WAt u q cl D dc X xc L lc S := fun u xu => hq.keep (Keep.ext xu) fun _ _ h => h
  have q1 := at1 w1 x1
  refine ⟨_, rfl, _, _, _, q1.c1, by omega, by omega, aX, hX, _, _, _, by rw [ht]; exact x1.cell cX, _, rfl, _, _, _, q1.c0, by omega, by omega, aD, hD, C.d, by rw [ht]; exact x1.cell cD, ifP_decide.2 ⟨fun hfull => ?_, fun hfull => ?_⟩⟩
  · have eC : C.put xs = (false, { C with lost := min (C.lost + 1) 4294967295 }) := by unfold Cls.put; rw [if_pos (by omega)]
    refine ⟨fun u => Ext w u, x1.trans (Ext.drew w1), letD fun w2 _ x2 => ⟨_, rfl, _, _, _, fun u hu => (at1 u hu).c2, _, rfl, _, _, _, fun u hu => (at1 u hu).c2, by omega, by omega, aL, hL, C.lost, fun u hu => by rw [ht]; exact hu.cell cL, (radd_spec ok.2.2.1 ok.2.2.2).mono ?_⟩⟩
    rintro v w3 ⟨rfl, rfl⟩
    have x03 := x1.trans x2
    have q3 := at1 _ x03
    refine ⟨_, rfl, x03, by omega, by omega, ?_⟩
    refine Own.put1 q3.lost (i := i) rfl (by rw [List.length_map, List.length_map]; exact hi) fun w4 o4 k4 _ => ?_
    have e : ((cl.map (·.lost)).map (Value.int .u32)).set i (.int .u32 (min (C.lost + 1) 4294967295)) = ((cl.map (·.lost)).set i (min (C.lost + 1) 4294967295)).map (Value.int .u32) := by rw [List.map_set]
    rw [e] at o4
    show _ ∧ _
    rw [ep, eC]
    refine ⟨rfl, wfp q D X L S, ⟨D, dc, X, xc, L, lc, S, q3.updLost hC (by omega) k4 o4, rfl⟩, ?_, fun j hj => .inl hj⟩
    exact (Keep.ext x03).trans k4 (fun _ _ h => h) fun j _ h => .inr (.inr (.inr (.inl h)))
  · have eC : C.put xs = (true, { C with fr := C.fr ++ [xs] }) := by unfold Cls.put; rw [if_neg (by omega)]
    refine ⟨fun u => u.heap[q]? = w.heap[q]? ∧ ∀ a, X = some a → u.cell? (a.add (i * 1)) = some (.slice s.A s.n s.c), ⟨?_, ?_⟩, letD fun w2 _ x2 => ?_⟩
    · rw [hq.head]
      exact (x1.trans (Ext.drew w1)).heap hq.head
    · intro a ha
      rw [hX] at ha
      obtain rfl := Option.some.inj ha
      exact (x1.trans (Ext.drew w1)).cell cX
    have stay : ∀ u, Ext w u → (u.heap[q]? = w.heap[q]? ∧ ∀ a, X = some a → u.cell? (a.add (i * 1)) = some (.slice s.A s.n s.c)) := fun u xu => ⟨by rw [hq.head]; exact xu.heap hq.head, fun a ha => by rw [hX] at ha; obtain rfl := Option.some.inj ha; exact xu.cell cX⟩
    have rd1 : ∀ u : World, (u.heap[q]? = w.heap[q]? ∧ ∀ a, X = some a → u.cell? (a.add (i * 1)) = some (.slice s.A s.n s.c)) → u.cell? ((Addr.mk q 0 none).add 1) = some (.slice X cl.length xc) := fun u hu => by
      have := hu.1
      rw [hq.head] at this
      rw [add_mk]
      exact (cell_of this).trans rfl
    have x02 := x1.trans x2
    refine ⟨_, rfl, _, _, _, rd1, _, rfl, _, _, _, rd1, by omega, by omega, aX, hX, _, _, _, fun u hu => by rw [ht]; exact hu.2 aX hX, letA fun w3 h3 x3 s3 => ⟨stay _ (x02.trans x3), ?_⟩⟩
    have x03 := x02.trans x3
    have hO : Own 5 1 w3 (some (newA w2)) 0 [] := .inr ⟨_, [], rfl, h3, rfl⟩
    obtain ⟨A4, c4, w4, hr4, o4, hc4, k4, b4⟩ := append_own slBytes (ty := 35) (n := 0) (d := bc) hO rfl (Rd.cells (hb.ext x03)) (m := n) (by rw [List.length_map, hl, Nat.mul_one]) (cellsBytes xs) (by omega) (by omega)
    rw [Nat.zero_add] at hr4
    rw [List.nil_append] at o4
    have kb : Keep (· = w2.heap.size) w3 w4 := k4.mono fun k _ h => blk_some.1 h
    have x24 : Ext w2 w4 := x3.fresh kb fun j hj => by rw [hj]; exact Nat.le_refl _
    have x04 := x02.trans x24
    have z02 := x02.size
    have z3 := x3.size
    have new4 : ∀ k, blk A4 k → w.heap.size ≤ k := fun k hk => by
      rcases b4 k hk with h | h
      · rw [blk_some.1 h]; exact z02
      · omega
    refine ⟨_, w4, hr4, _, _, _, rfl, stay _ x04, letA fun w5 h5 x5 s5 => ⟨stay _ (x04.trans x5), ?_⟩⟩
    have x05 := x04.trans x5
    have hB : RdC w5 (some (newA w4)) [(Part.mk A4 n c4 xs).v] := by
      have : Own 35 1 w5 (some (newA w4)) 1 [(Part.mk A4 n c4 xs).v] := .inr ⟨_, [], rfl, h5, rfl⟩
      exact this.cells
    obtain ⟨A6, c6, w6, hr6, f6, k6, n6⟩ := FOk.push (d := 1) (ty := 45) (f.ext x05) (by omega) (p := ⟨A4, n, c4, xs⟩) (o4.ext x5) hl (fun k hk hf => by have := new4 k hk; have := f.lt hf; omega) hB
    have q5 := at1 _ x05
    have sub6 : ∀ k, blkC s.A s.c k → s.fp k := fun k hk => .inl hk
    have h6 := k6.heap q5.head fun hx => (hq.nS hsm (sub6 q hx)).1 rfl
    have oX6 := q5.frs.keep k6 fun j hj hx => (hq.nS hsm (sub6 j hx)).2.2.1 hj
    refine ⟨_, w6, hr6, A6, _, c6, rfl, ⟨by rw [hq.head]; exact h6, fun a ha => ?_⟩, by omega, by omega, ?_⟩
    · rw [hX] at ha
      obtain rfl := Option.some.inj ha
      exact k6.cell (x05.cell cX) fun hx => by
        rw [add_block] at hx
        exact (hq.nS hsm (sub6 _ hx)).2.2.1 ⟨aX, hX, rfl⟩
    have key := Own.put1 oX6 (i := i) (j := (i : Int)) rfl (by rw [List.length_map, hq.slen]; exact hi) (v := .slice A6 (s.n + 1) c6) (f := fun w_11 => ref21_Queue_Put.J2 (fun v w' => v = .tuple #[.bool (putQ cl (i : Int) xs).1.1, .int .i64 (putQ cl (i : Int) xs).1.2] ∧ WStep w q (wfp q D X L S) (putQ cl (i : Int) xs).2 w') w_11) fun w7 o7 k7 _ => by
      have K : Keep (fun j => s.fp j ∨ blk X j) w w7 := ((Keep.ext x05).trans k6 (fun _ _ h => h) fun j _ h => .inl (sub6 j h)).trans k7 (fun _ _ h => h) fun j _ h => .inr h
      have nb6 : ∀ k, ffp A6 c6 (s.ps ++ [⟨A4, n, c4, xs⟩]) k → s.fp k ∨ w.heap.size ≤ k := by
        have := x05.size
        rintro k (hk | ⟨p, hp, hk⟩)
        · rcases n6 k hk with h | h
          · exact .inl (.inl h)
          · exact .inr (by omega)
        · rcases List.mem_append.1 hp with hp | hp
          · exact .inl (.inr ⟨p, hp, hk⟩)
          · obtain rfl : p = _ := by simpa using hp
            exact .inr (new4 k hk)
      have f7 : FOk w7 A6 (s.n + 1) c6 (s.ps ++ [⟨A4, n, c4, xs⟩]) (C.fr ++ [xs]) := f6.keep k7 fun k hk hx => by
        rcases nb6 k hk with h | h
        · exact (hq.nX hx).2.2.2 s hsm h
        · have := hq.frs.lt k hx; omega
      show _ ∧ _
      rw [ep, eC]
      refine ⟨rfl, wfp q D X L (S.set i ⟨A6, s.n + 1, c6, s.ps ++ [⟨A4, n, c4, xs⟩]⟩), ⟨D, dc, X, xc, L, lc, _, hq.upd (C' := { C with fr := C.fr ++ [xs] }) (s' := (⟨A6, s.n + 1, c6, s.ps ++ [(⟨A4, n, c4, xs⟩ : Part)]⟩ : DSpot)) hs hC K o7 f7 (fun j hj => nb6 j hj) rfl rfl ?_, rfl⟩, ?_, ?_⟩
      · show ((C.fr ++ [xs]).length : Int) ≤ C.d
        rw [List.length_append]
        show ((C.fr.length + 1 : Nat) : Int) ≤ C.d
        omega
      · exact K.mono fun j _ hj => hj.elim (fun h => .inr (.inr (.inr (.inr ⟨s, hsm, h⟩)))) fun h => .inr (.inr (.inl h))
      · rintro k (hk | hk | hk | hk | ⟨t, ht2, hk⟩)
        · exact .inl (.inl hk)
        · exact .inl (.inr (.inl hk))
        · exact .inl (.inr (.inr (.inl hk)))
        · exact .inl (.inr (.inr (.inr (.inl hk))))
        · rcases List.mem_or_eq_of_mem_set ht2 with h2 | rfl
          · exact .inl (.inr (.inr (.inr (.inr ⟨t, h2, hk⟩))))
          · exact (nb6 k hk).imp (fun h => .inr (.inr (.inr (.inr ⟨s, hsm, h⟩)))) id
    exact key
theorem rtake_spec (h : WOk w q F cl) : Run Try.prog 25 #[.pointer (some ⟨q, 0, none⟩)] w (TakeOf w q F cl fun w' F' cl' => WOk w' q F' cl') := by
  obtain ⟨D, dc, X, xc, L, lc, S, hq, rfl⟩ := h
  refine ref21_Queue_Take.ok ?_
  suffices loop : ∀ (d i : Nat), cl.length - i = d → i ≤ cl.length → (∀ (j : Nat) (E : Cls), j < i → cl[j]? = some E → E.fr = []) → ref21_Queue_Take.L0 (TakeOf w q (wfp q D X L S) cl fun w' F' cl' => WOk w' q F' cl') (some ⟨q, 0, none⟩) (i : Int) w from loop cl.length 0 (by omega) (by omega) fun j E hj => by omega
  intro d
  induction d with
  | zero =>
    intro i hd hi he
    refine ref21_Queue_Take.L0_step ⟨_, rfl, _, _, _, hq.c1, ifP_no (by omega) (.inl ⟨fun j E hj => he j E ?_ hj, rfl, Ext.refl w⟩)⟩
    have := (List.getElem?_eq_some_iff.1 hj).1
    omega
  | succ d ih =>
    intro i hd hi he
    have hil : i < cl.length := by omega
    have ht : Int.toNat ((i : Nat) : Int) = i := Int.toNat_natCast i
    obtain ⟨s, C, hs, hC, f, sn, ⟨aX, hX, cX⟩, _, _⟩ := hq.at_ hil
    have hsm := List.mem_of_getElem? hs
    refine ref21_Queue_Take.L0_step ⟨_, rfl, _, _, _, hq.c1, ifP_yes (by omega) ⟨_, rfl, _, _, _, hq.c1, by omega, by omega, aX, hX, _, _, _, by rw [ht]; exact cX, ifP_decide.2 ⟨fun hpos => ?_, fun hpos => ?_⟩⟩⟩
    · obtain ⟨sA, sn', sc, sps⟩ := s
      have f : FOk w sA sn' sc sps C.fr := f
      have sn : sn' = C.fr.length := sn
      have cX : w.cell? (aX.add (i * 1)) = some (.slice sA sn' sc) := cX
      have hpos : ((sn' : Nat) : Int) > 0 := hpos
      cases hfr : C.fr with
      | nil => rw [hfr] at sn; simp at sn; omega
      | cons y fr =>
        cases hps : sps with
        | nil =>
          have := f.len
          rw [hps] at this
          simp at this
          omega
        | cons p ps =>
          subst hps
          rw [hfr] at f sn
          obtain ⟨fp', bp, ex, nb⟩ := f.pop
          have hle := f.own.le
          have hlen := f.len
          simp only [List.length_map, List.length_cons] at hle hlen
          have hsn : sn' = fr.length + 1 := sn
          obtain ⟨a0, ha0, hc0⟩ := f.own.cells 0 (Part.v p) rfl
          have op := f.part p (List.mem_cons_self ..)
          have hc0' : w.cell? (a0.add (Int.toNat 0 * 1)) = some (.slice p.A p.n p.c) := hc0
          have fpIn : ∀ k, blk p.A k → DSpot.fp ⟨sA, sn', sc, p :: ps⟩ k := fun k hk => .inr ⟨p, List.mem_cons_self .., hk⟩
          refine ⟨_, rfl, _, _, _, hq.c1, by omega, by omega, aX, hX, sA, sn', sc, by rw [ht]; exact cX, by omega, by omega, a0, ha0, p.A, p.n, p.c, hc0', fun u => Ext w u, Ext.drew w, letD fun w1 _ x1 => ?_⟩
          have q1 : WAt w1 q cl D dc X xc L lc S := hq.keep (Keep.ext x1) fun _ _ h => h
          have at1 : ∀ u, Ext w u → WAt u q cl D dc X xc L lc S := fun u xu => hq.keep (Keep.ext xu) fun _ _ h => h
          refine ⟨_, rfl, _, _, _, fun u hu => (at1 u hu).c1, _, rfl, _, _, _, fun u hu => (at1 u hu).c1, by omega, by omega, aX, hX, sA, sn', sc, fun u hu => by rw [ht]; exact hu.cell cX, by omega, by omega, by omega, by omega, by omega, ?_⟩
          refine Own.put1 q1.frs (i := i) (j := (i : Int)) rfl (by rw [List.length_map, hq.slen]; exact hil) fun w2 o2 k2 _ => ?_
          have K : Keep (fun j => DSpot.fp ⟨sA, sn', sc, p :: ps⟩ j ∨ blk X j) w w2 := (Keep.ext x1).trans k2 (fun _ _ h => h) fun j _ h => .inr h
          have sub : ∀ k, DSpot.fp ⟨subA sA sc 1 1, sn' - 1, sc - 1, ps⟩ k → DSpot.fp ⟨sA, sn', sc, p :: ps⟩ k := by
            rintro k (hk | ⟨r, hr, hk⟩)
            · exact .inl (bp k hk)
            · exact .inr ⟨r, List.mem_cons_of_mem _ hr, hk⟩
          have f2 : FOk w2 (subA sA sc 1 1) (sn' - 1) (sc - 1) ps fr := (fp'.ext x1).keep k2 fun k hk hx => (hq.nX hx).2.2.2 _ hsm (sub k hk)
          have okC := hq.ok C (List.mem_of_getElem? hC)
          refine .inr ⟨i, y, cl.set i { C with fr := fr }, p.A, p.n, p.c, wfp q D X L (S.set i ⟨subA sA sc 1 1, sn' - 1, sc - 1, ps⟩), ⟨C, fr, hC, hfr, he, rfl⟩, rfl,
            ⟨D, dc, X, xc, L, lc, _, hq.upd (C' := { C with fr := fr }) (s' := ⟨subA sA sc 1 1, sn' - 1, sc - 1, ps⟩) hs hC K o2 f2 (fun j hj => .inl (sub j hj)) rfl rfl ?_, rfl⟩, ?_, ?_, ?_, ?_, ?_⟩
          · have := okC.2.1
            rw [hfr, List.length_cons] at this
            show ((fr.length : Nat) : Int) ≤ C.d
            omega
          · rw [← ex]
            exact (op.1.ext x1).keep k2 fun k hk hx => (hq.nX hx).2.2.2 _ hsm (fpIn k hk)
          · rw [← ex]; exact op.2
          · exact K.mono fun j _ hj => hj.elim (fun h => .inr (.inr (.inr (.inr ⟨_, hsm, h⟩)))) fun h => .inr (.inr (.inl h))
          · rintro k (hk | hk | hk | hk | ⟨t, ht2, hk⟩)
            · exact .inl hk
            · exact .inr (.inl hk)
            · exact .inr (.inr (.inl hk))
            · exact .inr (.inr (.inr (.inl hk)))
            · rcases List.mem_or_eq_of_mem_set ht2 with h2 | rfl
              · exact .inr (.inr (.inr (.inr ⟨t, h2, hk⟩)))
              · exact .inr (.inr (.inr (.inr ⟨_, hsm, sub k hk⟩)))
          · intro k hk
            have hin := fpIn k hk
            refine ⟨.inr (.inr (.inr (.inr ⟨_, hsm, hin⟩))), ?_⟩
            obtain ⟨e1, e2, e3, e4⟩ := hq.nS hsm hin
            rintro (h1 | h1 | h1 | h1 | ⟨t, ht2, h1⟩)
            · exact e1 h1
            · exact e2 h1
            · exact e3 h1
            · exact e4 h1
            · obtain ⟨j, hj⟩ := List.getElem?_of_mem ht2
              by_cases hji : j = i
              · subst hji
                rw [List.getElem?_set_self (by rw [hq.slen]; exact hil)] at hj
                obtain rfl := Option.some.inj hj
                exact nb k hk h1
              · rw [List.getElem?_set_ne (fun e => hji e.symm)] at hj
                exact hq.sep j i t _ hj hs hji k h1 hin
    · rw [wrap_i64 (by omega) (by have := hq.len; omega)]
      refine ih (i + 1) (by omega) (by omega) fun j E hj hE => ?_
      by_cases hji : j = i
      · subst hji
        rw [hC] at hE
        obtain rfl := Option.some.inj hE
        have hpos : ¬ ((s.n : Int) > 0) := hpos
        exact List.length_eq_zero_iff.1 (by omega)
      · exact he j E (by omega) hE
end
end Go.Proofs.Ythhfipjmjnfjlaa
