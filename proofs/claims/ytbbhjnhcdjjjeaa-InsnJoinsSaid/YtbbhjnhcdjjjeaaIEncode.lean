/- Package insn: octets, Encode: what they compute. -/
import Derived.Test.YtbbhjnhcdjjjeaaEnc
namespace Go.Proofs.Ytbbhjnhcdjjjeaa
open Go.Rd Go.RowKit
set_option linter.unusedVariables false
set_option linter.unusedSimpArgs false

/-- A field: its number, and in how many bytes. -/
def fldV (f : Int × Int) : List Value := [.int .u32 f.1, .int .i64 f.2]
theorem fldV_len (f : Int × Int) : (fldV f).length = 2 := rfl

theorem octets_spec {w : World} {A : Option Addr} {n c : Nat} {fs : List (Int × Int)} (h : RdM fldV w A n fs) (hn : n ≤ 1000) (hs : ∀ f ∈ fs, f.2 = 1 ∨ f.2 = 2 ∨ f.2 = 4) :
    Run Try.prog 31 #[.slice A n c] w fun v w' => ∃ m, NewBytes w w' v m (fs.flatMap fun f => fieldB f.2 f.1) := by
  have loop : ∀ (d i : Nat), n - i = d → i ≤ n → ∀ (P : Option Addr) (pc : Nat) (ps : List Part) (w' : World), Own 23 1 w' P pc (ps.map Part.v) → ps.length = i → (∀ p ∈ ps, IBytes w' p.A p.n p.xs ∧ ∀ k, blk p.A k → ¬ blk P k ∧ k < w'.heap.size) →
      (∀ k, blk P k → w.heap.size ≤ k) → flat ps = (fs.take i).flatMap (fun f => fieldB f.2 f.1) → Ext w w' →
      insn_octets.L0 (fun v w' => ∃ m, NewBytes w w' v m (fs.flatMap fun f => fieldB f.2 f.1)) P i pc A n c n i w' := by
    intro d
    induction d with
    | zero =>
      intro i hd hi P pc ps w' o hl hp b hf x
      have : i = n := by omega
      subst this
      have hlen := h.len
      have ht : total ps ≤ 4 * 1000 := by
        rw [← flat_length (w := w') fun p h => (hp p h).1, hf, List.take_of_length_le (by omega)]
        have : ∀ l : List (Int × Int), (∀ f ∈ l, f.2 = 1 ∨ f.2 = 2 ∨ f.2 = 4) → (l.flatMap fun f => fieldB f.2 f.1).length ≤ 4 * l.length := by
          intro l
          induction l with
          | nil => intro _; simp
          | cons f l ih =>
            intro hl
            have h1 := ih fun g hg => hl g (List.mem_cons_of_mem _ hg)
            have h2 := hl f (List.mem_cons_self ..)
            rw [List.flatMap_cons, List.length_append, fieldB_length, List.length_cons]
            omega
        have := this fs hs
        omega
      refine insn_octets.L0_step (ifP_no (by omega) ((join_spec (ps := ps) (k := i) ((o.cells).rd hl) (by omega) (fun p h => (hp p h).1) (by omega)).mono ?_))
      rintro v w2 ⟨O, oc, rfl, o2, l2, b2, x2⟩
      refine ⟨O, _, oc, rfl, total ps, O, oc, rfl, ?_, ?_, fun k hk => by have := b2 k hk; have := x.size; omega, x.trans x2⟩
      · rw [hf, List.take_of_length_le (by omega)] at o2; exact o2
      · rw [hf, List.take_of_length_le (by omega)] at l2; exact l2
    | succ d ih =>
      intro i hd hi P pc ps w' o hl hp b hf x
      obtain ⟨a, f, rfl, gf, ca⟩ := (h.ext x).at fldV_len (by omega) (i := i) (by omega)
      have hsf := hs f (List.mem_of_getElem? gf)
      refine insn_octets.L0_step (ifP_yes (by omega) ⟨by omega, by omega, a, rfl, f.1, ca 0 _ rfl, f.2, ca 1 _ rfl, letA fun w1 h1 x1 s1 => storeRow_block h1 (by simp) rfl fun w2 h2 k2 s2 => ?_⟩)
      have e0 : (newA w') = ⟨w'.heap.size, 0, none⟩ := rfl
      have x2 : Ext w' w2 := x1.fresh k2 fun k hk => by have hk : k = w'.heap.size := hk; omega
      have c1 : ∀ u : World, u.heap[w'.heap.size]? = w2.heap[w'.heap.size]? → u.cell? ((newA w').add 1) = some (.int .i64 f.2) := fun u hu => by
        rw [e0, add_mk]; exact cell_of (hu.trans h2)
      have c0 : ∀ u : World, u.heap[w'.heap.size]? = w2.heap[w'.heap.size]? → u.cell? (newA w') = some (.int .u32 f.1) := fun u hu => by
        rw [e0]; exact cell_of (hu.trans h2)
      refine ⟨fun u => u.heap[w'.heap.size]? = w2.heap[w'.heap.size]?, rfl, letD fun w3 h3 x3 => ⟨f.2, c1, f.2, c1, f.1, c0, ?_⟩⟩
      obtain ⟨M, w4, hr, im, x4⟩ := made_put (v := f.1) (w := w3) hsf
      have keep : ∀ {u}, Ext w3 u → u.heap[w'.heap.size]? = w2.heap[w'.heap.size]? := fun {u} xu => by
        rw [xu.heap (by rw [h3]; exact h2), h2]
      refine ⟨_, w4, hr, M, _, _, rfl, keep x4, (put_spec im (by omega)).mono ?_⟩
      intro u w5 hput
      obtain ⟨B, bc, rfl, o5, b5, x5⟩ := put_made hsf hput
      refine ⟨B, _, bc, true, rfl, keep (x4.trans x5), ?_⟩
      unfold insn_octets.J0
      refine letA fun w6 h6 x6 s6 => ?_
      have x36 : Ext w3 w6 := (x4.trans x5).trans x6
      have x26 : Ext w' w6 := (x2.trans x3).trans x36
      have hB : RdC w6 (some (newA w5)) [(Part.mk B f.2.toNat bc (fieldB f.2 f.1)).v] := by
        have : Own 23 1 w6 (some (newA w5)) 1 [(Part.mk B f.2.toNat bc (fieldB f.2 f.1)).v] := .inr ⟨_, [], rfl, h6, rfl⟩
        exact this.cells
      obtain ⟨P', pc', w7, hr7, o7, hc7, k7, b7⟩ := append_own slLists (ty := 54) (n := i) (d := 1) (o.ext x26) (by simp [hl]) hB (m := 1) rfl rfl (by omega) (by omega)
      refine ⟨_, w7, hr7, _, _, _, rfl, ?_⟩
      rw [wrap_i64 (by omega) (by omega)]
      have sz7 : w6.heap.size ≤ w7.heap.size := k7.size
      have s36 := x26.size
      have l5 := o5.lt
      have lP := o.lt
      have sz4 : w3.heap.size ≤ w4.heap.size := x4.size
      have hb5 : ∀ k, blk B k → ¬ blk P k ∧ k < w6.heap.size := fun k hk => ⟨fun hP => by have := b5 k hk; have := lP k hP; have := (x2.trans x3).size; omega, by have := l5 k hk; omega⟩
      have hnew : ∀ k, blk P' k → blk P k ∨ w6.heap.size ≤ k := b7
      refine ih (i + 1) (by omega) (by omega) P' pc' (ps ++ [Part.mk B f.2.toNat bc (fieldB f.2 f.1)]) w7 ?_ (by simp [hl]) ?_ ?_ ?_ ((x.trans x26).fresh k7 fun k hk => b k hk)
      · rw [List.map_append]; exact o7
      · intro p hpm
        rcases List.mem_append.1 hpm with hpm | hpm
        · obtain ⟨ip, bp⟩ := hp p hpm
          refine ⟨(ip.ext x26).keep k7 fun a ha hk => (bp _ ⟨a, ha, rfl⟩).1 hk, fun k hk => ⟨fun hP => ?_, by have := (bp k hk).2; omega⟩⟩
          rcases hnew k hP with h | h
          · exact (bp k hk).1 h
          · have := (bp k hk).2; omega
        · obtain rfl : p = _ := by simpa using hpm
          refine ⟨?_, fun k hk => ⟨fun hP => ?_, by have := (hb5 k hk).2; omega⟩⟩
          · have i6 : IBytes w6 B f.2.toNat (fieldB f.2 f.1) := (o5.ext x6).rd (fieldB_length ..)
            exact i6.keep k7 fun a ha hk => (hb5 _ ⟨a, ha, rfl⟩).1 hk
          · rcases hnew k hP with h | h
            · exact (hb5 k hk).1 h
            · have := (hb5 k hk).2; omega
      · intro k hk
        rcases hnew k hk with h | h
        · exact b k h
        · have := (x.trans x26).size; omega
      · rw [List.take_add_one, gf, flat, List.flatMap_append, List.flatMap_append]
        show flat ps ++ _ = _
        rw [hf]
        simp
  exact insn_octets.ok (loop n 0 (by omega) (by omega) none 0 [] w Own.empty rfl (by simp) (fun k hk => (blk_none hk).elim) (by simp [flat]) (Ext.refl w))

theorem encode_spec {w : World} {A : Option Addr} {n c : Nat} {ps : List Ins} (h : IInsns w A n ps) (hok : ∀ p ∈ ps, p.ok) (hn : n ≤ 140737488351232) :
    Run Try.prog 10 #[.slice A n c] w (EncOf w n ps) := by
  have loop : n ≤ 4096 → ∀ (d i : Nat), n - i = d → i ≤ n → ∀ (O : Option Addr) (oc : Nat) (w' : World), OBytes w' O oc ((ps.take i).flatMap encI) → (∀ k, blk O k → w.heap.size ≤ k) → Ext w w' →
      insn_Encode.L0 (EncOf w n ps) O (8 * i) oc A n c n i w' := by
    intro hn d
    induction d with
    | zero =>
      intro i hd hi O oc w' o b x
      have : i = n := by omega
      subst this
      refine insn_Encode.L0_step (ifP_no (by omega) ?_)
      rw [List.take_of_length_le (by rw [h.len]; omega)] at o
      unfold EncOf
      rw [if_neg (by omega)]
      exact ⟨O, oc, rfl, o, b, x⟩
    | succ d ih =>
      intro i hd hi O oc w' o b x
      obtain ⟨a, p, rfl, gp, ca⟩ := (h.ext x).at Ins.len (by omega) (i := i) (by omega)
      obtain ⟨⟨p0, p1⟩, ⟨p2, p3⟩, ⟨p4, p5⟩, p6, p7⟩ := hok p (List.mem_of_getElem? gp)
      refine insn_Encode.L0_step (ifP_yes (by omega) ⟨by omega, by omega, a, rfl, p.c, ca 0 _ rfl, p.t, ca 1 _ rfl, p.f, ca 2 _ rfl, p.k, ca 3 _ rfl, letA fun w1 h1 x1 s1 => storeRow_block h1 (by simp) rfl fun w2 h2 k2 s2 => ?_⟩)
      have e0 : (newA w') = ⟨w'.heap.size, 0, none⟩ := rfl
      have x2 : Ext w' w2 := x1.fresh k2 fun k hk => by have hk : k = w'.heap.size := hk; omega
      refine ⟨p.c, by rw [e0]; exact cell_of h2, p.t, by rw [e0, add_mk]; exact cell_of h2, p.f, by rw [e0, add_mk]; exact cell_of h2, p.k, by rw [e0, add_mk]; exact cell_of h2, letA fun w3 h3 x3 s3 => ?_⟩
      rw [wrap_u32 (x := p.c) (by omega) (by omega), wrap_u32 (x := p.t) (by omega) (by omega), wrap_u32 (x := p.f) (by omega) (by omega)] at h3
      have hF : RdM fldV w3 (some (newA w2)) 4 [(p.c, 2), (p.t, 1), (p.f, 1), (p.k, 4)] := by
        have : Own 51 2 w3 (some (newA w2)) 4 ([(p.c, 2), (p.t, 1), (p.f, 1), (p.k, 4)].flatMap fldV) := .inr ⟨_, [], rfl, h3, rfl⟩
        exact this.rdM rfl
      refine (octets_spec hF (by omega) (by simp)).mono ?_
      rintro v w4 ⟨m, B, bc, rfl, o4, l4, b4, x4⟩
      have e : ([(p.c, (2 : Int)), (p.t, 1), (p.f, 1), (p.k, 4)].flatMap fun f => fieldB f.2 f.1) = encI p := by simp [encI]
      rw [e] at o4 l4
      rw [encI_length] at l4
      subst l4
      have x24 : Ext w' w4 := (x2.trans x3).trans x4
      obtain ⟨O', oc', w5, hr5, o5, hc5, k5, b5⟩ := append_own slBytes (ty := 23) (n := 8 * i) (d := bc) (o.ext x24) (by rw [List.length_map, encL_length, List.length_take, h.len]; omega) o4.cells (m := 8) (by rw [List.length_map, encI_length]) (cellsBytes _) (by omega) (by omega)
      refine ⟨B, _, bc, rfl, _, w5, hr5, _, _, _, rfl, ?_⟩
      rw [wrap_i64 (by omega) (by omega)]
      refine ih (i + 1) (by omega) (by omega) O' oc' w5 ?_ (fun k hk => (b5 k hk).elim (b k) fun h => by have := (x.trans x24).size; omega) ((x.trans x24).fresh k5 fun k hk => b k hk)
      rw [List.take_add_one, gp, OBytes, List.flatMap_append, List.map_append]
      simpa using o5
  refine insn_Encode.ok (ifP_decide.2 ⟨fun hm => ?_, fun hm => ?_⟩)
  · unfold EncOf
    rw [if_pos (by omega)]
    exact ⟨rfl, rfl⟩
  · rw [wrap_i64 (by omega) (by omega)]
    obtain ⟨w1, hr, o1, x1, s1⟩ := make_zero slBytes (w := w) (c := 8 * (n : Int)) (by omega) (by omega) (by omega)
    exact ⟨_, w1, hr, _, _, _, rfl, loop (by omega) n 0 (by omega) (by omega) _ _ w1 o1 (fun k hk => by rw [blk_some.1 hk]; exact Nat.le_refl _) x1⟩
end Go.Proofs.Ytbbhjnhcdjjjeaa
