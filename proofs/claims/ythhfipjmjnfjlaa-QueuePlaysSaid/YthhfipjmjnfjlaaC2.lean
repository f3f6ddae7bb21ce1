/- Package queue: Put, Take. -/
import Derived.Test.YthhfipjmjnfjlaaC1
namespace Go.Proofs.Ythhfipjmjnfjlaa
open Go.Rd Go.RowKit
set_option linter.unusedVariables false
set_option linter.unusedSimpArgs false

/-- One call over a queue: it has other classes now, its blocks are those it had or new ones, and nothing else is touched. -/
def QStep (w : World) (q : Nat) (F : Nat → Prop) (cl' : List Cls) (w' : World) : Prop := ∃ F', QOk w' q F' cl' ∧ Keep F w w' ∧ ∀ k, F' k → F k ∨ w.heap.size ≤ k
theorem QStep.same {w w' : World} {q : Nat} {F : Nat → Prop} {cl : List Cls} (h : QOk w q F cl) (x : Ext w w') : QStep w q F cl w' := ⟨F, h.ext x, Keep.ext x, fun k hk => .inl hk⟩

def Cls.put (C : Cls) (xs : List Int) : Bool × Cls := if (C.fr.length : Int) = C.d then (false, { C with lost := min (C.lost + 1) 4294967295 }) else (true, { C with fr := C.fr ++ [xs] })
def putQ (cl : List Cls) (k : Int) (xs : List Int) : (Bool × Int) × List Cls :=
  if k < 0 ∨ (cl.length : Int) ≤ k then ((false, 211), cl) else if 65535 < xs.length then ((false, 212), cl) else
  match cl[k.toNat]? with
  | none => ((false, 211), cl)
  | some C => (((C.put xs).1, 0), cl.set k.toNat (C.put xs).2)

theorem QAt.spot {w : World} {q : Nat} {F : Nat → Prop} {cl : List Cls} {A : Option Addr} {c : Nat} {S : List Spot} (h : QAt w q F cl A c S) {i : Nat} (hi : i < cl.length) :
    ∃ a s C, A = some a ∧ S[i]? = some s ∧ cl[i]? = some C ∧ w.cell? (a.add (i * 1)) = some (ptr s) ∧ SpotOk w s C := by
  have hs : S[i]? = some (S[i]'(by rw [h.rd.1]; exact hi)) := List.getElem?_eq_getElem _
  have hc : cl[i]? = some cl[i] := List.getElem?_eq_getElem _
  obtain ⟨a, ha, hcell⟩ := h.rd.2 i _ hs
  exact ⟨a, _, _, ha, hs, hc, hcell, h.each i _ _ hs hc⟩

theorem count_spec {w : World} {b : Nat} {n : Int} {v1 v2 : Value} {t : TypeId} (h : w.heap[b]? = some (.cells #[.int .u32 n, v1, v2] t (0, 0))) (h0 : 0 ≤ n) (h1 : n ≤ 4294967295) :
    Run Try.prog 35 #[.pointer (some ⟨b, 0, none⟩)] w fun v w' => v = .tuple #[] ∧ Keep (· = b) w w' ∧ w'.heap[b]? = some (.cells #[.int .u32 (min (n + 1) 4294967295), v1, v2] t (0, 0)) := by
  refine queue_counter_count.ok ⟨_, rfl, n, (cell_of h).trans rfl, letA fun w1 hh1 x1 s1 => ?_⟩
  have i1 : IWords w1 (some (newA w)) 2 [n, 1] := by
    have := Rd.block (f := Value.int .u32) (xs := [n, 1]) hh1 (by
      intro i x hi
      match i, hi with
      | 0, hi => simp at hi; subst hi; rfl
      | 1, hi => simp at hi; subst hi; rfl
      | (i + 2), hi => simp at hi)
    exact this
  refine (sum_spec i1 (by intro z hz; simp at hz; rcases hz with rfl | rfl <;> omega) (by omega)).mono ?_
  rintro v w2 ⟨rfl, rfl⟩
  have hb : w2.heap[b]? = some (.cells #[.int .u32 n, v1, v2] t (0, 0)) := x1.heap h
  refine ⟨_, rfl, _, rfl, st_cell hb (by simp), frozen_of hb, letS hb fun w3 h3 k3 s3 => ⟨rfl, (Keep.ext x1).trans' k3, ?_⟩⟩
  rw [h3]
  have e : satSum [n, 1] = min (n + 1) 4294967295 := by simp [satSum]
  rw [e]
  rfl

theorem join_one {w : World} {p : Part} {P : Option Addr} (h : Rd Part.v w P 1 [p]) (hp : IBytes w p.A p.n p.xs) (ht : p.n ≤ 100000000) :
    Run Try.prog 36 #[.slice P 1 1] w fun v w' => NewBytes w w' v p.n p.xs := by
  refine (join_spec h (by omega) (by simp [hp]) (by simp [total]; omega)).mono ?_
  intro v w' hv
  simpa [total, flat] using hv

theorem qput_spec {w : World} {q : Nat} {F : Nat → Prop} {cl : List Cls} {k : Int} {B : Option Addr} {n bc : Nat} {xs : List Int} (h : QOk w q F cl) (hb : IBytes w B n xs) (hn : n ≤ 140737488351232) :
    Run Try.prog 15 #[.pointer (some ⟨q, 0, none⟩), .int .i64 k, .slice B n bc] w fun v w' => v = .tuple #[.bool (putQ cl k xs).1.1, .int .i64 (putQ cl k xs).1.2] ∧ QStep w q F (putQ cl k xs).2 w' := by
  have hq' := h
  obtain ⟨A, c, S, hq⟩ := h
  have hl := hb.len
  have out : k < 0 ∨ (cl.length : Int) ≤ k → (.tuple #[.bool false, .int .i64 211] : Value) = .tuple #[.bool (putQ cl k xs).1.1, .int .i64 (putQ cl k xs).1.2] ∧ QStep w q F (putQ cl k xs).2 w := by
    intro hk
    have e : putQ cl k xs = ((false, 211), cl) := by unfold putQ; rw [if_pos hk]
    rw [e]
    exact ⟨rfl, QStep.same hq' (Ext.refl w)⟩
  refine queue_Queue_Put.ok (ifP_decide.2 ⟨fun hk => ifP_t rfl (out (.inl hk)), fun hk => ⟨_, rfl, A, cl.length, c, (cell_of hq.head).trans rfl, ?_⟩⟩)
  by_cases hk2 : k ≥ (cl.length : Int)
  · rw [decide_eq_true hk2]
    exact ifP_t rfl (out (.inr hk2))
  rw [decide_eq_false hk2]
  refine ifP_f rfl (ifP_decide.2 ⟨fun hlong => ?_, fun hlong => ?_⟩)
  · have e : putQ cl k xs = ((false, 212), cl) := by unfold putQ; rw [if_neg (by omega), if_pos (by omega)]
    rw [e]
    exact ⟨rfl, QStep.same hq' (Ext.refl w)⟩
  obtain ⟨a, s, C, rfl, hs, hC, hcell, hsp⟩ := hq.spot (i := k.toNat) (by omega)
  have ep : putQ cl k xs = (((C.put xs).1, 0), cl.set k.toNat (C.put xs).2) := by
    unfold putQ
    rw [if_neg (by omega), if_neg (by omega), hC]
  have hsm := List.mem_of_getElem? hs
  refine ⟨_, rfl, _, _, _, (cell_of hq.head).trans rfl, by omega, by omega, a, rfl, _, hcell, letD fun w1 hh1 x1 => ?_⟩
  have sp1 : SpotOk w1 s C := hsp.keep (Keep.ext x1) fun _ _ h => h
  refine ⟨⟨s.b, 0, none⟩, rfl, s.A, C.fr.length, s.c, by rw [add_mk]; exact (cell_of sp1.cell).trans rfl, _, rfl, C.d, by rw [add_mk]; exact (cell_of sp1.cell).trans rfl, ifP_int (fun he => ?_) fun hne => ?_⟩
  · have eC : C.put xs = (false, { C with lost := min (C.lost + 1) 4294967295 }) := by unfold Cls.put; rw [if_pos he]
    refine ⟨_, rfl, (count_spec sp1.cell sp1.lost.1 sp1.lost.2).mono ?_⟩
    rintro v w2 ⟨rfl, k2, h2⟩
    rw [ep, eC]
    refine ⟨rfl, rfl, _, ⟨some a, c, _, hq.upd (w' := w2) (X := (· = s.b)) (s' := s) (C' := { C with lost := min (C.lost + 1) 4294967295 }) hs hC rfl ((Keep.ext x1).trans' k2) (fun k hk => .inl hk) ?_ fun k hk => .inl hk⟩, ?_, ?_⟩
    · exact ⟨h2, sp1.frs.keep k2 fun k hk e => hsp.not_frames (e ▸ hk), ⟨by have := sp1.lost; show 0 ≤ min _ _; omega, by show min _ _ ≤ _; omega⟩, sp1.d, sp1.room⟩
    · exact ((Keep.ext x1).trans' k2).mono fun k _ e => hq.fS s hsm k (.inl e)
    · rintro k (hk | hk)
      · exact .inl hk.1
      · exact .inl (hq.fS s hsm k hk)
  · have eC : C.put xs = (true, { C with fr := C.fr ++ [xs] }) := by unfold Cls.put; rw [if_neg hne]
    refine ⟨fun u => u.heap[s.b]? = some (.cells #[.int .u32 C.lost, .int .i64 C.d, .slice s.A C.fr.length s.c] 65 (0, 0)), sp1.cell, letD fun w2 hh2 x2 => ⟨_, rfl, s.A, C.fr.length, s.c, fun u hu => by rw [add_mk]; exact (cell_of hu).trans rfl, letA fun w3 h3 x3 s3 => ?_⟩⟩
    have x03 := (x1.trans x2).trans x3
    have c3 := x03.heap hsp.cell
    have i3 : Rd Part.v w3 (some (newA w2)) 1 [⟨B, n, bc, xs⟩] := lit_rd h3 rfl
    refine ⟨c3, (join_one i3 (hb.ext x03) (by show n ≤ _; omega)).mono ?_⟩
    rintro v w4 ⟨A4, c4, rfl, o4, l4, b4, x4⟩
    dsimp only at o4 l4
    refine ⟨A4, _, c4, rfl, x4.heap c3, letA fun w5 h5 x5 s5 => ⟨x5.heap (x4.heap c3), ?_⟩⟩
    have x05 := (x03.trans x4).trans x5
    have hB : RdC w5 (some (newA w4)) [(Part.mk A4 n c4 xs).v] := by
      have : Own 35 1 w5 (some (newA w4)) 1 [(Part.mk A4 n c4 xs).v] := .inr ⟨_, [], rfl, h5, rfl⟩
      exact this.cells
    have fresh : ∀ k, blk A4 k → w.heap.size ≤ k := fun k hk => by have := b4 k hk; have := x03.size; omega
    have hroom := hsp.room
    have hd := hsp.d
    obtain ⟨A6, c6, w6, hr6, f6, k6, n6⟩ := FOk.push (d := 1) (ty := 45) (hsp.frs.ext x05) (by omega) (p := ⟨A4, n, c4, xs⟩) (o4.ext x5) l4 (fun k hk hf => by have := fresh k hk; have := hsp.frs.lt hf; omega) hB
    have hnb : ¬ blkC s.A s.c s.b := fun hk => hsp.not_frames (.inl hk)
    have hb6 := k6.heap (x05.heap hsp.cell) hnb
    refine ⟨_, w6, hr6, A6, _, c6, rfl, _, rfl, ?_, ?_, ?_⟩
    · rw [add_mk]; exact st_cell hb6 (by simp)
    · rw [add_mk]; exact frozen_of hb6
    have eadd : (Addr.mk s.b 0 none).add 2 = ⟨s.b, 2, none⟩ := by rw [add_mk]
    rw [eadd]
    refine letS hb6 fun w7 h7 k7 s7 => ?_
    have hsb : s.b < w.heap.size := hsp.lt (.inl rfl)
    have hs5 := x05.size
    have nb6 : ∀ k, ffp A6 c6 (s.ps ++ [⟨A4, n, c4, xs⟩]) k → ffp s.A s.c s.ps k ∨ w.heap.size ≤ k := by
      rintro k (hk | ⟨p, hp, hk⟩)
      · rcases n6 k hk with h | h
        · exact .inl (.inl h)
        · exact .inr (by omega)
      · rcases List.mem_append.1 hp with hp | hp
        · exact .inl (.inr ⟨p, hp, hk⟩)
        · obtain rfl : p = _ := by simpa using hp
          exact .inr (fresh k hk)
    have K : Keep s.fp w w7 := ((Keep.ext x05).trans' (k6.mono fun k _ hk => .inr (.inl hk))).trans' (k7.mono fun k _ hk => .inl hk)
    show _ ∧ _
    rw [ep, eC]
    refine ⟨rfl, _, ⟨some a, c, _, hq.upd (w' := w7) (X := s.fp) (s' := ⟨s.b, A6, c6, s.ps ++ [⟨A4, n, c4, xs⟩]⟩) (C' := { C with fr := C.fr ++ [xs] }) hs hC rfl K (fun k hk => hk) ?_ ?_⟩, ?_, ?_⟩
    · refine ⟨?_, ?_, hsp.lost, hd, ?_⟩
      · rw [h7, List.length_append]
        rfl
      · rw [List.length_append]
        refine f6.keep k7 fun k hk e => ?_
        rw [e] at hk
        rcases nb6 _ hk with h | h
        · exact hsp.not_frames h
        · omega
      · show ((C.fr ++ [xs]).length : Int) ≤ C.d
        rw [List.length_append]
        show ((C.fr.length + 1 : Nat) : Int) ≤ C.d
        omega
    · rintro k (hk | hk)
      · exact .inl (.inl hk)
      · exact (nb6 k hk).imp .inr id
    · exact K.mono fun k _ hk => hq.fS s hsm k hk
    · rintro k (hk | (hk | hk))
      · exact .inl hk.1
      · exact .inl (hq.fS s hsm k (.inl hk))
      · exact (nb6 k hk).imp (fun h => hq.fS s hsm k (.inr h)) id
end Go.Proofs.Ythhfipjmjnfjlaa
