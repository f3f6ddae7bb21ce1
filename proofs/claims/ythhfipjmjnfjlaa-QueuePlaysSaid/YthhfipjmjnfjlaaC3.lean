/- Package queue: Take. -/
import Derived.Test.YthhfipjmjnfjlaaC2
namespace Go.Proofs.Ythhfipjmjnfjlaa
open Go.Rd Go.RowKit
set_option linter.unusedVariables false
set_option linter.unusedSimpArgs false

/-- The first class that holds a frame, that frame, and what waits then. -/
def First (cl : List Cls) (i : Nat) (x : List Int) (cl' : List Cls) : Prop :=
  ∃ C fr, cl[i]? = some C ∧ C.fr = x :: fr ∧ (∀ (j : Nat) (D : Cls), j < i → cl[j]? = some D → D.fr = []) ∧ cl' = cl.set i { C with fr := fr }
def Empty (cl : List Cls) : Prop := ∀ (j : Nat) (D : Cls), cl[j]? = some D → D.fr = []

/-- What Take tells: the first frame, which is now the caller's own; or nothing. -/
def TakeOf (w : World) (q : Nat) (F : Nat → Prop) (cl : List Cls) (OK : World → (Nat → Prop) → List Cls → Prop) (v : Value) (w' : World) : Prop :=
  (Empty cl ∧ v = .tuple #[.int .i64 0, .slice none 0 0, .bool false] ∧ Ext w w') ∨
  ∃ i x cl' A n c F', First cl i x cl' ∧ v = .tuple #[.int .i64 i, .slice A n c, .bool true] ∧ OK w' F' cl' ∧ OBytes w' A c x ∧ x.length = n ∧ Keep F w w' ∧ (∀ k, F' k → F k) ∧ ∀ k, blk A k → F k ∧ ¬ F' k

theorem take_spec {w : World} {q : Nat} {F : Nat → Prop} {cl : List Cls} (h : QOk w q F cl) :
    Run Try.prog 18 #[.pointer (some ⟨q, 0, none⟩)] w (TakeOf w q F cl fun w' F' cl' => QOk w' q F' cl') := by
  obtain ⟨A, c, S, hq⟩ := h
  have loop : ∀ (d i : Nat) (x : Int), x = i → cl.length - i = d → i ≤ cl.length → (∀ (j : Nat) (D : Cls), j < i → cl[j]? = some D → D.fr = []) →
      queue_Queue_Take.L0 (TakeOf w q F cl fun w' F' cl' => QOk w' q F' cl') A cl.length c cl.length x w := by
    intro d
    induction d with
    | zero =>
      intro i x hx hd hi he
      refine queue_Queue_Take.L0_step (ifP_no (by omega) (.inl ⟨fun j D hj => he j D ?_ hj, rfl, Ext.refl w⟩))
      have := (List.getElem?_eq_some_iff.1 hj).1
      omega
    | succ d ih =>
      intro i x hx hd hi he
      subst hx
      obtain ⟨a, s, C, rfl, hs, hC, hcell, hsp⟩ := hq.spot (i := i) (by omega)
      have hsm := List.mem_of_getElem? hs
      have cc : w.cell? ((Addr.mk s.b 0 none).add 2) = some (.slice s.A C.fr.length s.c) := by rw [add_mk]; exact (cell_of hsp.cell).trans rfl
      refine queue_Queue_Take.L0_step (ifP_yes (by omega) ⟨by omega, by omega, a, rfl, _, hcell, _, rfl, s.A, C.fr.length, s.c, cc, ifP_decide.2 ⟨fun hpos => ?_, fun hpos => ?_⟩⟩)
      · cases hfr : C.fr with
        | nil => rw [hfr] at hpos; simp at hpos
        | cons y fr =>
          have hf := hsp.frs
          obtain ⟨sb, sA, sc, sps⟩ := s
          cases hps : sps with
          | nil =>
            have := hf.len
            rw [hps, hfr] at this
            simp at this
          | cons p ps =>
            subst hps
            have hfl : C.fr.length = fr.length + 1 := by rw [hfr]; rfl
            rw [hfr] at hf
            rw [hfl] at cc
            obtain ⟨fp', bp, ex, nb⟩ := hf.pop
            have hle := hf.own.le
            have hlen := hf.len
            simp only [List.length_map, List.length_cons] at hle hlen
            obtain ⟨a0, ha0, hc0⟩ := hf.own.cells 0 (Part.v p) rfl
            dsimp only at ha0 cc fp' bp nb hle hsp
            subst ha0
            have op := hf.part p (List.mem_cons_self ..)
            have hc0' : w.cell? (a0.add (Int.toNat 0 * 1)) = some (.slice p.A p.n p.c) := hc0
            have hst := st_cell (i := 2) (w := w) hsp.cell (by simp)
            have e2 : (Addr.mk sb 0 none).add 2 = ⟨sb, 2, none⟩ := by rw [add_mk]
            refine ⟨_, rfl, some a0, fr.length + 1, sc, cc, by omega, by omega, a0, rfl, p.A, p.n, p.c, hc0', _, rfl, some a0, fr.length + 1, sc, cc, by omega, by omega, by omega, _, rfl, ?_⟩
            rw [e2]
            refine ⟨hst, frozen_of hsp.cell, letS hsp.cell fun w1 h1 k1 s1 => ?_⟩
            have nsb : ∀ k, blk p.A k → k ≠ sb := fun k hk e => hsp.not_frames (.inr ⟨p, List.mem_cons_self .., e ▸ hk⟩)
            have K : Keep (Spot.fp ⟨sb, some a0, sc, p :: ps⟩) w w1 := k1.mono fun k _ e => .inl e
            have sub : ∀ k, Spot.fp ⟨sb, subA (some a0) sc 1 1, sc - 1, ps⟩ k → Spot.fp ⟨sb, some a0, sc, p :: ps⟩ k := by
              rintro k (hk | (hk | ⟨r, hr, hk⟩))
              · exact .inl hk
              · exact .inr (.inl (bp k hk))
              · exact .inr (.inr ⟨r, List.mem_cons_of_mem _ hr, hk⟩)
            refine .inr ⟨i, y, cl.set i { C with fr := fr }, p.A, p.n, p.c, _, ⟨C, fr, hC, hfr, he, rfl⟩, rfl,
              ⟨some a, c, _, hq.upd (w' := w1) (X := Spot.fp ⟨sb, some a0, sc, p :: ps⟩) (s' := ⟨sb, subA (some a0) sc 1 1, sc - 1, ps⟩) (C' := { C with fr := fr }) hs hC rfl K (fun k hk => hk) ?_ (fun k hk => .inl (sub k hk))⟩, ?_, ?_, ?_, ?_, ?_⟩
            · have hroom := hsp.room
              refine ⟨?_, ?_, hsp.lost, hsp.d, ?_⟩
              · rw [h1]; rfl
              · have := fp'.keep k1 (fun k hk e => ?_)
                · exact this
                · have e : k = sb := e
                  subst e
                  rcases hk with hk | ⟨r, hr, hk⟩
                  · exact hsp.not_frames (.inl (bp _ hk))
                  · exact hsp.not_frames (.inr ⟨r, List.mem_cons_of_mem _ hr, hk⟩)
              · have hroom : ((C.fr.length : Nat) : Int) ≤ C.d := hroom
                rw [hfr, List.length_cons] at hroom
                show ((fr.length : Nat) : Int) ≤ C.d
                omega
            · rw [← ex]; exact op.1.keep k1 fun k hk e => nsb k hk e
            · rw [← ex]; exact op.2
            · exact K.mono fun k _ hk => hq.fS _ hsm k hk
            · rintro k (hk | hk)
              · exact hk.1
              · exact hq.fS _ hsm k (sub k hk)
            · intro k hk
              have hin : Spot.fp ⟨sb, some a0, sc, p :: ps⟩ k := .inr (.inr ⟨p, List.mem_cons_self .., hk⟩)
              refine ⟨hq.fS _ hsm k hin, ?_⟩
              rintro (h1 | (h1 | h1))
              · exact h1.2 hin
              · exact nsb k hk h1
              · exact nb k hk h1
      · rw [wrap_i64 (by omega) (by have := hq.len; omega)]
        refine ih (i + 1) _ (by omega) (by omega) (by omega) fun j D hj hD => ?_
        by_cases hji : j = i
        · subst hji
          rw [hC] at hD
          obtain rfl := Option.some.inj hD
          exact List.length_eq_zero_iff.1 (by omega)
        · exact he j D (by omega) hD
  exact queue_Queue_Take.ok ⟨_, rfl, A, _, c, (cell_of hq.head).trans rfl, loop cl.length 0 0 rfl (by omega) (by omega) fun j D hj => by omega⟩
end Go.Proofs.Ythhfipjmjnfjlaa
