/- Package queue: Lens, Dropped. -/
import Derived.Test.YthhfipjmjnfjlaaC3
namespace Go.Proofs.Ythhfipjmjnfjlaa
open Go.Rd Go.RowKit
set_option linter.unusedVariables false
set_option linter.unusedSimpArgs false

def lensOf (cl : List Cls) : List Int := cl.map fun C => (C.fr.length : Int)
def lostOf (cl : List Cls) : List Int := cl.map fun C => C.lost

theorem lens_spec {w : World} {q : Nat} {F : Nat → Prop} {cl : List Cls} (h : QOk w q F cl) :
    Run Try.prog 21 #[.pointer (some ⟨q, 0, none⟩)] w fun v w' => NewInts w w' v cl.length (lensOf cl) := by
  obtain ⟨A, c, S, hq⟩ := h
  have hlen := hq.len
  have loop : ∀ (d i : Nat) (x : Int), x = i → cl.length - i = d → i ≤ cl.length → ∀ O oc w', OInts w' O oc ((lensOf cl).take i) → (∀ k, blk O k → w.heap.size ≤ k) → Ext w w' →
      queue_Queue_Lens.L0 (fun v w' => NewInts w w' v cl.length (lensOf cl)) O i oc A cl.length c cl.length x w' := by
    intro d
    induction d with
    | zero =>
      intro i x hx hd hi O oc w' o b xx
      have : i = cl.length := by omega
      subst this
      refine queue_Queue_Lens.L0_step (ifP_no (by omega) ⟨O, oc, rfl, ?_, by simp [lensOf], b, xx⟩)
      rwa [List.take_of_length_le (by simp [lensOf])] at o
    | succ d ih =>
      intro i x hx hd hi O oc w' o b xx
      subst hx
      obtain ⟨a, s, C, rfl, hs, hC, hcell, hsp⟩ := (hq.keep (Keep.ext xx) (fun _ _ h => h)).spot (i := i) (by omega)
      have cc : w'.cell? ((Addr.mk s.b 0 none).add 2) = some (.slice s.A C.fr.length s.c) := by rw [add_mk]; exact (cell_of hsp.cell).trans rfl
      refine queue_Queue_Lens.L0_step (ifP_yes (by omega) ⟨by omega, by omega, a, rfl, _, hcell, _, rfl, s.A, C.fr.length, s.c, cc, letA fun w1 h1 x1 s1 => ?_⟩)
      have hB : RdC w1 (some (newA w')) ([(C.fr.length : Int)].map (Value.int .i64)) := by
        have : OInts w1 (some (newA w')) 1 [(C.fr.length : Int)] := .inr ⟨_, [], rfl, h1, rfl⟩
        exact this.cells
      obtain ⟨O', oc', w2, hr, o2, _, k2, n2⟩ := append_own slInts (ty := 22) (n := i) (d := 1) (o.ext x1) (by simp [lensOf]; omega) hB (m := 1) rfl rfl (by omega) (by omega)
      refine ⟨_, w2, hr, O', _, oc', rfl, ?_⟩
      rw [wrap_i64 (by omega) (by omega)]
      refine ih (i + 1) _ (by omega) (by omega) (by omega) O' oc' w2 ?_ (fun k hk => (n2 k hk).elim (b k) fun h => by have := (xx.trans x1).size; omega) ((xx.trans x1).fresh k2 fun k hk => b k hk)
      have e : (lensOf cl).take (i + 1) = (lensOf cl).take i ++ [(C.fr.length : Int)] := by
        rw [List.take_add_one]
        have : (lensOf cl)[i]? = some (C.fr.length : Int) := by unfold lensOf; rw [List.getElem?_map, hC]; rfl
        rw [this]; rfl
      rw [e, OInts, List.map_append]
      exact o2
  exact queue_Queue_Lens.ok ⟨_, rfl, A, _, c, (cell_of hq.head).trans rfl, loop cl.length 0 0 rfl (by omega) (by omega) none 0 w Own.empty (fun k hk => (blk_none hk).elim) (Ext.refl w)⟩

theorem counted_spec {w : World} {b : Nat} {n : Int} {v1 v2 : Value} {t : TypeId} (h : w.heap[b]? = some (.cells #[.int .u32 n, v1, v2] t (0, 0))) :
    Run Try.prog 37 #[.pointer (some ⟨b, 0, none⟩)] w fun v w' => v = .int .u32 n ∧ w' = w :=
  queue_counter_counted.ok ⟨_, rfl, n, (cell_of h).trans rfl, rfl, rfl⟩

theorem dropped_spec {w : World} {q : Nat} {F : Nat → Prop} {cl : List Cls} (h : QOk w q F cl) :
    Run Try.prog 24 #[.pointer (some ⟨q, 0, none⟩)] w fun v w' => NewWords w w' v cl.length (lostOf cl) := by
  obtain ⟨A, c, S, hq⟩ := h
  have hlen := hq.len
  have loop : ∀ (d i : Nat) (x : Int), x = i → cl.length - i = d → i ≤ cl.length → ∀ O oc w', OWords w' O oc ((lostOf cl).take i) → (∀ k, blk O k → w.heap.size ≤ k) → Ext w w' →
      queue_Queue_Dropped.L0 (fun v w' => NewWords w w' v cl.length (lostOf cl)) O i oc A cl.length c cl.length x w' := by
    intro d
    induction d with
    | zero =>
      intro i x hx hd hi O oc w' o b xx
      have : i = cl.length := by omega
      subst this
      refine queue_Queue_Dropped.L0_step (ifP_no (by omega) ⟨O, oc, rfl, ?_, by simp [lostOf], b, xx⟩)
      rwa [List.take_of_length_le (by simp [lostOf])] at o
    | succ d ih =>
      intro i x hx hd hi O oc w' o b xx
      subst hx
      obtain ⟨a, s, C, rfl, hs, hC, hcell, hsp⟩ := (hq.keep (Keep.ext xx) (fun _ _ h => h)).spot (i := i) (by omega)
      refine queue_Queue_Dropped.L0_step (ifP_yes (by omega) ⟨by omega, by omega, a, rfl, _, hcell, _, rfl, (counted_spec hsp.cell).mono ?_⟩)
      rintro v w0 ⟨rfl, rfl⟩
      refine ⟨_, rfl, letA fun w1 h1 x1 s1 => ?_⟩
      have hB : RdC w1 (some (newA w0)) ([C.lost].map (Value.int .u32)) := by
        have : OWords w1 (some (newA w0)) 1 [C.lost] := .inr ⟨_, [], rfl, h1, rfl⟩
        exact this.cells
      obtain ⟨O', oc', w2, hr, o2, _, k2, n2⟩ := append_own slWords (ty := 54) (n := i) (d := 1) (o.ext x1) (by simp [lostOf]; omega) hB (m := 1) rfl rfl (by omega) (by omega)
      refine ⟨_, w2, hr, O', _, oc', rfl, ?_⟩
      rw [wrap_i64 (by omega) (by omega)]
      refine ih (i + 1) _ (by omega) (by omega) (by omega) O' oc' w2 ?_ (fun k hk => (n2 k hk).elim (b k) fun h => by have := (xx.trans x1).size; omega) ((xx.trans x1).fresh k2 fun k hk => b k hk)
      have e : (lostOf cl).take (i + 1) = (lostOf cl).take i ++ [C.lost] := by
        rw [List.take_add_one]
        have : (lostOf cl)[i]? = some C.lost := by unfold lostOf; rw [List.getElem?_map, hC]; rfl
        rw [this]; rfl
      rw [e, OWords, List.map_append]
      exact o2
  exact queue_Queue_Dropped.ok ⟨_, rfl, A, _, c, (cell_of hq.head).trans rfl, loop cl.length 0 0 rfl (by omega) (by omega) none 0 w Own.empty (fun k hk => (blk_none hk).elim) (Ext.refl w)⟩
end Go.Proofs.Ythhfipjmjnfjlaa
