/- Package queue: New. -/
import Derived.Test.YthhfipjmjnfjlaaC4
namespace Go.Proofs.Ythhfipjmjnfjlaa
open Go.Rd Go.RowKit
set_option linter.unusedVariables false
set_option linter.unusedSimpArgs false

theorem slPtrs : SliceOf Try.prog 57 60 1 8 (.pointer none) := ⟨by kernel_rfl, by kernel_rfl, rfl, by decide⟩

def fresh (d : Int) : Cls := ⟨d, 0, []⟩
/-- May there be a queue of these depths? -/
def may (ds : List Int) : Prop := 1 ≤ ds.length ∧ ds.length ≤ 17 ∧ ∀ d ∈ ds, 1 ≤ d ∧ d ≤ 1024
def NewOf (w : World) (ds : List Int) (OK : World → Nat → (Nat → Prop) → List Cls → Prop) (v : Value) (w' : World) : Prop :=
  (may ds ∧ ∃ q F, v = .tuple #[.pointer (some ⟨q, 0, none⟩), .int .i64 0] ∧ OK w' q F (ds.map fresh) ∧ Ext w w' ∧ ∀ k, F k → w.heap.size ≤ k) ∨
  (¬ may ds ∧ v = .tuple #[.pointer none, .int .i64 210] ∧ Ext w w')

theorem qnew_spec {w : World} {D : Option Addr} {n dc : Nat} {ds : List Int} (h : IInts w D n ds) (hn : n ≤ 140737488351232) :
    Run Try.prog 9 #[.slice D n dc] w (NewOf w ds QOk) := by
  have hl := h.len
  have bad : ¬ may ds → ∀ w', Ext w w' → NewOf w ds QOk (.tuple #[.pointer none, .int .i64 210]) w' := fun hm w' x => .inr ⟨hm, rfl, x⟩
  refine queue_New.ok (ifP_int (fun he => ifP_t rfl (bad (fun hm => by have := hm.1; omega) w (Ext.refl w))) fun hne => ?_)
  by_cases h17 : (n : Int) > 17
  · rw [decide_eq_true h17]
    exact ifP_t rfl (bad (fun hm => by have := hm.2.1; omega) w (Ext.refl w))
  rw [decide_eq_false h17]
  refine ifP_f rfl (letA fun w1 h1 x1 s1 => ?_)
  have loop : ∀ (d i : Nat) (x : Int), x = i → n - i = d → i ≤ n → (∀ d ∈ ds.take i, 1 ≤ d ∧ d ≤ 1024) → ∀ (A : Option Addr) (c : Nat) (S : List Spot) (w' : World), Ext w w' →
      QAt w' w.heap.size (fun k => w.heap.size ≤ k ∧ k < w'.heap.size) ((ds.take i).map fresh) A c S → Own 60 1 w' A c (S.map ptr) →
      queue_New.L0 (NewOf w ds QOk) (newA w) D n dc n x w' := by
    intro d
    induction d with
    | zero =>
      intro i x hx hd hi hg A c S w' xx hq o
      have : i = n := by omega
      subst this
      rw [List.take_of_length_le (by omega)] at hg hq
      exact queue_New.L0_step (ifP_no (by omega) (.inl ⟨⟨by omega, by omega, hg⟩, _, _, rfl, ⟨A, c, S, hq⟩, xx, fun k hk => hk.1⟩))
    | succ d ih =>
      intro i x hx hd hi hg A c S w' xx hq o
      subst hx
      obtain ⟨a, rfl, ca⟩ := (h.ext xx).at (i := i) (by omega)
      have hget : ds[i]? = some (ds[i]'(by omega)) := List.getElem?_eq_getElem _
      have hmem := List.getElem_mem (l := ds) (n := i) (by omega)
      generalize ds[i]'(by omega) = y at *
      have no : ¬ (1 ≤ y ∧ y ≤ 1024) → ¬ may ds := fun h hm => h (hm.2.2 y hmem)
      refine queue_New.L0_step (ifP_yes (by omega) ⟨by omega, by omega, a, rfl, y, ca, ifP_decide.2 ⟨fun hlow => ifP_t rfl (bad (no (by omega)) w' xx), fun hlow => ?_⟩⟩)
      by_cases hhi : y > 1024
      · rw [decide_eq_true hhi]
        exact ifP_t rfl (bad (no (by omega)) w' xx)
      rw [decide_eq_false hhi]
      have hlen : ((ds.take i).map fresh).length = i := by simp; omega
      have hhead := hq.head
      rw [hlen] at hhead
      refine ifP_f rfl ⟨_, rfl, A, i, c, (cell_of hhead).trans rfl, letA fun w2 h2 x2 s2 => letA fun w3 h3 x3 s3 => ?_⟩
      have hB : RdC w3 (some (newA w2)) [ptr (Spot.mk w'.heap.size none 0 [])] := by
        have : Own 60 1 w3 (some (newA w2)) 1 [ptr (Spot.mk w'.heap.size none 0 [])] := .inr ⟨_, [], rfl, h3, rfl⟩
        exact this.cells
      have hSl : S.length = i := by rw [hq.rd.1]; exact hlen
      obtain ⟨A4, c4, w4, hr4, o4, hc4, k4, n4⟩ := append_own slPtrs (ty := 57) (n := i) (d := 1) ((o.ext x2).ext x3) (by simp [hSl]) hB (m := 1) rfl rfl (by omega) (by omega)
      have hAq : ¬ blk A w.heap.size := fun hk => by
        obtain ⟨us, e1⟩ := Own.typ o hk
        have := typ_ne hq.head e1
        revert this; decide
      have x23 := x2.trans x3
      have hq4 := k4.heap (x23.heap hhead) hAq
      refine ⟨_, w4, hr4, A4, _, c4, rfl, _, rfl, st_cell hq4 (by simp), frozen_of hq4, letS hq4 fun w5 h5 k5 s5 => ?_⟩
      have hs2 := x2.size
      have hs3 := x3.size
      have hs4 : w3.heap.size ≤ w4.heap.size := k4.size
      have hs0 := xx.size
      have fA4 : ∀ k, blk A4 k → w.heap.size ≤ k ∧ k < w4.heap.size := fun k hk => ⟨(n4 k hk).elim (fun h => (hq.fA k h).1) (fun h => by omega), o4.lt k hk⟩
      have hA4q : ¬ blk A4 w.heap.size := fun hk => (n4 _ hk).elim hAq fun h => by have := hq.lt _ hq.fq; omega
      have x5 : Ext w w5 := ((xx.trans x23).fresh k4 fun k hk => (hq.fA k hk).1).fresh k5 fun k hk => by have hk : k = w.heap.size := hk; omega
      have hb2 : w5.heap[w'.heap.size]? = some (.cells #[.int .u32 0, .int .i64 y, .slice none 0 0] 65 (0, 0)) := by
        have e1 := x3.heap h2
        have e2 := k4.heap e1 fun hk => by have := o.lt _ hk; omega
        exact k5.heap e2 fun hk => by have hk : w'.heap.size = w.heap.size := hk; have := hq.lt _ hq.fq; omega
      have et : (ds.take (i + 1)).map fresh = (ds.take i).map fresh ++ [fresh y] := by
        rw [List.take_add_one, hget]; simp
      rw [wrap_i64 (by omega) (by omega)]
      have o5 : Own 60 1 w5 A4 c4 ((S ++ [(Spot.mk w'.heap.size none 0 [])]).map ptr) := by
        rw [List.map_append]
        exact o4.keep k5 fun k hk e => hA4q (by have e : k = w.heap.size := e; exact e ▸ hk)
      have fpn : ∀ k, Spot.fp (Spot.mk w'.heap.size none 0 []) k → k = w'.heap.size := by
        rintro k (hk | (hk | ⟨p, hp, _⟩))
        · exact hk
        · exact absurd hk.1 (Nat.lt_irrefl 0)
        · cases hp
      have old : ∀ (j : Nat) (s : Spot), S[j]? = some s → ∀ k, s.fp k → w.heap.size ≤ k ∧ k < w'.heap.size := fun j s hs k hk => hq.fS s (List.mem_of_getElem? hs) k hk
      have at' : ∀ (j : Nat) (s : Spot), (S ++ [(Spot.mk w'.heap.size none 0 [])])[j]? = some s → S[j]? = some s ∨ (j = i ∧ s = (Spot.mk w'.heap.size none 0 [])) := by
        intro j s hs
        by_cases hj : j < S.length
        · rw [List.getElem?_append_left hj] at hs; exact .inl hs
        · rw [List.getElem?_append_right (by omega)] at hs
          have h0 := (List.getElem?_eq_some_iff.1 hs).1
          simp at h0
          have e : j - S.length = 0 := by omega
          rw [e] at hs
          exact .inr ⟨by omega, (Option.some.inj hs).symm⟩
      refine ih (i + 1) _ (by omega) (by omega) (by omega) (fun z hz => ?_) A4 c4 (S ++ [(Spot.mk w'.heap.size none 0 [])]) w5 x5 ?_ o5
      · rw [List.take_add_one, hget] at hz
        rcases List.mem_append.1 hz with hz | hz
        · exact hg z hz
        · obtain rfl : z = y := by simpa using hz
          omega
      · have hlen' : ((ds.take (i + 1)).map fresh).length = i + 1 := by simp; omega
        refine { head := by rw [hlen', h5]; rfl, rd := ?_, each := ?_, sep := ?_, fq := ⟨Nat.le_refl _, by have := hq.lt _ hq.fq; omega⟩, fA := fun k hk => by have := fA4 k hk; omega, fS := ?_, lt := fun k hk => hk.2, nq := ?_, nA := ?_, len := by rw [hlen']; omega }
        · rw [hlen']
          exact o5.rd (by simp [hSl])
        · intro j s C hs hC
          rw [et] at hC
          rcases at' j s hs with hs | ⟨rfl, rfl⟩
          · have hj : j < ((ds.take i).map fresh).length := by rw [hlen, ← hSl]; exact (List.getElem?_eq_some_iff.1 hs).1
            rw [List.getElem?_append_left hj] at hC
            have sp := (hq.each j s C hs hC).keep (Keep.ext x23) fun _ _ h => h
            have sp4 := sp.keep k4 fun k hk hA => hq.nA s (List.mem_of_getElem? hs) k hA hk
            exact sp4.keep k5 fun k hk e => hq.nq s (List.mem_of_getElem? hs) (by have e : k = w.heap.size := e; exact e ▸ hk)
          · rw [List.getElem?_append_right (by omega), hlen, Nat.sub_self] at hC
            obtain rfl := Option.some.inj hC
            exact ⟨hb2, FOk.nil, ⟨by show (0 : Int) ≤ 0; omega, by show (0 : Int) ≤ _; omega⟩, by show 1 ≤ y ∧ y ≤ 1024; omega, by show ((0 : Nat) : Int) ≤ y; omega⟩
        · intro j1 j2 s t hs ht hne k k1 k2
          rcases at' j1 s hs with hs | ⟨rfl, rfl⟩
          · rcases at' j2 t ht with ht | ⟨rfl, rfl⟩
            · exact hq.sep j1 j2 s t hs ht hne k k1 k2
            · have := fpn k k2; have := old j1 s hs k k1; omega
          · rcases at' j2 t ht with ht | ⟨e, _⟩
            · have := fpn k k1; have := old j2 t ht k k2; omega
            · exact hne e.symm
        · intro s hs k hk
          rcases List.mem_append.1 hs with hs | hs
          · have := hq.fS s hs k hk; omega
          · obtain rfl : s = _ := by simpa using hs
            have := fpn k hk; omega
        · intro s hs hk
          rcases List.mem_append.1 hs with hs | hs
          · exact hq.nq s hs hk
          · obtain rfl : s = _ := by simpa using hs
            have := fpn _ hk; have := hq.lt _ hq.fq; omega
        · intro s hs k hA hk
          rcases List.mem_append.1 hs with hs | hs
          · rcases n4 k hA with h | h
            · exact hq.nA s hs k h hk
            · have := hq.fS s hs k hk; omega
          · obtain rfl : s = _ := by simpa using hs
            have := fpn k hk
            rcases n4 k hA with h | h
            · have := hq.fA k h; omega
            · omega
  refine loop n 0 0 rfl (by omega) (by omega) (by simp) none 0 [] w1 x1 ?_ Own.empty
  refine { head := ?_, rd := ?_, each := ?_, sep := ?_, fq := ?_, fA := ?_, fS := ?_, lt := ?_, nq := ?_, nA := ?_, len := ?_ }
  · simpa using h1
  · simpa using Rd.nil
  · intro i s C h; simp at h
  · intro i j s t h; simp at h
  · exact ⟨Nat.le_refl _, by omega⟩
  · exact fun k hk => (blk_none hk).elim
  · intro s hs; cases hs
  · exact fun k hk => hk.2
  · intro s hs; cases hs
  · intro s hs; cases hs
  · simp
end Go.Proofs.Ythhfipjmjnfjlaa
