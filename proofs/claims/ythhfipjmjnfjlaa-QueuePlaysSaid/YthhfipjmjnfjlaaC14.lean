/- The document's queue: New, Put, Take, Drain, Lens. -/
import Derived.Test.YthhfipjmjnfjlaaC13
namespace Go.Proofs.Ythhfipjmjnfjlaa
open Go.Rd Go.RowKit
set_option linter.unusedVariables false
set_option linter.unusedSimpArgs false
set_option maxRecDepth 100000
section
variable {w : World} {q : Nat} {F : Nat → Prop} {cl : List Cls}
theorem rnew_spec {D : Option Addr} {n dc : Nat} {ds : List Int} (h : IInts w D n ds) : Run Try.prog 7 #[.slice D n dc] w (NewOf w ds WOk) := by
  have hl := h.len
  have bad : ¬ may ds → ∀ w', Ext w w' → NewOf w ds WOk (.tuple #[.pointer none, .int .i64 210]) w' := fun hm w' x => .inr ⟨hm, rfl, x⟩
  refine ref21_New.ok (ifP_decide.2 ⟨fun h1 => ifP_t rfl (bad (fun hm => by have := hm.1; omega) w (Ext.refl w)), fun h1 => ?_⟩)
  by_cases h17 : (n : Int) > 17
  · rw [decide_eq_true h17]
    exact ifP_t rfl (bad (fun hm => by have := hm.2.1; omega) w (Ext.refl w))
  rw [decide_eq_false h17]
  refine ifP_f rfl ?_
  suffices H : ∀ (d i : Nat), n - i = d → i ≤ n → (∀ x ∈ ds.take i, 1 ≤ x ∧ x ≤ 1024) → ref21_New.L0 (NewOf w ds WOk) D n dc (i : Int) w from H n 0 (by omega) (by omega) (fun x hx => by rw [List.take_zero] at hx; cases hx)
  intro d
  induction d with
  | zero =>
    intro i hd hi hg
    rw [List.take_of_length_le (by omega)] at hg
    have hm : may ds := ⟨by omega, by omega, hg⟩
    have hn17 : n ≤ 17 := by omega
    refine ref21_New.L0_step (ifP_no (by omega) (letD fun w1 _ x1 => ?_))
    have nb : ∀ {A : Option Addr} {u u' : World} {b : Nat}, Ext w u → (∀ k, blk A k → k = b ∨ u'.heap.size ≤ k) → w.heap.size ≤ b → w.heap.size ≤ u'.heap.size → ∀ k, blk A k → w.heap.size ≤ k := fun _ h hb hu k hk => by rcases h k hk with h | h <;> omega
    refine ⟨letA fun w2 h2 x2 s2 => ⟨?_, ?_, ?_⟩, mkF hn17 fun X w3 oX nX x3 => ⟨_, _, _, rfl, letA fun w4 h4 x4 s4 => ⟨?_, ?_⟩, ?_⟩, mkL hn17 fun L w3 oL nL x3 => ⟨_, _, _, rfl, letA fun w4 h4 x4 s4 => ⟨?_, ?_⟩, ?_⟩⟩
    -- the list of depths first
    · refine mkD (h.ext (x1.trans x2)) hn17 h2 fun D' dc' w3 oD nD k3 => ⟨_, _, _, rfl, ?_, ?_⟩
      · have x3 : Ext w w3 := (x1.trans x2).fresh k3 fun j hj => by rw [hj]; exact x1.size
        have z1 := x1.size; have z2 := x2.size; have z3 := k3.size
        refine mkF hn17 fun X w4 oX nX x4 => ⟨_, _, _, rfl, mkL hn17 fun L w5 oL nL x5 => ⟨_, _, _, rfl, letA fun w6 h6 x6 s6 => ?_⟩⟩
        have z4 := x4.size
        exact rnew_fin hl hm ((oD.ext x4).ext x5) (oX.ext x5) oL ((x3.trans x4).trans x5) (fun k hk => by rcases nD k hk with h | h <;> omega) (fun k hk => by have := nX k hk; omega) (fun k hk => by have := nL k hk; omega) h6 x6
      · have x3 : Ext w w3 := (x1.trans x2).fresh k3 fun j hj => by rw [hj]; exact x1.size
        have z1 := x1.size; have z2 := x2.size; have z3 := k3.size
        refine mkL hn17 fun L w4 oL nL x4 => ⟨_, _, _, rfl, mkF hn17 fun X w5 oX nX x5 => ⟨_, _, _, rfl, letA fun w6 h6 x6 s6 => ?_⟩⟩
        have z4 := x4.size
        exact rnew_fin hl hm ((oD.ext x4).ext x5) oX (oL.ext x5) ((x3.trans x4).trans x5) (fun k hk => by rcases nD k hk with h | h <;> omega) (fun k hk => by have := nX k hk; omega) (fun k hk => by have := nL k hk; omega) h6 x6
    · refine mkF hn17 fun X w3 oX nX x3 => ⟨_, _, _, rfl, ?_, ?_⟩
      · have z1 := x1.size; have z2 := x2.size; have z3 := x3.size
        refine mkD (h.ext ((x1.trans x2).trans x3)) hn17 (x3.heap h2) fun D' dc' w4 oD nD k4 => ⟨_, _, _, rfl, mkL hn17 fun L w5 oL nL x5 => ⟨_, _, _, rfl, letA fun w6 h6 x6 s6 => ?_⟩⟩
        have x4 : Ext w w4 := ((x1.trans x2).trans x3).fresh k4 fun j hj => by rw [hj]; exact x1.size
        have z4 := k4.size
        exact rnew_fin hl hm (oD.ext x5) ((oX.keep k4 fun k hk h => by have := nX k hk; omega).ext x5) oL (x4.trans x5) (fun k hk => by rcases nD k hk with h | h <;> omega) (fun k hk => by have := nX k hk; omega) (fun k hk => by have := nL k hk; omega) h6 x6
      · have z1 := x1.size; have z2 := x2.size; have z3 := x3.size
        refine mkL hn17 fun L w4 oL nL x4 => ⟨_, _, _, rfl, mkD (h.ext (((x1.trans x2).trans x3).trans x4)) hn17 (x4.heap (x3.heap h2)) fun D' dc' w5 oD nD k5 => ⟨_, _, _, rfl, letA fun w6 h6 x6 s6 => ?_⟩⟩
        have x5 : Ext w w5 := (((x1.trans x2).trans x3).trans x4).fresh k5 fun j hj => by rw [hj]; exact x1.size
        have z4 := x4.size
        exact rnew_fin hl hm oD ((oX.ext x4).keep k5 fun k hk h => by have := nX k hk; omega) (oL.keep k5 fun k hk h => by have := nL k hk; omega) x5 (fun k hk => by rcases nD k hk with h | h <;> omega) (fun k hk => by have := nX k hk; omega) (fun k hk => by have := nL k hk; omega) h6 x6
    · refine mkL hn17 fun L w3 oL nL x3 => ⟨_, _, _, rfl, ?_, ?_⟩
      · have z1 := x1.size; have z2 := x2.size; have z3 := x3.size
        refine mkD (h.ext ((x1.trans x2).trans x3)) hn17 (x3.heap h2) fun D' dc' w4 oD nD k4 => ⟨_, _, _, rfl, mkF hn17 fun X w5 oX nX x5 => ⟨_, _, _, rfl, letA fun w6 h6 x6 s6 => ?_⟩⟩
        have x4 : Ext w w4 := ((x1.trans x2).trans x3).fresh k4 fun j hj => by rw [hj]; exact x1.size
        have z4 := k4.size
        exact rnew_fin hl hm (oD.ext x5) oX ((oL.keep k4 fun k hk h => by have := nL k hk; omega).ext x5) (x4.trans x5) (fun k hk => by rcases nD k hk with h | h <;> omega) (fun k hk => by have := nX k hk; omega) (fun k hk => by have := nL k hk; omega) h6 x6
      · have z1 := x1.size; have z2 := x2.size; have z3 := x3.size
        refine mkF hn17 fun X w4 oX nX x4 => ⟨_, _, _, rfl, mkD (h.ext (((x1.trans x2).trans x3).trans x4)) hn17 (x4.heap (x3.heap h2)) fun D' dc' w5 oD nD k5 => ⟨_, _, _, rfl, letA fun w6 h6 x6 s6 => ?_⟩⟩
        have x5 : Ext w w5 := (((x1.trans x2).trans x3).trans x4).fresh k5 fun j hj => by rw [hj]; exact x1.size
        have z4 := x4.size
        exact rnew_fin hl hm oD (oX.keep k5 fun k hk h => by have := nX k hk; omega) ((oL.ext x4).keep k5 fun k hk h => by have := nL k hk; omega) x5 (fun k hk => by rcases nD k hk with h | h <;> omega) (fun k hk => by have := nX k hk; omega) (fun k hk => by have := nL k hk; omega) h6 x6
    -- the frames first
    · have z1 := x1.size; have z3 := x3.size; have z4 := x4.size
      refine mkD (h.ext ((x1.trans x3).trans x4)) hn17 h4 fun D' dc' w5 oD nD k5 => ⟨_, _, _, rfl, mkL hn17 fun L w6 oL nL x6 => ⟨_, _, _, rfl, letA fun w7 h7 x7 s7 => ?_⟩⟩
      have x5 : Ext w w5 := ((x1.trans x3).trans x4).fresh k5 fun j hj => by rw [hj]; omega
      have z5 := k5.size
      have oX5 := (oX.ext x4).keep k5 fun k hk h => by have := oX.lt k hk; omega
      exact rnew_fin hl hm (oD.ext x6) (oX5.ext x6) oL (x5.trans x6) (fun k hk => by rcases nD k hk with h | h <;> omega) (fun k hk => by have := nX k hk; omega) (fun k hk => by have := nL k hk; omega) h7 x7
    · have z1 := x1.size; have z3 := x3.size; have z4 := x4.size
      refine mkL hn17 fun L w5 oL nL x5 => ⟨_, _, _, rfl, mkD (h.ext (((x1.trans x3).trans x4).trans x5)) hn17 (x5.heap h4) fun D' dc' w6 oD nD k6 => ⟨_, _, _, rfl, letA fun w7 h7 x7 s7 => ?_⟩⟩
      have x6 : Ext w w6 := (((x1.trans x3).trans x4).trans x5).fresh k6 fun j hj => by rw [hj]; omega
      have z5 := x5.size
      exact rnew_fin hl hm oD (((oX.ext x4).ext x5).keep k6 fun k hk h => by have := oX.lt k hk; omega) (oL.keep k6 fun k hk h => by have := nL k hk; omega) x6 (fun k hk => by rcases nD k hk with h | h <;> omega) (fun k hk => by have := nX k hk; omega) (fun k hk => by have := nL k hk; omega) h7 x7
    · have z1 := x1.size; have z3 := x3.size
      refine mkL hn17 fun L w5 oL nL x5 => ⟨_, _, _, rfl, letA fun w4 h4 x4 s4 => ?_⟩
      have z5 := x5.size; have z4 := x4.size
      refine mkD (h.ext (((x1.trans x3).trans x5).trans x4)) hn17 h4 fun D' dc' w6 oD nD k6 => ⟨_, _, _, rfl, letA fun w7 h7 x7 s7 => ?_⟩
      have x6 : Ext w w6 := (((x1.trans x3).trans x5).trans x4).fresh k6 fun j hj => by rw [hj]; omega
      exact rnew_fin hl hm oD (((oX.ext x5).ext x4).keep k6 fun k hk h => by have := oX.lt k hk; omega) ((oL.ext x4).keep k6 fun k hk h => by have := oL.lt k hk; omega) x6 (fun k hk => by rcases nD k hk with h | h <;> omega) (fun k hk => by have := nX k hk; omega) (fun k hk => by have := nL k hk; omega) h7 x7
    -- the lost first
    · have z1 := x1.size; have z3 := x3.size; have z4 := x4.size
      refine mkD (h.ext ((x1.trans x3).trans x4)) hn17 h4 fun D' dc' w5 oD nD k5 => ⟨_, _, _, rfl, mkF hn17 fun X w6 oX nX x6 => ⟨_, _, _, rfl, letA fun w7 h7 x7 s7 => ?_⟩⟩
      have x5 : Ext w w5 := ((x1.trans x3).trans x4).fresh k5 fun j hj => by rw [hj]; omega
      have z5 := k5.size
      have oL5 := (oL.ext x4).keep k5 fun k hk h => by have := oL.lt k hk; omega
      exact rnew_fin hl hm (oD.ext x6) oX (oL5.ext x6) (x5.trans x6) (fun k hk => by rcases nD k hk with h | h <;> omega) (fun k hk => by have := nX k hk; omega) (fun k hk => by have := nL k hk; omega) h7 x7
    · have z1 := x1.size; have z3 := x3.size; have z4 := x4.size
      refine mkF hn17 fun X w5 oX nX x5 => ⟨_, _, _, rfl, mkD (h.ext (((x1.trans x3).trans x4).trans x5)) hn17 (x5.heap h4) fun D' dc' w6 oD nD k6 => ⟨_, _, _, rfl, letA fun w7 h7 x7 s7 => ?_⟩⟩
      have x6 : Ext w w6 := (((x1.trans x3).trans x4).trans x5).fresh k6 fun j hj => by rw [hj]; omega
      have z5 := x5.size
      exact rnew_fin hl hm oD (oX.keep k6 fun k hk h => by have := nX k hk; omega) (((oL.ext x4).ext x5).keep k6 fun k hk h => by have := oL.lt k hk; omega) x6 (fun k hk => by rcases nD k hk with h | h <;> omega) (fun k hk => by have := nX k hk; omega) (fun k hk => by have := nL k hk; omega) h7 x7
    · have z1 := x1.size; have z3 := x3.size
      refine mkF hn17 fun X w5 oX nX x5 => ⟨_, _, _, rfl, letA fun w4 h4 x4 s4 => ?_⟩
      have z5 := x5.size; have z4 := x4.size
      refine mkD (h.ext (((x1.trans x3).trans x5).trans x4)) hn17 h4 fun D' dc' w6 oD nD k6 => ⟨_, _, _, rfl, letA fun w7 h7 x7 s7 => ?_⟩
      have x6 : Ext w w6 := (((x1.trans x3).trans x5).trans x4).fresh k6 fun j hj => by rw [hj]; omega
      exact rnew_fin hl hm oD ((oX.ext x4).keep k6 fun k hk h => by have := oX.lt k hk; omega) (((oL.ext x5).ext x4).keep k6 fun k hk h => by have := oL.lt k hk; omega) x6 (fun k hk => by rcases nD k hk with h | h <;> omega) (fun k hk => by have := nX k hk; omega) (fun k hk => by have := nL k hk; omega) h7 x7
  | succ d ih =>
    intro i hd hi hg
    obtain ⟨y, hy⟩ : ∃ y, ds[i]? = some y := ⟨_, List.getElem?_eq_getElem (by omega)⟩
    obtain ⟨a, ha, ca⟩ := h.2 i y hy
    have hmem := List.mem_of_getElem? hy
    have no : ¬ (1 ≤ y ∧ y ≤ 1024) → ¬ may ds := fun h hm => h (hm.2.2 y hmem)
    have ht : Int.toNat ((i : Nat) : Int) = i := Int.toNat_natCast i
    refine ref21_New.L0_step (ifP_yes (by omega) ⟨by omega, by omega, a, ha, y, by rw [ht]; exact ca, ifP_decide.2 ⟨fun hlow => ifP_t rfl (bad (no (by omega)) w (Ext.refl w)), fun hlow => ⟨by omega, by omega, a, ha, y, by rw [ht]; exact ca, ?_⟩⟩⟩)
    by_cases hhi : y > 1024
    · rw [decide_eq_true hhi]
      exact ifP_t rfl (bad (no (by omega)) w (Ext.refl w))
    rw [decide_eq_false hhi]
    refine ifP_f rfl ?_
    rw [wrap_i64 (by omega) (by omega)]
    refine ih (i + 1) (by omega) (by omega) fun z hz => ?_
    rw [List.take_add_one, hy] at hz
    rcases List.mem_append.1 hz with hz | hz
    · exact hg z hz
    · obtain rfl : z = y := by simpa using hz
      omega
end
end Go.Proofs.Ythhfipjmjnfjlaa
