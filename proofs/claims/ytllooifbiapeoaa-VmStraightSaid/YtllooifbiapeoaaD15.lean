/- The statement over loads. -/
import Derived.Test.YtllooifbiapeoaaD11
namespace Go.Proofs.Ytllooifbiapeoaa
open Go.Rd Go.RowKit
set_option linter.unusedVariables false
set_option linter.unusedSimpArgs false
set_option maxRecDepth 100000

/-! ## Runs of a few instructions -/

section
variable {xs : List Ins} {pkt : List Int} {a f : Nat} {ws ws' : List Int} {i : Ins}
theorem run_step (hi : xs[a]? = some i) (h5 : classOf i.c ≠ 5) (h6 : classOf i.c ≠ 6) (hs : stepX pkt i ws = (0, ws')) : runX xs pkt (f + 1) a ws = ((runX xs pkt f (a + 1) ws').1, a :: (runX xs pkt f (a + 1) ws').2) := by
  rw [runX, hi]
  simp only [nextX_step h5 h6 (show (stepX pkt i ws).1 = 0 by rw [hs]), hs]
theorem run_fault {e : Int} (hi : xs[a]? = some i) (h5 : classOf i.c ≠ 5) (h6 : classOf i.c ≠ 6) (hs : stepX pkt i ws = (e, ws')) (he : e ≠ 0) : runX xs pkt (f + 1) a ws = ((0, e), [a]) := by
  rw [runX, hi]
  simp only [nextX_fault h5 h6 (show (stepX pkt i ws).1 ≠ 0 by rw [hs]; exact he), hs]
theorem run_ret (hi : xs[a]? = some i) (h6 : classOf i.c = 6) : runX xs pkt (f + 1) a ws = ((if i.c = 22 then wd ws 0 else i.k, 0), [a]) := by
  rw [runX, hi]
  simp only [nextX_ret h6]
theorem run_jump (hi : xs[a]? = some i) (h5 : classOf i.c = 5) : runX xs pkt (f + 1) a ws = ((runX xs pkt f (goalX i a ws) ws).1, a :: (runX xs pkt f (goalX i a ws) ws).2) := by
  rw [runX, hi]
  simp only [nextX_jump h5]
theorem taken_straight (h0 : 0 < xs.length) (h1 : xs.length ≤ 4096) (h : ∀ x ∈ xs, faultOf x = 0 ∧ classOf x.c ≠ 5) (hr : endsRet xs = true) : Taken xs :=
  ⟨h0, h1, fun k x hx => ⟨(h x (List.mem_of_getElem? hx)).1, by unfold jumpBad; rw [if_neg (h x (List.mem_of_getElem? hx)).2]⟩, hr⟩
theorem verd_taken (T : Taken xs) (hp : pkt.length ≤ 65536) : codeV xs pkt = 0 ∧ verdV xs pkt = ((runV xs pkt).1.1, (runV xs pkt).1.2, ((runV xs pkt).2.length : Int)) := by
  have e := T.check
  have ec : codeV xs pkt = 0 := by rw [codeV, if_neg (by rw [e]; decide), if_neg (by omega)]
  exact ⟨ec, by rw [verdV, if_pos ec]⟩
end

/-- One load: what the program of three tells. -/
theorem load_verd {pkt : List Int} {x k code far s : Int} (hp : pkt.length ≤ 65536) (hf : faultOf ⟨code, 0, 0, k⟩ = 0) (h5 : classOf code ≠ 5) (h6 : classOf code ≠ 6) (hs : stepX pkt ⟨code, 0, 0, k⟩ (ws0.set 1 x) = ldA (ws0.set 1 x) (loadX pkt far s)) :
    codeV [⟨1, 0, 0, x⟩, ⟨code, 0, 0, k⟩, ⟨22, 0, 0, 0⟩] pkt = 0 ∧ verdV [⟨1, 0, 0, x⟩, ⟨code, 0, 0, k⟩, ⟨22, 0, 0, 0⟩] pkt = (match loadX pkt far s with | some v => (v, 0, 3) | none => (0, 1, 2)) := by
  have T : Taken [⟨1, 0, 0, x⟩, ⟨code, 0, 0, k⟩, ⟨22, 0, 0, 0⟩] := by
    refine taken_straight (Nat.succ_pos _) (show 3 ≤ 4096 by decide) ?_ (show decide (classOf 22 = 6) = true by decide)
    intro y hy
    simp only [List.mem_cons, List.not_mem_nil, or_false] at hy
    rcases hy with rfl | rfl | rfl
    · exact ⟨rfl, show classOf 1 ≠ 5 by decide⟩
    · exact ⟨hf, h5⟩
    · exact ⟨by decide, by decide⟩
  obtain ⟨ec, ev⟩ := verd_taken T hp
  refine ⟨ec, ?_⟩
  rw [ev]
  have e1 : runV [⟨1, 0, 0, x⟩, ⟨code, 0, 0, k⟩, ⟨22, 0, 0, 0⟩] pkt = _ := run_step (f := 2) (a := 0) (ws := ws0) (ws' := ws0.set 1 x) (i := ⟨1, 0, 0, x⟩) rfl (show classOf 1 ≠ 5 by decide) (show classOf 1 ≠ 6 by decide) rfl
  cases hl : loadX pkt far s with
  | some v =>
    rw [hl] at hs
    have e2 := run_step (xs := [⟨1, 0, 0, x⟩, ⟨code, 0, 0, k⟩, ⟨22, 0, 0, 0⟩]) (pkt := pkt) (f := 1) (a := 1) (ws := ws0.set 1 x) (i := ⟨code, 0, 0, k⟩) rfl h5 h6 hs
    have e3 := run_ret (xs := [⟨1, 0, 0, x⟩, ⟨code, 0, 0, k⟩, ⟨22, 0, 0, 0⟩]) (pkt := pkt) (f := 0) (a := 2) (ws := (ws0.set 1 x).set 0 v) (i := ⟨22, 0, 0, 0⟩) rfl (by decide)
    rw [e1, e2, e3]
    rfl
  | none =>
    rw [hl] at hs
    have e2 := run_fault (xs := [⟨1, 0, 0, x⟩, ⟨code, 0, 0, k⟩, ⟨22, 0, 0, 0⟩]) (pkt := pkt) (f := 1) (a := 1) (ws := ws0.set 1 x) (i := ⟨code, 0, 0, k⟩) rfl h5 h6 hs (by decide)
    rw [e1, e2]
    rfl
theorem msh_verd {pkt : List Int} {k : Int} (hp : pkt.length ≤ 65536) : codeV [⟨177, 0, 0, k⟩, ⟨135, 0, 0, 0⟩, ⟨22, 0, 0, 0⟩] pkt = 0 ∧ verdV [⟨177, 0, 0, k⟩, ⟨135, 0, 0, 0⟩, ⟨22, 0, 0, 0⟩] pkt = (match loadX pkt k 1 with | some v => (IntKind.u32.wrap (4 * andI .u32 v 15), 0, 3) | none => (0, 1, 1)) := by
  have T : Taken [⟨177, 0, 0, k⟩, ⟨135, 0, 0, 0⟩, ⟨22, 0, 0, 0⟩] := by
    refine taken_straight (Nat.succ_pos _) (show 3 ≤ 4096 by decide) ?_ (show decide (classOf 22 = 6) = true by decide)
    intro y hy
    simp only [List.mem_cons, List.not_mem_nil, or_false] at hy
    rcases hy with rfl | rfl | rfl
    · exact ⟨rfl, show classOf 177 ≠ 5 by decide⟩
    · exact ⟨by decide, by decide⟩
    · exact ⟨by decide, by decide⟩
  obtain ⟨ec, ev⟩ := verd_taken T hp
  refine ⟨ec, ?_⟩
  rw [ev]
  have es : stepX pkt ⟨177, 0, 0, k⟩ ws0 = (match loadX pkt k 1 with | some v => (0, ws0.set 1 (IntKind.u32.wrap (4 * andI .u32 v 15))) | none => (1, ws0)) := rfl
  cases hl : loadX pkt k 1 with
  | some v =>
    rw [hl] at es
    have e1 : runV [⟨177, 0, 0, k⟩, ⟨135, 0, 0, 0⟩, ⟨22, 0, 0, 0⟩] pkt = _ := run_step (f := 2) (a := 0) (ws := ws0) (i := ⟨177, 0, 0, k⟩) rfl (show classOf 177 ≠ 5 by decide) (show classOf 177 ≠ 6 by decide) es
    have e2 := run_step (xs := [⟨177, 0, 0, k⟩, ⟨135, 0, 0, 0⟩, ⟨22, 0, 0, 0⟩]) (pkt := pkt) (f := 1) (a := 1) (ws := ws0.set 1 (IntKind.u32.wrap (4 * andI .u32 v 15))) (i := ⟨135, 0, 0, 0⟩) rfl (show classOf 135 ≠ 5 by decide) (show classOf 135 ≠ 6 by decide) rfl
    have e3 := run_ret (xs := [⟨177, 0, 0, k⟩, ⟨135, 0, 0, 0⟩, ⟨22, 0, 0, 0⟩]) (pkt := pkt) (f := 0) (a := 2) (ws := (ws0.set 1 (IntKind.u32.wrap (4 * andI .u32 v 15))).set 0 (wd (ws0.set 1 (IntKind.u32.wrap (4 * andI .u32 v 15))) 1)) (i := ⟨22, 0, 0, 0⟩) rfl (by decide)
    rw [e1, e2, e3]
    rfl
  | none =>
    rw [hl] at es
    have e1 : runV [⟨177, 0, 0, k⟩, ⟨135, 0, 0, 0⟩, ⟨22, 0, 0, 0⟩] pkt = _ := run_fault (f := 2) (a := 0) (ws := ws0) (i := ⟨177, 0, 0, k⟩) rfl (show classOf 177 ≠ 5 by decide) (show classOf 177 ≠ 6 by decide) es (by decide)
    rw [e1]
    rfl
theorem len_verd {pkt : List Int} (hp : pkt.length ≤ 65536) : verdV [⟨128, 0, 0, 0⟩, ⟨22, 0, 0, 0⟩] pkt = ((pkt.length : Int), 0, 2) := by
  have T : Taken [⟨128, 0, 0, 0⟩, ⟨22, 0, 0, 0⟩] := by
    refine taken_straight (Nat.succ_pos _) (show 2 ≤ 4096 by decide) ?_ (show decide (classOf 22 = 6) = true by decide)
    intro y hy
    simp only [List.mem_cons, List.not_mem_nil, or_false] at hy
    rcases hy with rfl | rfl
    · exact ⟨by decide, by decide⟩
    · exact ⟨by decide, by decide⟩
  rw [(verd_taken T hp).2]
  have e1 : runV [⟨128, 0, 0, 0⟩, ⟨22, 0, 0, 0⟩] pkt = _ := run_step (f := 1) (a := 0) (ws := ws0) (ws' := ws0.set 0 pkt.length) (i := ⟨128, 0, 0, 0⟩) rfl (show classOf 128 ≠ 5 by decide) (show classOf 128 ≠ 6 by decide) rfl
  have e3 := run_ret (xs := [⟨128, 0, 0, 0⟩, ⟨22, 0, 0, 0⟩]) (pkt := pkt) (f := 0) (a := 1) (ws := ws0.set 0 pkt.length) (i := ⟨22, 0, 0, 0⟩) rfl (by decide)
  rw [e1, e3]
  rfl
/-- A byte as a load tells it. -/
theorem load_byte {pkt : List Int} (hx : ∀ x ∈ pkt, 0 ≤ x ∧ x ≤ 255) {k : Int} (h0 : 0 ≤ k) (h1 : k < pkt.length) : loadX pkt k 1 = some (pkt.getD k.toNat 0) ∧ IntKind.u32.wrap (andI .u8 (pkt.getD k.toNat 0) 15) = andI .u32 (pkt.getD k.toNat 0) 15 := by
  have hr := getD_byte hx k.toNat
  have e1 : (pkt.drop k.toNat).take 1 = [pkt.getD k.toNat 0] := by
    rw [List.drop_eq_getElem_cons (by omega), List.getD_eq_getElem?_getD, List.getElem?_eq_getElem (by omega)]
    rfl
  have b1 : ∀ b : Fin 256, be 0 [((b.val : Nat) : Int)] = ((b.val : Nat) : Int) ∧ IntKind.u32.wrap (andI .u8 ((b.val : Nat) : Int) 15) = andI .u32 ((b.val : Nat) : Int) 15 := by decide +kernel
  have b2 := b1 ⟨(pkt.getD k.toNat 0).toNat, by omega⟩
  simp only at b2
  rw [Int.toNat_of_nonneg hr.1] at b2
  refine ⟨?_, b2.2⟩
  unfold loadX
  rw [if_pos (fitsB_iff.2 ⟨.inl rfl, h0, by omega⟩)]
  show some (be 0 ((pkt.drop k.toNat).take 1)) = _
  rw [e1, b2.1]
end Go.Proofs.Ytllooifbiapeoaa
