/- The statement over straight programs. -/
import Derived.Test.YtllooifbiapeoaaV
import Derived.Test.YtllooifbiapeoaaD7
import Derived.Test.YtllooifbiapeoaaD16
namespace Go.Proofs.Ytllooifbiapeoaa
open Go.Rd Go.RowKit
set_option linter.unusedVariables false
set_option linter.unusedSimpArgs false
set_option maxRecDepth 100000

def xops : List Int := [12, 28, 44, 76, 92, 172, 108, 124, 60, 156]
def progX (op a b s : Int) : List Ins := [⟨0, 0, 0, b⟩, ⟨2, 0, 0, s⟩, ⟨0, 0, 0, a⟩, ⟨97, 0, 0, s⟩, ⟨op, 0, 0, 0⟩, ⟨22, 0, 0, 0⟩]
def progK (op a b : Int) : List Ins := [⟨0, 0, 0, a⟩, ⟨op, 0, 0, b⟩, ⟨22, 0, 0, 0⟩]
theorem xop_facts {op : Int} (h : op ∈ xops) : op ∈ rOperationL ∧ classOf op ≠ 5 ∧ classOf op ≠ 6 ∧ faultOf ⟨op, 0, 0, 0⟩ = 0 ∧ andI .u16 op 8 ≠ 0 ∧ (0 ≤ op ∧ op ≤ 65535) ∧ op ∉ [0, 32, 40, 48, 64, 72, 80, 96, 128, 1, 97, 129, 177, 2, 3, 132, 7, 135] ∧
    classOf (andNotI .u16 op 8) ≠ 5 ∧ classOf (andNotI .u16 op 8) ≠ 6 ∧ isKnown (andNotI .u16 op 8) = true ∧ andNotI .u16 op 8 ∉ wordsL ∧ andI .u16 (andNotI .u16 op 8) 8 = 0 ∧ opOf (andNotI .u16 op 8) = opOf op ∧ (0 ≤ andNotI .u16 op 8 ∧ andNotI .u16 op 8 ≤ 65535) ∧ andNotI .u16 op 8 ∉ [0, 32, 40, 48, 64, 72, 80, 96, 128, 1, 97, 129, 177, 2, 3, 132, 7, 135] := by
  have : ∀ x ∈ xops, x ∈ rOperationL ∧ classOf x ≠ 5 ∧ classOf x ≠ 6 ∧ faultOf ⟨x, 0, 0, 0⟩ = 0 ∧ andI .u16 x 8 ≠ 0 ∧ (0 ≤ x ∧ x ≤ 65535) ∧ x ∉ [(0 : Int), 32, 40, 48, 64, 72, 80, 96, 128, 1, 97, 129, 177, 2, 3, 132, 7, 135] ∧
    classOf (andNotI .u16 x 8) ≠ 5 ∧ classOf (andNotI .u16 x 8) ≠ 6 ∧ isKnown (andNotI .u16 x 8) = true ∧ andNotI .u16 x 8 ∉ wordsL ∧ andI .u16 (andNotI .u16 x 8) 8 = 0 ∧ opOf (andNotI .u16 x 8) = opOf x ∧ (0 ≤ andNotI .u16 x 8 ∧ andNotI .u16 x 8 ≤ 65535) ∧ andNotI .u16 x 8 ∉ [(0 : Int), 32, 40, 48, 64, 72, 80, 96, 128, 1, 97, 129, 177, 2, 3, 132, 7, 135] := by decide +kernel
  exact this op h
theorem step_alu {pkt : List Int} {i : Ins} {ws : List Int} (h : i.c ∉ [0, 32, 40, 48, 64, 72, 80, 96, 128, 1, 97, 129, 177, 2, 3, 132, 7, 135]) : stepX pkt i ws = (match aluX i.c (wd ws 0) (rightX i ws) with | some v => (0, ws.set 0 v) | none => (2, ws)) := by
  simp only [List.mem_cons, List.not_mem_nil, or_false, not_or] at h
  obtain ⟨n0, n32, n40, n48, n64, n72, n80, n96, n128, n1, n97, n129, n177, n2, n3, n132, n7, n135⟩ := h
  rw [stepX, if_neg n0, if_neg n32, if_neg n40, if_neg n48, if_neg n64, if_neg n72, if_neg n80, if_neg n96, if_neg n128, if_neg n1, if_neg n97, if_neg n129, if_neg n177, if_neg n2, if_neg n3, if_neg n132, if_neg n7, if_neg n135]
  rfl
theorem wd_self {ws : List Int} {i : Nat} {v : Int} (h : i < ws.length) : wd (ws.set i v) i = v := by
  rw [wd, List.getD_eq_getElem?_getD, List.getElem?_set_self h]
  rfl
theorem wd_ne {ws : List Int} {i j : Nat} {v : Int} (h : i ≠ j) : wd (ws.set i v) j = wd ws j := by
  rw [wd, List.getD_eq_getElem?_getD, List.getElem?_set_ne h, wd, List.getD_eq_getElem?_getD]
section
variable {op a b s : Int}
theorem progX_verd (hop : op ∈ xops) (h0 : 0 ≤ s) (h1 : s < 16) : codeV (progX op a b s) [] = 0 ∧ verdV (progX op a b s) [] = (match aluX op a b with | some v => (v, 0, 6) | none => (0, 2, 5)) := by
  obtain ⟨f1, f2, f3, f4, f5, f6, f7, _⟩ := xop_facts hop
  have T : Taken (progX op a b s) := by
    refine taken_straight (Nat.succ_pos _) (show 6 ≤ 4096 by decide) ?_ (show decide (classOf 22 = 6) = true by decide)
    intro y hy
    have w2 : ∀ c, c ∈ wordsL → isKnown c = true → ¬ (c = 52 ∨ c = 148) → ¬ (c = 100 ∨ c = 116) → faultOf ⟨c, 0, 0, s⟩ = 0 := by
      intro c hc hk n1 n2
      unfold faultOf
      rw [if_pos hk, if_neg (fun h => by have : 16 ≤ s := h.2; omega), if_neg (fun h => n1 h.1), if_neg (fun h => n2 h.1)]
    simp only [progX, List.mem_cons, List.not_mem_nil, or_false] at hy
    rcases hy with rfl | rfl | rfl | rfl | rfl | rfl
    · exact ⟨rfl, show classOf 0 ≠ 5 by decide⟩
    · exact ⟨w2 2 (by decide) (by decide) (by decide) (by decide), show classOf 2 ≠ 5 by decide⟩
    · exact ⟨rfl, show classOf 0 ≠ 5 by decide⟩
    · exact ⟨w2 97 (by decide) (by decide) (by decide) (by decide), show classOf 97 ≠ 5 by decide⟩
    · exact ⟨f4, f2⟩
    · exact ⟨by decide, by decide⟩
  obtain ⟨ec, ev⟩ := verd_taken (pkt := []) T (by decide)
  refine ⟨ec, ?_⟩
  rw [ev]
  have hs : 2 + s.toNat < 18 := by omega
  have e0 : runV (progX op a b s) [] = _ := run_step (f := 5) (a := 0) (ws := ws0) (ws' := ws0.set 0 b) (i := ⟨0, 0, 0, b⟩) rfl (show classOf 0 ≠ 5 by decide) (show classOf 0 ≠ 6 by decide) rfl
  have e1 := run_step (xs := progX op a b s) (pkt := []) (f := 4) (a := 1) (ws := ws0.set 0 b) (ws' := (ws0.set 0 b).set (2 + s.toNat) b) (i := ⟨2, 0, 0, s⟩) rfl (show classOf 2 ≠ 5 by decide) (show classOf 2 ≠ 6 by decide) rfl
  have e2 := run_step (xs := progX op a b s) (pkt := []) (f := 3) (a := 2) (ws := (ws0.set 0 b).set (2 + s.toNat) b) (ws' := ((ws0.set 0 b).set (2 + s.toNat) b).set 0 a) (i := ⟨0, 0, 0, a⟩) rfl (show classOf 0 ≠ 5 by decide) (show classOf 0 ≠ 6 by decide) rfl
  have e3 := run_step (xs := progX op a b s) (pkt := []) (f := 2) (a := 3) (ws := ((ws0.set 0 b).set (2 + s.toNat) b).set 0 a) (i := ⟨97, 0, 0, s⟩) rfl (show classOf 97 ≠ 5 by decide) (show classOf 97 ≠ 6 by decide) rfl
  have ew : wd (((ws0.set 0 b).set (2 + s.toNat) b).set 0 a) (2 + s.toNat) = b := by
    rw [wd_ne (by omega), wd_self (by rw [List.length_set]; exact hs)]
  have e3 := e3
  rw [show wd (((ws0.set 0 b).set (2 + s.toNat) b).set 0 a) (2 + Int.toNat (Ins.k ⟨97, 0, 0, s⟩)) = b from ew] at e3
  generalize hW : (((ws0.set 0 b).set (2 + s.toNat) b).set 0 a).set 1 b = W at e3
  have wl : W.length = 18 := by rw [← hW]; simp [ws0]
  have wa : wd W 0 = a := by rw [← hW, wd_ne (by decide), wd_self (by simp [ws0])]
  have wb : wd W 1 = b := by rw [← hW, wd_self (by simp [ws0])]
  have es : stepX [] ⟨op, 0, 0, 0⟩ W = (match aluX op a b with | some v => (0, W.set 0 v) | none => (2, W)) := by
    have := step_alu (pkt := []) (i := ⟨op, 0, 0, 0⟩) (ws := W) f7
    have er : rightX ⟨op, 0, 0, 0⟩ W = b := by rw [rightX, if_pos f5, wb]
    rw [er, wa] at this
    exact this
  cases hx : aluX op a b with
  | some v =>
    rw [hx] at es
    have e4 := run_step (xs := progX op a b s) (pkt := []) (f := 1) (a := 4) (i := ⟨op, 0, 0, 0⟩) rfl f2 f3 es
    have e5 := run_ret (xs := progX op a b s) (pkt := []) (f := 0) (a := 5) (ws := W.set 0 v) (i := ⟨22, 0, 0, 0⟩) rfl (by decide)
    rw [e0, e1, e2, e3, e4, e5]
    show ((if (22 : Int) = 22 then wd (W.set 0 v) 0 else 0), (0 : Int), _) = _
    rw [if_pos rfl, wd_self (by omega)]
    rfl
  | none =>
    rw [hx] at es
    have e4 := run_fault (xs := progX op a b s) (pkt := []) (f := 1) (a := 4) (i := ⟨op, 0, 0, 0⟩) rfl f2 f3 es (by decide)
    rw [e0, e1, e2, e3, e4]
    rfl
theorem progK_verd (hop : op ∈ xops) {v : Int} (hf : faultOf ⟨andNotI .u16 op 8, 0, 0, b⟩ = 0) (hv : aluX op a b = some v) : codeV (progK (andNotI .u16 op 8) a b) [] = 0 ∧ verdV (progK (andNotI .u16 op 8) a b) [] = (v, 0, 3) := by
  obtain ⟨_, _, _, _, _, _, _, g1, g2, g3, g4, g5, g6, g7, g8⟩ := xop_facts hop
  have T : Taken (progK (andNotI .u16 op 8) a b) := by
    refine taken_straight (Nat.succ_pos _) (show 3 ≤ 4096 by decide) ?_ (show decide (classOf 22 = 6) = true by decide)
    intro y hy
    simp only [progK, List.mem_cons, List.not_mem_nil, or_false] at hy
    rcases hy with rfl | rfl | rfl
    · exact ⟨rfl, show classOf 0 ≠ 5 by decide⟩
    · exact ⟨hf, g1⟩
    · exact ⟨by decide, by decide⟩
  obtain ⟨ec, ev⟩ := verd_taken (pkt := []) T (by decide)
  refine ⟨ec, ?_⟩
  rw [ev]
  have e0 : runV (progK (andNotI .u16 op 8) a b) [] = _ := run_step (f := 2) (a := 0) (ws := ws0) (ws' := ws0.set 0 a) (i := ⟨0, 0, 0, a⟩) rfl (show classOf 0 ≠ 5 by decide) (show classOf 0 ≠ 6 by decide) rfl
  have es : stepX [] ⟨andNotI .u16 op 8, 0, 0, b⟩ (ws0.set 0 a) = (0, (ws0.set 0 a).set 0 v) := by
    have := step_alu (pkt := []) (i := ⟨andNotI .u16 op 8, 0, 0, b⟩) (ws := ws0.set 0 a) g8
    have er : rightX ⟨andNotI .u16 op 8, 0, 0, b⟩ (ws0.set 0 a) = b := by rw [rightX, if_neg (not_not_intro g5)]
    have ea : aluX (andNotI .u16 op 8) a b = some v := by
      rw [← hv]
      unfold aluX
      rw [g6]
    rw [er, show wd (ws0.set 0 a) 0 = a from rfl] at this
    have this : stepX [] ⟨andNotI .u16 op 8, 0, 0, b⟩ (ws0.set 0 a) = (match aluX (andNotI .u16 op 8) a b with | some v => (0, (ws0.set 0 a).set 0 v) | none => (2, ws0.set 0 a)) := this
    rw [this, ea]
  have e1 := run_step (xs := progK (andNotI .u16 op 8) a b) (pkt := []) (f := 1) (a := 1) (i := ⟨andNotI .u16 op 8, 0, 0, b⟩) rfl g1 g2 es
  have e2 := run_ret (xs := progK (andNotI .u16 op 8) a b) (pkt := []) (f := 0) (a := 2) (ws := (ws0.set 0 a).set 0 v) (i := ⟨22, 0, 0, 0⟩) rfl (by decide)
  rw [e0, e1, e2]
  rfl
end
/-- What is wanted. -/
def wantL (a b l r d m : Int) : List Int := [IntKind.u32.wrap (a + b), IntKind.u32.wrap (a - b), IntKind.u32.wrap (a * b), orI .u32 a b, andI .u32 a b, xorI .u32 a b, l, r, d, m]
end Go.Proofs.Ytllooifbiapeoaa
