/- Package machine: arithmetic, questions, the table; package vm: jump. -/
import Derived.Test.YtllooifbiapeoaaD2
namespace Go.Proofs.Ytllooifbiapeoaa
open Go.Rd Go.RowKit
set_option linter.unusedVariables false
set_option linter.unusedSimpArgs false
set_option maxRecDepth 100000

section
variable {w w1 w2 : World} {b : Nat} {ws : List Int} {P : Option Addr} {pn pc : Nat} {a v : Int} {e : Bool} {pkt : List Int} {i : Ins} {tl : List Value} {ty : TypeId}
theorem right_spec (h : WsAt w b ws tl ty) : Run Try.prog 97 (ArgM b i) w fun u w' => u = .int .u32 (rightX i ws) ∧ Go.Rd.Ext w w' := by
  refine machine_Words_Right.ok (letA fun w1 h1 x1 s1 => ⟨_, IAt.c0 h1, ifP_bne.2 ⟨fun h8 => ⟨_, rfl, _, (h.ext x1).get (i := 1) (by decide) (by rw [add_mk]), ?_, x1⟩, fun h8 => ⟨_, IAt.c3 h1, ?_, x1⟩⟩⟩)
  · rw [rightX, if_pos h8]
  · rw [rightX, if_neg (fun h => h h8)]
theorem reckon_spec {c x y : Int} (hy : 0 ≤ y) : Run Try.prog 96 #[.int .u16 c, .int .u32 x, .int .u32 y] w fun u w' => u = (match aluX c x y with | some z => .tuple #[.int .u32 z, .bool true] | none => .tuple #[.int .u32 0, .bool false]) ∧ w' = w := by
  refine machine_Reckon.ok (ifP_beq.2 ⟨fun h => ⟨?_, rfl⟩, fun h1 => ifP_beq.2 ⟨fun h => ⟨?_, rfl⟩, fun h2 => ifP_beq.2 ⟨fun h => ⟨?_, rfl⟩, fun h3 => ifP_beq.2 ⟨fun h => ⟨?_, rfl⟩, fun h4 => ifP_beq.2 ⟨fun h => ⟨?_, rfl⟩, fun h5 => ifP_beq.2 ⟨fun h => ⟨?_, rfl⟩, fun h6 => ifP_beq.2 ⟨fun h => ⟨hy, ?_, rfl⟩, fun h7 => ifP_beq.2 ⟨fun h => ⟨hy, ?_, rfl⟩, fun h8 => ifP_beq.2 ⟨fun h => ⟨?_, rfl⟩, fun h9 => ifP_beq.2 ⟨fun h => ⟨h9, ?_, rfl⟩, fun h10 => ⟨h9, ?_, rfl⟩⟩⟩⟩⟩⟩⟩⟩⟩⟩⟩)
  · rw [aluX, if_pos (show opOf c = 4 from h)]
  · rw [aluX, if_neg (show ¬ opOf c = 4 from h1), if_pos (show opOf c = 20 from h)]
  · rw [aluX, if_neg (show ¬ opOf c = 4 from h1), if_neg (show ¬ opOf c = 20 from h2), if_pos (show opOf c = 36 from h)]
  · rw [aluX, if_neg (show ¬ opOf c = 4 from h1), if_neg (show ¬ opOf c = 20 from h2), if_neg (show ¬ opOf c = 36 from h3), if_pos (show opOf c = 68 from h)]
  · rw [aluX, if_neg (show ¬ opOf c = 4 from h1), if_neg (show ¬ opOf c = 20 from h2), if_neg (show ¬ opOf c = 36 from h3), if_neg (show ¬ opOf c = 68 from h4), if_pos (show opOf c = 84 from h)]
  · rw [aluX, if_neg (show ¬ opOf c = 4 from h1), if_neg (show ¬ opOf c = 20 from h2), if_neg (show ¬ opOf c = 36 from h3), if_neg (show ¬ opOf c = 68 from h4), if_neg (show ¬ opOf c = 84 from h5), if_pos (show opOf c = 164 from h)]
  · rw [aluX, if_neg (show ¬ opOf c = 4 from h1), if_neg (show ¬ opOf c = 20 from h2), if_neg (show ¬ opOf c = 36 from h3), if_neg (show ¬ opOf c = 68 from h4), if_neg (show ¬ opOf c = 84 from h5), if_neg (show ¬ opOf c = 164 from h6), if_pos (show opOf c = 100 from h)]
  · rw [aluX, if_neg (show ¬ opOf c = 4 from h1), if_neg (show ¬ opOf c = 20 from h2), if_neg (show ¬ opOf c = 36 from h3), if_neg (show ¬ opOf c = 68 from h4), if_neg (show ¬ opOf c = 84 from h5), if_neg (show ¬ opOf c = 164 from h6), if_neg (show ¬ opOf c = 100 from h7), if_pos (show opOf c = 116 from h)]
  · rw [aluX, if_neg (show ¬ opOf c = 4 from h1), if_neg (show ¬ opOf c = 20 from h2), if_neg (show ¬ opOf c = 36 from h3), if_neg (show ¬ opOf c = 68 from h4), if_neg (show ¬ opOf c = 84 from h5), if_neg (show ¬ opOf c = 164 from h6), if_neg (show ¬ opOf c = 100 from h7), if_neg (show ¬ opOf c = 116 from h8), if_pos h]
  · rw [aluX, if_neg (show ¬ opOf c = 4 from h1), if_neg (show ¬ opOf c = 20 from h2), if_neg (show ¬ opOf c = 36 from h3), if_neg (show ¬ opOf c = 68 from h4), if_neg (show ¬ opOf c = 84 from h5), if_neg (show ¬ opOf c = 164 from h6), if_neg (show ¬ opOf c = 100 from h7), if_neg (show ¬ opOf c = 116 from h8), if_neg h9, if_pos (show opOf c = 52 from h)]
  · rw [aluX, if_neg (show ¬ opOf c = 4 from h1), if_neg (show ¬ opOf c = 20 from h2), if_neg (show ¬ opOf c = 36 from h3), if_neg (show ¬ opOf c = 68 from h4), if_neg (show ¬ opOf c = 84 from h5), if_neg (show ¬ opOf c = 164 from h6), if_neg (show ¬ opOf c = 100 from h7), if_neg (show ¬ opOf c = 116 from h8), if_neg h9, if_neg (show ¬ opOf c = 52 from h10)]
theorem rightX_U (hw : Wok ws) (hi : i.ok) : U (rightX i ws) := by
  unfold rightX
  split
  · exact hw.wd _
  · exact hi.2.2.2
theorem malu_spec (r : Rn w b ws P pn pc a v e pkt i) (hs : stepX pkt i ws = (match aluX i.c (wd ws 0) (rightX i ws) with | some v => (0, ws.set 0 v) | none => (2, ws))) : Run Try.prog 81 (ArgM b i) w (Did w b (stepX pkt i ws) P pn pc a v e) := by
  obtain ⟨h, hp, hc, hn, hi⟩ := r
  have hr := rightX_U h.ok hi
  refine machine_Machine_alu.ok (letA fun w1 h1 x1 s1 => ⟨fun u => RAt u b ws P pn pc 0 a v e ∧ IAt u w.heap.size i, ⟨(h.ext x1).ext (Go.Rd.Ext.drew w1), IAt.ext h1 (Go.Rd.Ext.drew w1)⟩, letD fun w2 _ x2 => ⟨_, fun u hu => hu.2.c0, _, rfl, _, fun u hu => hu.1.get (i := 0) (by decide) rfl, _, rfl, IAt.rdS (fun u hu => hu.2) ((right_spec (i := i) ((h.ext x1).ext x2)).mono ?_)⟩⟩)
  rintro u w3 ⟨rfl, x3⟩
  have x13 := x2.trans x3
  refine ⟨_, rfl, ⟨(h.ext x1).ext x13, IAt.ext h1 x13⟩, (reckon_spec hr.1).mono ?_⟩
  rintro u w4 ⟨hu, rfl⟩
  have h3 := (h.ext x1).ext x13
  cases hx : aluX i.c (wd ws 0) (rightX i ws) with
  | some z =>
    rw [hx] at hu hs
    subst hu
    exact ⟨_, _, rfl, ifP_f rfl ⟨_, rfl, h3.put (i := 0) (by decide) (aluX_U (h.ok.wd 0) hr hx) rfl fun w5 h5 k5 => Did.of (x1.trans x13) hs h5 k5⟩⟩
  | none =>
    rw [hx] at hu hs
    subst hu
    exact ⟨_, _, rfl, ifP_t rfl ⟨_, rfl, h3.putT (i := 1) (show 1 < 5 by decide) (by rw [add_mk]) fun w5 h5 k5 => Did.of (x1.trans x13) hs h5 k5⟩⟩
theorem holds_spec {c x y : Int} : Run Try.prog 98 #[.int .u16 c, .int .u32 x, .int .u32 y] w fun u w' => u = .bool (askX c x y) ∧ w' = w := by
  refine machine_Holds.ok (ifP_beq.2 ⟨fun h => ⟨?_, rfl⟩, fun h1 => ifP_beq.2 ⟨fun h => ⟨?_, rfl⟩, fun h2 => ifP_beq.2 ⟨fun h => ⟨?_, rfl⟩, fun h3 => ⟨?_, rfl⟩⟩⟩⟩)
  · rw [askX, if_pos (show opOf c = 21 from h)]
  · rw [askX, if_neg (show ¬ opOf c = 21 from h1), if_pos (show opOf c = 37 from h)]
  · rw [askX, if_neg (show ¬ opOf c = 21 from h1), if_neg (show ¬ opOf c = 37 from h2), if_pos (show opOf c = 53 from h)]
  · rw [askX, if_neg (show ¬ opOf c = 21 from h1), if_neg (show ¬ opOf c = 37 from h2), if_neg (show ¬ opOf c = 53 from h3)]
theorem asks_spec (h : WsAt w b ws tl ty) : Run Try.prog 82 (ArgM b i) w fun u w' => u = .bool (askX i.c (wd ws 0) (rightX i ws)) ∧ Go.Rd.Ext w w' := by
  refine machine_Words_Asks.ok (letA fun w1 h1 x1 s1 => ⟨fun u => WsAt u b ws tl ty ∧ IAt u w.heap.size i, ⟨(h.ext x1).ext (Go.Rd.Ext.drew w1), IAt.ext h1 (Go.Rd.Ext.drew w1)⟩, letD fun w2 _ x2 => ⟨_, fun u hu => hu.2.c0, _, rfl, _, fun u hu => hu.1.get (i := 0) (by decide) rfl, IAt.rdS (fun u hu => hu.2) ((right_spec (i := i) ((h.ext x1).ext x2)).mono ?_)⟩⟩)
  rintro u w3 ⟨rfl, x3⟩
  have x13 := x2.trans x3
  refine ⟨_, rfl, ⟨(h.ext x1).ext x13, IAt.ext h1 x13⟩, holds_spec.mono ?_⟩
  rintro u w4 ⟨rfl, rfl⟩
  exact ⟨_, rfl, rfl, x1.trans x13⟩
theorem back_spec (h : WsAt w b ws tl ty) : Run Try.prog 53 (ArgM b i) w fun u w' => u = .int .u32 (if i.c = 22 then wd ws 0 else i.k) ∧ Go.Rd.Ext w w' := by
  refine machine_Words_Back.ok (letA fun w1 h1 x1 s1 => ⟨_, IAt.c0 h1, ifP_beq.2 ⟨fun h22 => ⟨_, rfl, _, (h.ext x1).get (i := 0) (by decide) rfl, ?_, x1⟩, fun h22 => ⟨_, IAt.c3 h1, ?_, x1⟩⟩⟩)
  · rw [if_pos h22]
  · rw [if_neg h22]
/-- Where a jump goes. -/
def goalX (i : Ins) (a : Nat) (ws : List Int) : Nat := if i.c = 5 then a + 1 + i.k.toNat else if askX i.c (wd ws 0) (rightX i ws) = true then a + 1 + i.t.toNat else a + 1 + i.f.toNat
theorem jump_spec {at_ : Nat} (h : RAt w b ws P pn pc 0 ((at_ + 1 : Nat) : Int) v e) (ha : at_ ≤ 4096) (hi : i.ok) : Run Try.prog 52 (ArgM b i) w fun u w' => u = .tuple #[] ∧ RAt w' b ws P pn pc 0 ((goalX i at_ ws : Nat) : Int) v e ∧ Keep (· = b) w w' := by
  obtain ⟨_, ⟨t0, t1⟩, ⟨f0, f1⟩, k0, k1⟩ := hi
  have c20 : ∀ {u : World}, RAt u b ws P pn pc 0 ((at_ + 1 : Nat) : Int) v e → u.cell? ((Addr.mk b 0 none).add 20) = some (.int .i64 ((at_ + 1 : Nat) : Int)) := fun hu => by rw [add_mk]; exact hu.tail (i := 2) rfl rfl
  have put : ∀ {w2 : World} {x : Int} {g : Nat}, Go.Rd.Ext w w2 → 0 ≤ x → x ≤ 4294967295 → g = at_ + 1 + x.toNat → g = goalX i at_ ws → (∃ u, w2.cell? ((Addr.mk b 0 none).add 20) = some u) ∧ w2.frozen? ((Addr.mk b 0 none).add 20) = false ∧ letW (w2.setCell ((Addr.mk b 0 none).add 20) (.int .i64 (IntKind.i64.wrap (((at_ + 1 : Nat) : Int) + IntKind.i64.wrap x)))) fun w3 => (Value.tuple #[] = .tuple #[] ∧ RAt w3 b ws P pn pc 0 ((goalX i at_ ws : Nat) : Int) v e ∧ Keep (· = b) w w3) := by
    intro w2 x g x2 x0 x1 hg hg2
    have e1 : IntKind.i64.wrap (((at_ + 1 : Nat) : Int) + IntKind.i64.wrap x) = ((goalX i at_ ws : Nat) : Int) := by
      rw [wrap_i64 (x := x) (by omega) (by omega), wrap_i64 (by omega) (by omega)]
      omega
    rw [e1]
    exact (h.ext x2).putT (i := 2) (show 2 < 5 by decide) (by rw [add_mk]) fun w3 h3 k3 => ⟨rfl, h3, (Keep.ext x2).trans' k3⟩
  refine vm_run_jump.ok (letA fun w1 h1 x1 s1 => ⟨_, IAt.c0 h1, ifP_beq.2 ⟨fun h5 => ?_, fun h5 => ?_⟩⟩)
  · refine ⟨fun u => RAt u b ws P pn pc 0 ((at_ + 1 : Nat) : Int) v e ∧ IAt u w.heap.size i, ⟨(h.ext x1).ext (Go.Rd.Ext.drew w1), IAt.ext h1 (Go.Rd.Ext.drew w1)⟩, letD fun w2 _ x2 => ⟨_, rfl, _, fun u hu => c20 hu.1, _, fun u hu => hu.2.c3, _, rfl, put (x1.trans x2) k0 k1 rfl (by rw [goalX, if_pos h5])⟩⟩
  · refine ⟨fun u => RAt u b ws P pn pc 0 ((at_ + 1 : Nat) : Int) v e ∧ IAt u w.heap.size i, ⟨(h.ext x1).ext (Go.Rd.Ext.drew w1), IAt.ext h1 (Go.Rd.Ext.drew w1)⟩, letD fun w2 _ x2 => ⟨_, rfl, IAt.rdS (fun u hu => hu.2) ((asks_spec (i := i) ((h.ext x1).ext x2)).mono ?_)⟩⟩
    rintro u w3 ⟨rfl, x3⟩
    have x03 := (x1.trans x2).trans x3
    have x13 := x2.trans x3
    refine ⟨_, rfl, ifP_of (fun ht => ⟨fun u => RAt u b ws P pn pc 0 ((at_ + 1 : Nat) : Int) v e ∧ IAt u w.heap.size i, ⟨(h.ext x03).ext (Go.Rd.Ext.drew w3), IAt.ext (IAt.ext h1 x13) (Go.Rd.Ext.drew w3)⟩, letD fun w4 _ x4 => ⟨_, rfl, _, fun u hu => c20 hu.1, _, fun u hu => hu.2.c1, _, rfl, put (x03.trans x4) t0 (by omega) rfl (by rw [goalX, if_neg h5, if_pos ht])⟩⟩)
      fun hf => ⟨fun u => RAt u b ws P pn pc 0 ((at_ + 1 : Nat) : Int) v e ∧ IAt u w.heap.size i, ⟨(h.ext x03).ext (Go.Rd.Ext.drew w3), IAt.ext (IAt.ext h1 x13) (Go.Rd.Ext.drew w3)⟩, letD fun w4 _ x4 => ⟨_, rfl, _, fun u hu => c20 hu.1, _, fun u hu => hu.2.c2, _, rfl, put (x03.trans x4) f0 (by omega) rfl (by rw [goalX, if_neg h5, if_neg (by rw [hf]; decide)])⟩⟩⟩
end

/-! ## The table -/

abbrev fnV (g : FuncId) : Value := .func (.func g) #[] #[]
def tab0 : Array Value := #[.func (.func 63) #[] #[], .func (.func 72) #[] #[], .func (.func 76) #[] #[], .func (.func 77) #[] #[], .nilFunc, .nilFunc, .nilFunc, .func (.func 79) #[] #[], .nilFunc, .nilFunc, .nilFunc, .nilFunc, .nilFunc, .nilFunc, .nilFunc, .nilFunc, .nilFunc, .nilFunc, .nilFunc, .nilFunc, .nilFunc, .nilFunc, .nilFunc, .nilFunc, .nilFunc, .nilFunc, .nilFunc, .nilFunc, .nilFunc, .nilFunc, .nilFunc, .nilFunc, .func (.func 64) #[] #[], .nilFunc, .nilFunc, .nilFunc, .nilFunc, .nilFunc, .nilFunc, .nilFunc, .func (.func 65) #[] #[], .nilFunc, .nilFunc, .nilFunc, .nilFunc, .nilFunc, .nilFunc, .nilFunc, .func (.func 66) #[] #[], .nilFunc, .nilFunc, .nilFunc, .nilFunc, .nilFunc, .nilFunc, .nilFunc, .nilFunc, .nilFunc, .nilFunc, .nilFunc, .nilFunc, .nilFunc, .nilFunc, .nilFunc, .func (.func 67) #[] #[], .nilFunc, .nilFunc, .nilFunc, .nilFunc, .nilFunc, .nilFunc, .nilFunc, .func (.func 68) #[] #[], .nilFunc, .nilFunc, .nilFunc, .nilFunc, .nilFunc, .nilFunc, .nilFunc, .func (.func 69) #[] #[], .nilFunc, .nilFunc, .nilFunc, .nilFunc, .nilFunc, .nilFunc, .nilFunc, .nilFunc, .nilFunc, .nilFunc, .nilFunc, .nilFunc, .nilFunc, .nilFunc, .nilFunc, .func (.func 70) #[] #[], .func (.func 73) #[] #[], .nilFunc, .nilFunc, .nilFunc, .nilFunc, .nilFunc, .nilFunc, .nilFunc, .nilFunc, .nilFunc, .nilFunc, .nilFunc, .nilFunc, .nilFunc, .nilFunc, .nilFunc, .nilFunc, .nilFunc, .nilFunc, .nilFunc, .nilFunc, .nilFunc, .nilFunc, .nilFunc, .nilFunc, .nilFunc, .nilFunc, .nilFunc, .nilFunc, .nilFunc, .nilFunc, .func (.func 71) #[] #[], .func (.func 74) #[] #[], .nilFunc, .nilFunc, .func (.func 78) #[] #[], .nilFunc, .nilFunc, .func (.func 80) #[] #[], .nilFunc, .nilFunc, .nilFunc, .nilFunc, .nilFunc, .nilFunc, .nilFunc, .nilFunc, .nilFunc, .nilFunc, .nilFunc, .nilFunc, .nilFunc, .nilFunc, .nilFunc, .nilFunc, .nilFunc, .nilFunc, .nilFunc, .nilFunc, .nilFunc, .nilFunc, .nilFunc, .nilFunc, .nilFunc, .nilFunc, .nilFunc, .nilFunc, .nilFunc, .nilFunc, .nilFunc, .nilFunc, .nilFunc, .nilFunc, .nilFunc, .nilFunc, .nilFunc, .nilFunc, .nilFunc, .nilFunc, .nilFunc, .func (.func 75) #[] #[], .nilFunc, .nilFunc, .nilFunc, .nilFunc, .nilFunc, .nilFunc, .nilFunc, .nilFunc, .nilFunc, .nilFunc, .nilFunc, .nilFunc, .nilFunc, .nilFunc, .nilFunc, .nilFunc, .nilFunc, .nilFunc, .nilFunc, .nilFunc, .nilFunc, .nilFunc, .nilFunc, .nilFunc, .nilFunc, .nilFunc, .nilFunc, .nilFunc, .nilFunc, .nilFunc, .nilFunc, .nilFunc, .nilFunc, .nilFunc, .nilFunc, .nilFunc, .nilFunc, .nilFunc, .nilFunc, .nilFunc, .nilFunc, .nilFunc, .nilFunc, .nilFunc, .nilFunc, .nilFunc, .nilFunc, .nilFunc, .nilFunc, .nilFunc, .nilFunc, .nilFunc, .nilFunc, .nilFunc, .nilFunc, .nilFunc, .nilFunc, .nilFunc, .nilFunc, .nilFunc, .nilFunc, .nilFunc, .nilFunc, .nilFunc, .nilFunc, .nilFunc, .nilFunc, .nilFunc, .nilFunc, .nilFunc, .nilFunc, .nilFunc, .nilFunc, .nilFunc, .nilFunc, .nilFunc, .nilFunc, .nilFunc]
def opsL : List Int := [4, 20, 36, 52, 68, 84, 100, 116, 148, 164]
def tabStep (t : Array Value) (c : Int) : Array Value := (t.setIfInBounds c.toNat (fnV 81)).setIfInBounds (orI .u16 c 8).toNat (fnV 81)
def tabN (n : Nat) : Array Value := (opsL.take n).foldl tabStep tab0
theorem tabN_succ {n : Nat} {c : Int} (h : opsL[n]? = some c) : tabN (n + 1) = tabStep (tabN n) c := by
  rw [tabN, List.take_add_one, h, List.foldl_append]
  rfl
theorem tabStep_size {t : Array Value} {c : Int} : (tabStep t c).size = t.size := by simp [tabStep]
theorem tabN_size : ∀ n, (tabN n).size = 256 := by
  intro n
  have : ∀ (l : List Int) (t : Array Value), (l.foldl tabStep t).size = t.size := by
    intro l
    induction l with
    | nil => intro t; rfl
    | cons c l ih => intro t; rw [List.foldl_cons, ih, tabStep_size]
  rw [tabN, this]
  rfl
theorem table_loop {W : World} {D C : Nat} (hD : W.heap.size ≤ D) (hDC : D ≠ C) {ty tc : TypeId} {R : Value → World → Prop} (hR : ∀ w, w.heap[D]? = some (.cells (tabN 10) ty (0, 0)) → Go.Rd.Ext W w → R (.pointer (some ⟨D, 0, none⟩)) w) : ∀ (d i : Nat), 10 - i = d → i ≤ 10 → ∀ w, Go.Rd.Ext W w → w.heap[D]? = some (.cells (tabN i) ty (0, 0)) → w.heap[C]? = some (.cells (opsL.map (Value.int .u16)).toArray tc (0, 0)) →
    machine_Table.L0 R ⟨D, 0, none⟩ (some ⟨C, 0, none⟩) 10 10 ((10 : Nat) : Int) i w := by
  intro d
  induction d with
  | zero =>
    intro i hd hi w x h hc
    obtain rfl : i = 10 := by omega
    exact machine_Table.L0_step (ifP_no (by omega) (hR w h x))
  | succ d ih =>
    intro i hd hi w x h hc
    have hci : opsL[i]? = some (opsL[i]'(by show i < 10; omega)) := List.getElem?_eq_getElem _
    have hmem : opsL[i]'(by show i < 10; omega) ∈ opsL := List.getElem_mem _
    generalize opsL[i]'(by show i < 10; omega) = c at hci hmem
    have hr : (0 ≤ c ∧ c < 256) ∧ (0 ≤ orI .u16 c 8 ∧ orI .u16 c 8 < 256) := by
      simp only [opsL, List.mem_cons, List.not_mem_nil, or_false] at hmem
      rcases hmem with rfl | rfl | rfl | rfl | rfl | rfl | rfl | rfl | rfl | rfl <;> decide
    obtain ⟨⟨c0, c1⟩, c2, c3⟩ := hr
    refine machine_Table.L0_step (ifP_yes (by omega) ⟨by omega, by omega, _, rfl, c, ?_, letD fun w2 _ x2 => ⟨_, rfl, c0, c1, _, rfl, cell_put (x2.heap h) (i := c.toNat) (by rw [tabN_size]; omega) (by rw [add_mk, Nat.zero_add, Nat.mul_one]) fun w3 h3 k3 => ⟨c2, c3, cell_put h3 (i := (orI .u16 c 8).toNat) (by rw [Array.size_setIfInBounds, tabN_size]; omega) (by rw [add_mk, Nat.zero_add, Nat.mul_one]) fun w4 h4 k4 => ?_⟩⟩⟩)
    · rw [Int.toNat_natCast, Nat.mul_one, add_mk, Nat.zero_add]
      exact (cell_of hc).trans (by rw [List.getElem?_toArray, List.getElem?_map, hci]; rfl)
    · have hw : IntKind.i64.wrap ((i : Int) + 1) = ((i + 1 : Nat) : Int) := wrap_i64 (by omega) (by omega)
      unfold machine_Table.J0
      rw [hw]
      refine ih (i + 1) (by omega) (by omega) w4 (((x.trans x2).fresh k3 fun j hj => by rw [hj]; exact hD).fresh k4 fun j hj => by rw [hj]; exact hD) ?_ (k4.heap (k3.heap (x2.heap hc) fun hj => hDC hj.symm) fun hj => hDC hj.symm)
      rw [tabN_succ hci]
      exact h4
theorem table_spec {w : World} : Run Try.prog 50 #[] w fun u w' => ∃ D ty, u = .pointer (some ⟨D, 0, none⟩) ∧ w.heap.size ≤ D ∧ w'.heap[D]? = some (.cells (tabN 10) ty (0, 0)) ∧ Go.Rd.Ext w w' := by
  refine machine_Table.ok (letA fun w1 h1 x1 s1 => letA fun w2 h2 x2 s2 => ?_)
  have h2 : w2.heap[w1.heap.size]? = some (.cells (opsL.map (Value.int .u16)).toArray _ (0, 0)) := h2
  exact table_loop (W := w) (D := w.heap.size) (C := w1.heap.size) (Nat.le_refl _) (by omega) (fun w' h x => ⟨_, _, rfl, Nat.le_refl _, h, x⟩) 10 0 rfl (by omega) w2 (x1.trans x2) (x2.heap h1) h2
end Go.Proofs.Ytllooifbiapeoaa
