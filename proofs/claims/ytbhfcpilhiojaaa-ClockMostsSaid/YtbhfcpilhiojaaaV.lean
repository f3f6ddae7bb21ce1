/- Printed by a program of this repo (wip/tools/gen.py) out of Lean's own print of the functions: each function's weakest precondition, and the equation that it is one. -/
import Derived.Test.YtbhfcpilhiojaaaProg
import Derived.Test.YtbhfcpilhiojaaaS3
import Derived.KernelRfl
namespace Go.Proofs.Ytbhfcpilhiojaaa
open Go.Rd
set_option linter.unusedVariables false
set_option maxRecDepth 100000
section
theorem Try.mixed : Try.prog.follows .mixedOrders = true := by kernel_rfl

/-! ### riddle/clock.New: function 7 -/
noncomputable def clock_New.body : Code := bodyOf Try.f7
def clock_New.live : Nat → List Nat
  | _ => []
@[reducible] def clock_New.vc (R : Value → World → Prop) (idleLimit : Int) (most : Int) (w : World) : Prop :=
  letW (w.alloc (.cells #[(.int .u32 0), (.int .u32 idleLimit), (.int .u32 0), (.int .u32 most), (.bool false)] 44)) fun w_2 => R (.pointer (some (newA w))) w_2

theorem clock_New.eq (R : Value → World → Prop) (idleLimit : Int) (most : Int) (w : World) : fnVC Try.prog clock_New.live Try.f7 R [(.int .u32 idleLimit), (.int .u32 most)] w = clock_New.vc R idleLimit most w := by kernel_rfl
theorem clock_New.ok {R : Value → World → Prop} {idleLimit : Int} {most : Int} {w : World} (h : clock_New.vc R idleLimit most w) : Run Try.prog 7 #[(.int .u32 idleLimit), (.int .u32 most)] w R :=
  fn_sound (args := [(.int .u32 idleLimit), (.int .u32 most)]) Try.mixed Try.func7 (by kernel_rfl) (Eq.mpr (clock_New.eq R idleLimit most w) h)

/-! ### (*riddle/clock.count).clear: function 22 -/
noncomputable def clock_count_clear.body : Code := bodyOf Try.f22
def clock_count_clear.live : Nat → List Nat
  | _ => []
@[reducible] def clock_count_clear.vc (R : Value → World → Prop) (c : Option Addr) (w : World) : Prop :=
  ∃ t3p : Addr, c = some t3p ∧ (∃ u : Value, w.cell? t3p = some u) ∧ w.frozen? t3p = false ∧ letW (w.setCell t3p (.int .u32 0)) fun w_2 => R (.tuple #[]) w_2

theorem clock_count_clear.eq (R : Value → World → Prop) (c : Option Addr) (w : World) : fnVC Try.prog clock_count_clear.live Try.f22 R [(.pointer c)] w = clock_count_clear.vc R c w := by kernel_rfl
theorem clock_count_clear.ok {R : Value → World → Prop} {c : Option Addr} {w : World} (h : clock_count_clear.vc R c w) : Run Try.prog 22 #[(.pointer c)] w R :=
  fn_sound (args := [(.pointer c)]) Try.mixed Try.func22 (by kernel_rfl) (Eq.mpr (clock_count_clear.eq R c w) h)

/-! ### (*riddle/clock.Clock).both: function 19 -/
noncomputable def clock_Clock_both.body : Code := bodyOf Try.f19
def clock_Clock_both.live : Nat → List Nat
  | _ => []
@[reducible] def clock_Clock_both.vc (R : Value → World → Prop) (c : Option Addr) (w : World) : Prop :=
  ∃ t3p : Addr, c = some t3p ∧ Run Try.prog 22 #[(.pointer (some t3p))] w fun v w_2 => v = (.tuple #[]) ∧ ∃ t8p : Addr, c = some t8p ∧ Run Try.prog 22 #[(.pointer (some (t8p.add 2)))] w_2 fun v_2 w_3 => v_2 = (.tuple #[]) ∧ R (.tuple #[]) w_3

theorem clock_Clock_both.eq (R : Value → World → Prop) (c : Option Addr) (w : World) : fnVC Try.prog clock_Clock_both.live Try.f19 R [(.pointer c)] w = clock_Clock_both.vc R c w := by kernel_rfl
theorem clock_Clock_both.ok {R : Value → World → Prop} {c : Option Addr} {w : World} (h : clock_Clock_both.vc R c w) : Run Try.prog 19 #[(.pointer c)] w R :=
  fn_sound (args := [(.pointer c)]) Try.mixed Try.func19 (by kernel_rfl) (Eq.mpr (clock_Clock_both.eq R c w) h)

/-! ### (*riddle/clock.Clock).Start: function 10 -/
noncomputable def clock_Clock_Start.body : Code := bodyOf Try.f10
def clock_Clock_Start.live : Nat → List Nat
  | _ => []
@[reducible] def clock_Clock_Start.vc (R : Value → World → Prop) (c : Option Addr) (w : World) : Prop :=
  Run Try.prog 19 #[(.pointer c)] w fun v w_2 => v = (.tuple #[]) ∧ ∃ t5p : Addr, c = some t5p ∧ (∃ u : Value, w_2.cell? (t5p.add 4) = some u) ∧ w_2.frozen? (t5p.add 4) = false ∧ letW (w_2.setCell (t5p.add 4) (.bool true)) fun w_3 => R (.tuple #[]) w_3

theorem clock_Clock_Start.eq (R : Value → World → Prop) (c : Option Addr) (w : World) : fnVC Try.prog clock_Clock_Start.live Try.f10 R [(.pointer c)] w = clock_Clock_Start.vc R c w := by kernel_rfl
theorem clock_Clock_Start.ok {R : Value → World → Prop} {c : Option Addr} {w : World} (h : clock_Clock_Start.vc R c w) : Run Try.prog 10 #[(.pointer c)] w R :=
  fn_sound (args := [(.pointer c)]) Try.mixed Try.func10 (by kernel_rfl) (Eq.mpr (clock_Clock_Start.eq R c w) h)

/-! ### (*riddle/clock.Clock).Stop: function 14 -/
noncomputable def clock_Clock_Stop.body : Code := bodyOf Try.f14
def clock_Clock_Stop.live : Nat → List Nat
  | _ => []
@[reducible] def clock_Clock_Stop.vc (R : Value → World → Prop) (c : Option Addr) (w : World) : Prop :=
  Run Try.prog 19 #[(.pointer c)] w fun v w_2 => v = (.tuple #[]) ∧ ∃ t5p : Addr, c = some t5p ∧ (∃ u : Value, w_2.cell? (t5p.add 4) = some u) ∧ w_2.frozen? (t5p.add 4) = false ∧ letW (w_2.setCell (t5p.add 4) (.bool false)) fun w_3 => R (.tuple #[]) w_3

theorem clock_Clock_Stop.eq (R : Value → World → Prop) (c : Option Addr) (w : World) : fnVC Try.prog clock_Clock_Stop.live Try.f14 R [(.pointer c)] w = clock_Clock_Stop.vc R c w := by kernel_rfl
theorem clock_Clock_Stop.ok {R : Value → World → Prop} {c : Option Addr} {w : World} (h : clock_Clock_Stop.vc R c w) : Run Try.prog 14 #[(.pointer c)] w R :=
  fn_sound (args := [(.pointer c)]) Try.mixed Try.func14 (by kernel_rfl) (Eq.mpr (clock_Clock_Stop.eq R c w) h)

/-! ### riddle/word.upTo: function 25 -/
noncomputable def word_upTo.body : Code := bodyOf Try.f25
def word_upTo.live : Nat → List Nat
  | 0 => [0, 5, 8, 9, 10]
  | _ => []
noncomputable def word_upTo.c0 : Code := sub word_upTo.body [1, 1, 0, 1, 0, 0]
def word_upTo.K0 (R : Value → World → Prop) : Ex → St → World → Prop := (blockK 0 (thenK (fun st w => code Try.prog word_upTo.live 0 (sub word_upTo.body [1, 1, 1]) (retK Try.prog Try.f25 R) st w) (retK Try.prog Try.f25 R)))
def word_upTo.L0 (R : Value → World → Prop) (most : Int) (s : Int) (t8A : Option Addr) (t8n : Nat) (t8c : Nat) (t9 : Int) (t10 : Int) (w : World) : Prop :=
  loopVC (fun K => code Try.prog word_upTo.live 0 word_upTo.c0 K) (word_upTo.live 0) (word_upTo.K0 R) [(.int .u64 most), undef, undef, undef, undef, (.int .u64 s), undef, undef, (.slice t8A t8n t8c), (.int .i64 t9), (.int .i64 t10), undef, undef, undef, undef, undef, undef, undef, undef, undef, undef, undef, undef] w
@[reducible] def word_upTo.B0 (R : Value → World → Prop) (most : Int) (s : Int) (t8A : Option Addr) (t8n : Nat) (t8c : Nat) (t9 : Int) (t10 : Int) (w : World) : Prop :=
  ifP (decide ((t10 : Int) < t9))
    (0 ≤ (t10 : Int) ∧ (t10 : Int) < ((t8n : Nat) : Int) ∧ ∃ t12p : Addr, t8A = some t12p ∧ ∃ t13 : Int, w.cell? (t12p.add (Int.toNat t10 * 1)) = some (.int .u32 t13) ∧ word_upTo.L0 R most (minI (IntKind.u64.wrap (s + (IntKind.u64.wrap t13))) most) t8A t8n t8c t9 (IntKind.i64.wrap (t10 + 1)) w)
    (R (.int .u32 (IntKind.u32.wrap s)) w)

@[reducible] def word_upTo.vc (R : Value → World → Prop) (most : Int) (xsA : Option Addr) (xsn : Nat) (xsc : Nat) (w : World) : Prop :=
  word_upTo.L0 R most 0 xsA xsn xsc ((xsn : Nat) : Int) 0 w

theorem word_upTo.B0_eq (R : Value → World → Prop) (most : Int) (s : Int) (t8A : Option Addr) (t8n : Nat) (t8c : Nat) (t9 : Int) (t10 : Int) (w : World) (ts : Nat → Value) :
    code Try.prog word_upTo.live 0 word_upTo.c0 (thenK (fun st w => loopVC (fun K => code Try.prog word_upTo.live 0 word_upTo.c0 K) (word_upTo.live 0) (word_upTo.K0 R) (clearFrom (word_upTo.live 0) 0 st) w) (word_upTo.K0 R)) (mergeFrom (word_upTo.live 0) ts 0 (clearFrom (word_upTo.live 0) 0 [(.int .u64 most), undef, undef, undef, undef, (.int .u64 s), undef, undef, (.slice t8A t8n t8c), (.int .i64 t9), (.int .i64 t10), undef, undef, undef, undef, undef, undef, undef, undef, undef, undef, undef, undef])) w = word_upTo.B0 R most s t8A t8n t8c t9 t10 w := by kernel_rfl
theorem word_upTo.L0_step {R : Value → World → Prop} {most : Int} {s : Int} {t8A : Option Addr} {t8n : Nat} {t8c : Nat} {t9 : Int} {t10 : Int} {w : World} (h : word_upTo.B0 R most s t8A t8n t8c t9 t10 w) : word_upTo.L0 R most s t8A t8n t8c t9 t10 w :=
  loop_step (live := word_upTo.live) (b := 0) (x := word_upTo.c0) fun ts => Eq.mpr (word_upTo.B0_eq R most s t8A t8n t8c t9 t10 w ts) h
theorem word_upTo.eq (R : Value → World → Prop) (most : Int) (xsA : Option Addr) (xsn : Nat) (xsc : Nat) (w : World) : fnVC Try.prog word_upTo.live Try.f25 R [(.int .u64 most), (.slice xsA xsn xsc)] w = word_upTo.vc R most xsA xsn xsc w := by kernel_rfl
theorem word_upTo.ok {R : Value → World → Prop} {most : Int} {xsA : Option Addr} {xsn : Nat} {xsc : Nat} {w : World} (h : word_upTo.vc R most xsA xsn xsc w) : Run Try.prog 25 #[(.int .u64 most), (.slice xsA xsn xsc)] w R :=
  fn_sound (args := [(.int .u64 most), (.slice xsA xsn xsc)]) Try.mixed Try.func25 (by kernel_rfl) (Eq.mpr (word_upTo.eq R most xsA xsn xsc w) h)

/-! ### riddle/word.Sum: function 24 -/
noncomputable def word_Sum.body : Code := bodyOf Try.f24
def word_Sum.live : Nat → List Nat
  | _ => []
@[reducible] def word_Sum.vc (R : Value → World → Prop) (xsA : Option Addr) (xsn : Nat) (xsc : Nat) (w : World) : Prop :=
  Run Try.prog 25 #[(.int .u64 4294967295), (.slice xsA xsn xsc)] w fun v w_2 => ∃ t4 : Int, v = (.int .u32 t4) ∧ R (.int .u32 t4) w_2

theorem word_Sum.eq (R : Value → World → Prop) (xsA : Option Addr) (xsn : Nat) (xsc : Nat) (w : World) : fnVC Try.prog word_Sum.live Try.f24 R [(.slice xsA xsn xsc)] w = word_Sum.vc R xsA xsn xsc w := by kernel_rfl
theorem word_Sum.ok {R : Value → World → Prop} {xsA : Option Addr} {xsn : Nat} {xsc : Nat} {w : World} (h : word_Sum.vc R xsA xsn xsc w) : Run Try.prog 24 #[(.slice xsA xsn xsc)] w R :=
  fn_sound (args := [(.slice xsA xsn xsc)]) Try.mixed Try.func24 (by kernel_rfl) (Eq.mpr (word_Sum.eq R xsA xsn xsc w) h)

/-! ### (*riddle/clock.count).grow: function 20 -/
noncomputable def clock_count_grow.body : Code := bodyOf Try.f20
def clock_count_grow.live : Nat → List Nat
  | _ => []
@[reducible] def clock_count_grow.vc (R : Value → World → Prop) (c : Option Addr) (w : World) : Prop :=
  ∃ t4p : Addr, c = some t4p ∧ ∃ t6 : Int, w.cell? t4p = some (.int .u32 t6) ∧ letW (w.alloc (.cells #[(.int .u32 t6), (.int .u32 1)] 22)) fun w_2 => Run Try.prog 24 #[(.slice (some (newA w)) 2 2)] w_2 fun v w_3 => ∃ t8 : Int, v = (.int .u32 t8) ∧ ∃ t9p : Addr, c = some t9p ∧ (∃ u : Value, w_3.cell? t9p = some u) ∧ w_3.frozen? t9p = false ∧ letW (w_3.setCell t9p (.int .u32 t8)) fun w_4 => R (.tuple #[]) w_4

theorem clock_count_grow.eq (R : Value → World → Prop) (c : Option Addr) (w : World) : fnVC Try.prog clock_count_grow.live Try.f20 R [(.pointer c)] w = clock_count_grow.vc R c w := by kernel_rfl
theorem clock_count_grow.ok {R : Value → World → Prop} {c : Option Addr} {w : World} (h : clock_count_grow.vc R c w) : Run Try.prog 20 #[(.pointer c)] w R :=
  fn_sound (args := [(.pointer c)]) Try.mixed Try.func20 (by kernel_rfl) (Eq.mpr (clock_count_grow.eq R c w) h)

/-! ### (*riddle/clock.count).over: function 21 -/
noncomputable def clock_count_over.body : Code := bodyOf Try.f21
def clock_count_over.live : Nat → List Nat
  | _ => []
def clock_count_over.J0 (R : Value → World → Prop) (t2 : Bool) (w : World) : Prop :=
  R (.bool t2) w

@[reducible] def clock_count_over.vc (R : Value → World → Prop) (c : Option Addr) (w : World) : Prop :=
  letW w.drew fun w_2 => ∃ t4p : Addr, c = some t4p ∧ ∃ t6 : Int, w_2.cell? (t4p.add 1) = some (.int .u32 t6) ∧ ifP ((t6 : Int) != 0) (∃ t10p : Addr, c = some t10p ∧ ∃ t12 : Int, w_2.cell? t10p = some (.int .u32 t12) ∧ ∃ t14p : Addr, c = some t14p ∧ ∃ t16 : Int, w_2.cell? (t14p.add 1) = some (.int .u32 t16) ∧ clock_count_over.J0 R (decide ((t12 : Int) ≥ t16)) w_2) (clock_count_over.J0 R false w_2)

theorem clock_count_over.eq (R : Value → World → Prop) (c : Option Addr) (w : World) : fnVC Try.prog clock_count_over.live Try.f21 R [(.pointer c)] w = clock_count_over.vc R c w := by kernel_rfl
theorem clock_count_over.ok {R : Value → World → Prop} {c : Option Addr} {w : World} (h : clock_count_over.vc R c w) : Run Try.prog 21 #[(.pointer c)] w R :=
  fn_sound (args := [(.pointer c)]) Try.mixed Try.func21 (by kernel_rfl) (Eq.mpr (clock_count_over.eq R c w) h)

/-! ### (*riddle/clock.Clock).Tick: function 11 -/
noncomputable def clock_Clock_Tick.body : Code := bodyOf Try.f11
def clock_Clock_Tick.live : Nat → List Nat
  | _ => []
def clock_Clock_Tick.J1 (R : Value → World → Prop) (why : Int) (w : World) : Prop :=
  R (.int .i64 why) w

def clock_Clock_Tick.J0 (R : Value → World → Prop) (c : Option Addr) (why : Int) (w : World) : Prop :=
  ifP ((why : Int) != 0)
    (Run Try.prog 14 #[(.pointer c)] w fun v w_2 => v = (.tuple #[]) ∧ clock_Clock_Tick.J1 R why w_2)
    (clock_Clock_Tick.J1 R why w)

@[reducible] def clock_Clock_Tick.vc (R : Value → World → Prop) (c : Option Addr) (w : World) : Prop :=
  ∃ t5p : Addr, c = some t5p ∧ ∃ t7 : Bool, w.cell? (t5p.add 4) = some (.bool t7) ∧ ifP (!t7)
    (R (.int .i64 0) w)
    (∃ t10p : Addr, c = some t10p ∧ Run Try.prog 20 #[(.pointer (some t10p))] w fun v w_2 => v = (.tuple #[]) ∧ ∃ t15p : Addr, c = some t15p ∧ Run Try.prog 20 #[(.pointer (some (t15p.add 2)))] w_2 fun v_2 w_3 => v_2 = (.tuple #[]) ∧ ∃ t21p : Addr, c = some t21p ∧ Run Try.prog 21 #[(.pointer (some t21p))] w_3 fun v_3 w_4 => ∃ t24 : Bool, v_3 = (.bool t24) ∧ ifP t24
    (clock_Clock_Tick.J0 R c 1 w_4)
    (∃ t27p : Addr, c = some t27p ∧ Run Try.prog 21 #[(.pointer (some (t27p.add 2)))] w_4 fun v_4 w_5 => ∃ t30 : Bool, v_4 = (.bool t30) ∧ ifP t30
    (clock_Clock_Tick.J0 R c 2 w_5)
    (clock_Clock_Tick.J0 R c 0 w_5)))

theorem clock_Clock_Tick.eq (R : Value → World → Prop) (c : Option Addr) (w : World) : fnVC Try.prog clock_Clock_Tick.live Try.f11 R [(.pointer c)] w = clock_Clock_Tick.vc R c w := by kernel_rfl
theorem clock_Clock_Tick.ok {R : Value → World → Prop} {c : Option Addr} {w : World} (h : clock_Clock_Tick.vc R c w) : Run Try.prog 11 #[(.pointer c)] w R :=
  fn_sound (args := [(.pointer c)]) Try.mixed Try.func11 (by kernel_rfl) (Eq.mpr (clock_Clock_Tick.eq R c w) h)

/-! ### (*riddle/clock.Clock).Touch: function 12 -/
noncomputable def clock_Clock_Touch.body : Code := bodyOf Try.f12
def clock_Clock_Touch.live : Nat → List Nat
  | _ => []
@[reducible] def clock_Clock_Touch.vc (R : Value → World → Prop) (c : Option Addr) (w : World) : Prop :=
  ∃ t3p : Addr, c = some t3p ∧ Run Try.prog 22 #[(.pointer (some t3p))] w fun v w_2 => v = (.tuple #[]) ∧ R (.tuple #[]) w_2

theorem clock_Clock_Touch.eq (R : Value → World → Prop) (c : Option Addr) (w : World) : fnVC Try.prog clock_Clock_Touch.live Try.f12 R [(.pointer c)] w = clock_Clock_Touch.vc R c w := by kernel_rfl
theorem clock_Clock_Touch.ok {R : Value → World → Prop} {c : Option Addr} {w : World} (h : clock_Clock_Touch.vc R c w) : Run Try.prog 12 #[(.pointer c)] w R :=
  fn_sound (args := [(.pointer c)]) Try.mixed Try.func12 (by kernel_rfl) (Eq.mpr (clock_Clock_Touch.eq R c w) h)

/-! ### (*riddle/clock.Clock).Now: function 13 -/
noncomputable def clock_Clock_Now.body : Code := bodyOf Try.f13
def clock_Clock_Now.live : Nat → List Nat
  | _ => []
@[reducible] def clock_Clock_Now.vc (R : Value → World → Prop) (c : Option Addr) (w : World) : Prop :=
  letW w.drew fun w_2 => ∃ t6p : Addr, c = some t6p ∧ ∃ t8 : Bool, w_2.cell? (t6p.add 4) = some (.bool t8) ∧ ∃ t10p : Addr, c = some t10p ∧ ∃ t14 : Int, w_2.cell? t10p = some (.int .u32 t14) ∧ ∃ t16p : Addr, c = some t16p ∧ ∃ t20 : Int, w_2.cell? (t16p.add 2) = some (.int .u32 t20) ∧ R (.tuple #[(.bool t8), (.int .u32 t14), (.int .u32 t20)]) w_2

theorem clock_Clock_Now.eq (R : Value → World → Prop) (c : Option Addr) (w : World) : fnVC Try.prog clock_Clock_Now.live Try.f13 R [(.pointer c)] w = clock_Clock_Now.vc R c w := by kernel_rfl
theorem clock_Clock_Now.ok {R : Value → World → Prop} {c : Option Addr} {w : World} (h : clock_Clock_Now.vc R c w) : Run Try.prog 13 #[(.pointer c)] w R :=
  fn_sound (args := [(.pointer c)]) Try.mixed Try.func13 (by kernel_rfl) (Eq.mpr (clock_Clock_Now.eq R c w) h)

/-! ### (*riddle/riddleref22.Clock).Start: function 15 -/
noncomputable def ref22_Clock_Start.body : Code := bodyOf Try.f15
def ref22_Clock_Start.live : Nat → List Nat
  | _ => []
@[reducible] def ref22_Clock_Start.vc (R : Value → World → Prop) (c : Option Addr) (w : World) : Prop :=
  ∃ t3p : Addr, c = some t3p ∧ (∃ u : Value, w.cell? (t3p.add 2) = some u) ∧ w.frozen? (t3p.add 2) = false ∧ letW (w.setCell (t3p.add 2) (.bool true)) fun w_2 => ∃ t6p : Addr, c = some t6p ∧ (∃ u : Value, w_2.cell? (t6p.add 3) = some u) ∧ w_2.frozen? (t6p.add 3) = false ∧ letW (w_2.setCell (t6p.add 3) (.int .u32 0)) fun w_3 => ∃ t9p : Addr, c = some t9p ∧ (∃ u : Value, w_3.cell? (t9p.add 4) = some u) ∧ w_3.frozen? (t9p.add 4) = false ∧ letW (w_3.setCell (t9p.add 4) (.int .u32 0)) fun w_4 => R (.tuple #[]) w_4

theorem ref22_Clock_Start.eq (R : Value → World → Prop) (c : Option Addr) (w : World) : fnVC Try.prog ref22_Clock_Start.live Try.f15 R [(.pointer c)] w = ref22_Clock_Start.vc R c w := by kernel_rfl
theorem ref22_Clock_Start.ok {R : Value → World → Prop} {c : Option Addr} {w : World} (h : ref22_Clock_Start.vc R c w) : Run Try.prog 15 #[(.pointer c)] w R :=
  fn_sound (args := [(.pointer c)]) Try.mixed Try.func15 (by kernel_rfl) (Eq.mpr (ref22_Clock_Start.eq R c w) h)

/-! ### (*riddle/riddleref22.Clock).Stop: function 16 -/
noncomputable def ref22_Clock_Stop.body : Code := bodyOf Try.f16
def ref22_Clock_Stop.live : Nat → List Nat
  | _ => []
@[reducible] def ref22_Clock_Stop.vc (R : Value → World → Prop) (c : Option Addr) (w : World) : Prop :=
  ∃ t3p : Addr, c = some t3p ∧ (∃ u : Value, w.cell? (t3p.add 2) = some u) ∧ w.frozen? (t3p.add 2) = false ∧ letW (w.setCell (t3p.add 2) (.bool false)) fun w_2 => ∃ t6p : Addr, c = some t6p ∧ (∃ u : Value, w_2.cell? (t6p.add 3) = some u) ∧ w_2.frozen? (t6p.add 3) = false ∧ letW (w_2.setCell (t6p.add 3) (.int .u32 0)) fun w_3 => ∃ t9p : Addr, c = some t9p ∧ (∃ u : Value, w_3.cell? (t9p.add 4) = some u) ∧ w_3.frozen? (t9p.add 4) = false ∧ letW (w_3.setCell (t9p.add 4) (.int .u32 0)) fun w_4 => R (.tuple #[]) w_4

theorem ref22_Clock_Stop.eq (R : Value → World → Prop) (c : Option Addr) (w : World) : fnVC Try.prog ref22_Clock_Stop.live Try.f16 R [(.pointer c)] w = ref22_Clock_Stop.vc R c w := by kernel_rfl
theorem ref22_Clock_Stop.ok {R : Value → World → Prop} {c : Option Addr} {w : World} (h : ref22_Clock_Stop.vc R c w) : Run Try.prog 16 #[(.pointer c)] w R :=
  fn_sound (args := [(.pointer c)]) Try.mixed Try.func16 (by kernel_rfl) (Eq.mpr (ref22_Clock_Stop.eq R c w) h)

/-! ### (*riddle/riddleref22.Clock).Touch: function 17 -/
noncomputable def ref22_Clock_Touch.body : Code := bodyOf Try.f17
def ref22_Clock_Touch.live : Nat → List Nat
  | _ => []
@[reducible] def ref22_Clock_Touch.vc (R : Value → World → Prop) (c : Option Addr) (w : World) : Prop :=
  ∃ t3p : Addr, c = some t3p ∧ (∃ u : Value, w.cell? (t3p.add 3) = some u) ∧ w.frozen? (t3p.add 3) = false ∧ letW (w.setCell (t3p.add 3) (.int .u32 0)) fun w_2 => R (.tuple #[]) w_2

theorem ref22_Clock_Touch.eq (R : Value → World → Prop) (c : Option Addr) (w : World) : fnVC Try.prog ref22_Clock_Touch.live Try.f17 R [(.pointer c)] w = ref22_Clock_Touch.vc R c w := by kernel_rfl
theorem ref22_Clock_Touch.ok {R : Value → World → Prop} {c : Option Addr} {w : World} (h : ref22_Clock_Touch.vc R c w) : Run Try.prog 17 #[(.pointer c)] w R :=
  fn_sound (args := [(.pointer c)]) Try.mixed Try.func17 (by kernel_rfl) (Eq.mpr (ref22_Clock_Touch.eq R c w) h)

/-! ### riddle/riddleref1.Add: function 23 -/
noncomputable def ref1_Add.body : Code := bodyOf Try.f23
def ref1_Add.live : Nat → List Nat
  | _ => []
@[reducible] def ref1_Add.vc (R : Value → World → Prop) (a : Int) (b : Int) (w : World) : Prop :=
  ifP (decide ((b : Int) > (IntKind.u32.wrap (4294967295 - a))))
    (R (.int .u32 4294967295) w)
    (R (.int .u32 (IntKind.u32.wrap (a + b))) w)

theorem ref1_Add.eq (R : Value → World → Prop) (a : Int) (b : Int) (w : World) : fnVC Try.prog ref1_Add.live Try.f23 R [(.int .u32 a), (.int .u32 b)] w = ref1_Add.vc R a b w := by kernel_rfl
theorem ref1_Add.ok {R : Value → World → Prop} {a : Int} {b : Int} {w : World} (h : ref1_Add.vc R a b w) : Run Try.prog 23 #[(.int .u32 a), (.int .u32 b)] w R :=
  fn_sound (args := [(.int .u32 a), (.int .u32 b)]) Try.mixed Try.func23 (by kernel_rfl) (Eq.mpr (ref1_Add.eq R a b w) h)

/-! ### (*riddle/riddleref22.Clock).Tick: function 18 -/
noncomputable def ref22_Clock_Tick.body : Code := bodyOf Try.f18
def ref22_Clock_Tick.live : Nat → List Nat
  | _ => []
def ref22_Clock_Tick.J1 (R : Value → World → Prop) (c : Option Addr) (t43 : Bool) (w : World) : Prop :=
  ifP t43
    (Run Try.prog 16 #[(.pointer c)] w fun v w_2 => v = (.tuple #[]) ∧ R (.int .i64 2) w_2)
    (R (.int .i64 0) w)

def ref22_Clock_Tick.J0 (R : Value → World → Prop) (c : Option Addr) (t24 : Bool) (w : World) : Prop :=
  ifP t24
    (Run Try.prog 16 #[(.pointer c)] w fun v w_2 => v = (.tuple #[]) ∧ R (.int .i64 1) w_2)
    (letW w.drew fun w_3 => ∃ t45p : Addr, c = some t45p ∧ ∃ t47 : Int, w_3.cell? (t45p.add 1) = some (.int .u32 t47) ∧ ifP ((t47 : Int) != 0) (∃ t51p : Addr, c = some t51p ∧ ∃ t53 : Int, w_3.cell? (t51p.add 4) = some (.int .u32 t53) ∧ ∃ t55p : Addr, c = some t55p ∧ ∃ t57 : Int, w_3.cell? (t55p.add 1) = some (.int .u32 t57) ∧ ref22_Clock_Tick.J1 R c (decide ((t53 : Int) ≥ t57)) w_3) (ref22_Clock_Tick.J1 R c false w_3))

@[reducible] def ref22_Clock_Tick.vc (R : Value → World → Prop) (c : Option Addr) (w : World) : Prop :=
  ∃ t4p : Addr, c = some t4p ∧ ∃ t6 : Bool, w.cell? (t4p.add 2) = some (.bool t6) ∧ ifP (!t6)
    (R (.int .i64 0) w)
    (∃ t10p : Addr, c = some t10p ∧ ∃ t12 : Int, w.cell? (t10p.add 3) = some (.int .u32 t12) ∧ Run Try.prog 23 #[(.int .u32 t12), (.int .u32 1)] w fun v w_2 => ∃ t13 : Int, v = (.int .u32 t13) ∧ ∃ t14p : Addr, c = some t14p ∧ (∃ u : Value, w_2.cell? (t14p.add 3) = some u) ∧ w_2.frozen? (t14p.add 3) = false ∧ letW (w_2.setCell (t14p.add 3) (.int .u32 t13)) fun w_3 => ∃ t18p : Addr, c = some t18p ∧ ∃ t20 : Int, w_3.cell? (t18p.add 4) = some (.int .u32 t20) ∧ Run Try.prog 23 #[(.int .u32 t20), (.int .u32 1)] w_3 fun v_2 w_4 => ∃ t21 : Int, v_2 = (.int .u32 t21) ∧ ∃ t22p : Addr, c = some t22p ∧ (∃ u : Value, w_4.cell? (t22p.add 4) = some u) ∧ w_4.frozen? (t22p.add 4) = false ∧ letW (w_4.setCell (t22p.add 4) (.int .u32 t21)) fun w_5 => letW w_5.drew fun w_6 => ∃ t26p : Addr, c = some t26p ∧ ∃ t28 : Int, w_6.cell? t26p = some (.int .u32 t28) ∧ ifP ((t28 : Int) != 0) (∃ t32p : Addr, c = some t32p ∧ ∃ t34 : Int, w_6.cell? (t32p.add 3) = some (.int .u32 t34) ∧ ∃ t36p : Addr, c = some t36p ∧ ∃ t38 : Int, w_6.cell? t36p = some (.int .u32 t38) ∧ ref22_Clock_Tick.J0 R c (decide ((t34 : Int) ≥ t38)) w_6) (ref22_Clock_Tick.J0 R c false w_6))

theorem ref22_Clock_Tick.eq (R : Value → World → Prop) (c : Option Addr) (w : World) : fnVC Try.prog ref22_Clock_Tick.live Try.f18 R [(.pointer c)] w = ref22_Clock_Tick.vc R c w := by kernel_rfl
theorem ref22_Clock_Tick.ok {R : Value → World → Prop} {c : Option Addr} {w : World} (h : ref22_Clock_Tick.vc R c w) : Run Try.prog 18 #[(.pointer c)] w R :=
  fn_sound (args := [(.pointer c)]) Try.mixed Try.func18 (by kernel_rfl) (Eq.mpr (ref22_Clock_Tick.eq R c w) h)

/-! ### riddle/riddlelaw22.told: function 8 -/
noncomputable def law22_told.body : Code := bodyOf Try.f8
def law22_told.live : Nat → List Nat
  | _ => []
def law22_told.J1 (R : Value → World → Prop) (t6 : Bool) (w : World) : Prop :=
  R (.bool t6) w

def law22_told.J0 (R : Value → World → Prop) (c : Option Addr) (w : Option Addr) (x : Int) (y : Int) (w_2 : World) : Prop :=
  Run Try.prog 13 #[(.pointer c)] w_2 fun v w_3 => ∃ t370 : Bool, ∃ t371 : Int, ∃ t372 : Int, v = (.tuple #[(.bool t370), (.int .u32 t371), (.int .u32 t372)]) ∧ ifP ((x : Int) == y) (∃ t47p : Addr, w = some t47p ∧ ∃ t49 : Bool, w_3.cell? (t47p.add 2) = some (.bool t49) ∧ ifP (t370 == t49) (∃ t55p : Addr, w = some t55p ∧ ∃ t57 : Int, w_3.cell? (t55p.add 3) = some (.int .u32 t57) ∧ ifP ((t371 : Int) == t57) (∃ t63p : Addr, w = some t63p ∧ ∃ t65 : Int, w_3.cell? (t63p.add 4) = some (.int .u32 t65) ∧ law22_told.J1 R ((t372 : Int) == t65) w_3) (law22_told.J1 R false w_3)) (law22_told.J1 R false w_3)) (law22_told.J1 R false w_3)

@[reducible] def law22_told.vc (R : Value → World → Prop) (c : Option Addr) (w : Option Addr) (act : Int) (w_2 : World) : Prop :=
  ifP ((act : Int) == 0)
    (Run Try.prog 10 #[(.pointer c)] w_2 fun v w_3 => v = (.tuple #[]) ∧ Run Try.prog 15 #[(.pointer w)] w_3 fun v_2 w_4 => v_2 = (.tuple #[]) ∧ law22_told.J0 R c w 0 0 w_4)
    (ifP ((act : Int) == 1)
    (Run Try.prog 14 #[(.pointer c)] w_2 fun v_3 w_5 => v_3 = (.tuple #[]) ∧ Run Try.prog 16 #[(.pointer w)] w_5 fun v_4 w_6 => v_4 = (.tuple #[]) ∧ law22_told.J0 R c w 0 0 w_6)
    (ifP ((act : Int) == 2)
    (Run Try.prog 12 #[(.pointer c)] w_2 fun v_5 w_7 => v_5 = (.tuple #[]) ∧ Run Try.prog 17 #[(.pointer w)] w_7 fun v_6 w_8 => v_6 = (.tuple #[]) ∧ law22_told.J0 R c w 0 0 w_8)
    (Run Try.prog 11 #[(.pointer c)] w_2 fun v_7 w_9 => ∃ t14 : Int, v_7 = (.int .i64 t14) ∧ Run Try.prog 18 #[(.pointer w)] w_9 fun v_8 w_10 => ∃ t16 : Int, v_8 = (.int .i64 t16) ∧ law22_told.J0 R c w t14 t16 w_10)))

theorem law22_told.eq (R : Value → World → Prop) (c : Option Addr) (w : Option Addr) (act : Int) (w_2 : World) : fnVC Try.prog law22_told.live Try.f8 R [(.pointer c), (.pointer w), (.int .i64 act)] w_2 = law22_told.vc R c w act w_2 := by kernel_rfl
theorem law22_told.ok {R : Value → World → Prop} {c : Option Addr} {w : Option Addr} {act : Int} {w_2 : World} (h : law22_told.vc R c w act w_2) : Run Try.prog 8 #[(.pointer c), (.pointer w), (.int .i64 act)] w_2 R :=
  fn_sound (args := [(.pointer c), (.pointer w), (.int .i64 act)]) Try.mixed Try.func8 (by kernel_rfl) (Eq.mpr (law22_told.eq R c w act w_2) h)

/-! ### riddle/riddlelaw22.awake: function 9 -/
noncomputable def law22_awake.body : Code := bodyOf Try.f9
def law22_awake.live : Nat → List Nat
  | _ => []
def law22_awake.J0 (R : Value → World → Prop) (t0 : Bool) (w : World) : Prop :=
  R (.bool t0) w

@[reducible] def law22_awake.vc (R : Value → World → Prop) (w : World) : Prop :=
  Run Try.prog 7 #[(.int .u32 2), (.int .u32 0)] w fun v w_2 => ∃ t9 : Option Addr, v = (.pointer t9) ∧ ifP (Option.isNone t9)
    (R (.bool false) w_2)
    (Run Try.prog 11 #[(.pointer t9)] w_2 fun v_2 w_3 => ∃ t13 : Int, v_2 = (.int .i64 t13) ∧ Run Try.prog 10 #[(.pointer t9)] w_3 fun v_3 w_4 => v_3 = (.tuple #[]) ∧ Run Try.prog 11 #[(.pointer t9)] w_4 fun v_4 w_5 => ∃ t17 : Int, v_4 = (.int .i64 t17) ∧ Run Try.prog 12 #[(.pointer t9)] w_5 fun v_5 w_6 => v_5 = (.tuple #[]) ∧ Run Try.prog 11 #[(.pointer t9)] w_6 fun v_6 w_7 => ∃ t21 : Int, v_6 = (.int .i64 t21) ∧ Run Try.prog 13 #[(.pointer t9)] w_7 fun v_7 w_8 => ∃ t240 : Bool, ∃ t241 : Int, ∃ t242 : Int, v_7 = (.tuple #[(.bool t240), (.int .u32 t241), (.int .u32 t242)]) ∧ Run Try.prog 11 #[(.pointer t9)] w_8 fun v_8 w_9 => ∃ t29 : Int, v_8 = (.int .i64 t29) ∧ ifP ((t13 : Int) == 0) (ifP ((t17 : Int) == 0) (ifP ((t21 : Int) == 0) (ifP t240 (ifP ((t241 : Int) == 1) (ifP ((t242 : Int) == 2) (law22_awake.J0 R ((t29 : Int) == 1) w_9) (law22_awake.J0 R false w_9)) (law22_awake.J0 R false w_9)) (law22_awake.J0 R false w_9)) (law22_awake.J0 R false w_9)) (law22_awake.J0 R false w_9)) (law22_awake.J0 R false w_9))

theorem law22_awake.eq (R : Value → World → Prop) (w : World) : fnVC Try.prog law22_awake.live Try.f9 R [] w = law22_awake.vc R  w := by kernel_rfl
theorem law22_awake.ok {R : Value → World → Prop} {w : World} (h : law22_awake.vc R  w) : Run Try.prog 9 #[] w R :=
  fn_sound (args := []) Try.mixed Try.func9 (by kernel_rfl) (Eq.mpr (law22_awake.eq R  w) h)

/-! ### riddle/riddlelaw22.ClockPlays: function 3 -/
noncomputable def law22_ClockPlays.body : Code := bodyOf Try.f3
def law22_ClockPlays.live : Nat → List Nat
  | 0 => [2, 7, 8, 9, 10, 11]
  | _ => []
noncomputable def law22_ClockPlays.c0 : Code := sub law22_ClockPlays.body [1, 1, 1, 1, 0, 1, 0, 0]
def law22_ClockPlays.K0 (R : Value → World → Prop) : Ex → St → World → Prop := (blockK 0 (thenK (fun st w => code Try.prog law22_ClockPlays.live 0 (sub law22_ClockPlays.body [1, 1, 1, 1, 1]) (retK Try.prog Try.f3 R) st w) (retK Try.prog Try.f3 R)))
def law22_ClockPlays.L0 (R : Value → World → Prop) (actsA : Option Addr) (actsn : Nat) (actsc : Nat) (c : Option Addr) (d : Option Addr) (w : Addr) (v : Addr) (i : Int) (w_2 : World) : Prop :=
  loopVC (fun K => code Try.prog law22_ClockPlays.live 0 law22_ClockPlays.c0 K) (law22_ClockPlays.live 0) (law22_ClockPlays.K0 R) [undef, undef, (.slice actsA actsn actsc), undef, undef, undef, undef, (.pointer c), (.pointer d), (.pointer (some w)), (.pointer (some v)), (.int .i64 i), undef, undef, undef, undef, undef, undef, undef, undef, undef, undef, undef, undef, undef, undef, undef, undef, undef, undef, undef, undef, undef, undef, undef, undef, undef, undef, undef, undef, undef, undef, undef, undef, undef, undef, undef, undef, undef, undef, undef, undef, undef, undef, undef, undef, undef, undef] w_2
def law22_ClockPlays.J1 (R : Value → World → Prop) (actsA : Option Addr) (actsn : Nat) (actsc : Nat) (c : Option Addr) (d : Option Addr) (w : Addr) (v : Addr) (i : Int) (t56 : Bool) (w_2 : World) : Prop :=
  ifP t56
    (R (.bool false) w_2)
    (law22_ClockPlays.L0 R actsA actsn actsc c d w v (IntKind.i64.wrap (i + 1)) w_2)

@[reducible] def law22_ClockPlays.B0 (R : Value → World → Prop) (actsA : Option Addr) (actsn : Nat) (actsc : Nat) (c : Option Addr) (d : Option Addr) (w : Addr) (v : Addr) (i : Int) (w_2 : World) : Prop :=
  ifP (decide ((i : Int) < ((actsn : Nat) : Int)))
    (0 ≤ (i : Int) ∧ (i : Int) < ((actsn : Nat) : Int) ∧ ∃ t39p : Addr, actsA = some t39p ∧ ∃ t40 : Int, w_2.cell? (t39p.add (Int.toNat i * 1)) = some (.int .i64 t40) ∧ Run Try.prog 8 #[(.pointer c), (.pointer (some w)), (.int .i64 t40)] w_2 fun v_2 w_3 => ∃ t41 : Bool, v_2 = (.bool t41) ∧ ifP (!t41) (law22_ClockPlays.J1 R actsA actsn actsc c d w v i true w_3) (ifP ((Int.tmod i 2 : Int) == 1) (0 ≤ (i : Int) ∧ (i : Int) < ((actsn : Nat) : Int) ∧ ∃ t51p : Addr, actsA = some t51p ∧ ∃ t52 : Int, w_3.cell? (t51p.add (Int.toNat i * 1)) = some (.int .i64 t52) ∧ Run Try.prog 8 #[(.pointer d), (.pointer (some v)), (.int .i64 t52)] w_3 fun v_3 w_4 => ∃ t53 : Bool, v_3 = (.bool t53) ∧ law22_ClockPlays.J1 R actsA actsn actsc c d w v i (!t53) w_4) (law22_ClockPlays.J1 R actsA actsn actsc c d w v i false w_3)))
    (Run Try.prog 9 #[] w_2 fun v_4 w_5 => ∃ t57 : Bool, v_4 = (.bool t57) ∧ R (.bool t57) w_5)

def law22_ClockPlays.J0 (R : Value → World → Prop) (actsA : Option Addr) (actsn : Nat) (actsc : Nat) (c : Option Addr) (d : Option Addr) (w : Addr) (v : Addr) (t29 : Bool) (w_2 : World) : Prop :=
  ifP t29
    (R (.bool false) w_2)
    (law22_ClockPlays.L0 R actsA actsn actsc c d w v 0 w_2)

@[reducible] def law22_ClockPlays.vc (R : Value → World → Prop) (idle : Int) (most : Int) (actsA : Option Addr) (actsn : Nat) (actsc : Nat) (w : World) : Prop :=
  Run Try.prog 7 #[(.int .u32 idle), (.int .u32 most)] w fun v w_2 => ∃ t14 : Option Addr, v = (.pointer t14) ∧ Run Try.prog 7 #[(.int .u32 most), (.int .u32 idle)] w_2 fun v_2 w_3 => ∃ t17 : Option Addr, v_2 = (.pointer t17) ∧ letW (w_3.alloc (.cells #[(.int .u32 0), (.int .u32 0), (.bool false), (.int .u32 0), (.int .u32 0)] 27)) fun w_4 => letW (w_4.alloc (.cells #[(.int .u32 0), (.int .u32 0), (.bool false), (.int .u32 0), (.int .u32 0)] 27)) fun w_5 => storeRow (newA w_3) 0 [(.int .u32 idle), (.int .u32 most), (.bool false), (.int .u32 0), (.int .u32 0)] w_5 fun w_6 => storeRow (newA w_4) 0 [(.int .u32 most), (.int .u32 idle), (.bool false), (.int .u32 0), (.int .u32 0)] w_6 fun w_7 => ifP (Option.isNone t14) (law22_ClockPlays.J0 R actsA actsn actsc t14 t17 (newA w_3) (newA w_4) true w_7) (law22_ClockPlays.J0 R actsA actsn actsc t14 t17 (newA w_3) (newA w_4) (Option.isNone t17) w_7)

theorem law22_ClockPlays.B0_eq (R : Value → World → Prop) (actsA : Option Addr) (actsn : Nat) (actsc : Nat) (c : Option Addr) (d : Option Addr) (w : Addr) (v : Addr) (i : Int) (w_2 : World) (ts : Nat → Value) :
    code Try.prog law22_ClockPlays.live 0 law22_ClockPlays.c0 (thenK (fun st w => loopVC (fun K => code Try.prog law22_ClockPlays.live 0 law22_ClockPlays.c0 K) (law22_ClockPlays.live 0) (law22_ClockPlays.K0 R) (clearFrom (law22_ClockPlays.live 0) 0 st) w) (law22_ClockPlays.K0 R)) (mergeFrom (law22_ClockPlays.live 0) ts 0 (clearFrom (law22_ClockPlays.live 0) 0 [undef, undef, (.slice actsA actsn actsc), undef, undef, undef, undef, (.pointer c), (.pointer d), (.pointer (some w)), (.pointer (some v)), (.int .i64 i), undef, undef, undef, undef, undef, undef, undef, undef, undef, undef, undef, undef, undef, undef, undef, undef, undef, undef, undef, undef, undef, undef, undef, undef, undef, undef, undef, undef, undef, undef, undef, undef, undef, undef, undef, undef, undef, undef, undef, undef, undef, undef, undef, undef, undef, undef])) w_2 = law22_ClockPlays.B0 R actsA actsn actsc c d w v i w_2 := by kernel_rfl
theorem law22_ClockPlays.L0_step {R : Value → World → Prop} {actsA : Option Addr} {actsn : Nat} {actsc : Nat} {c : Option Addr} {d : Option Addr} {w : Addr} {v : Addr} {i : Int} {w_2 : World} (h : law22_ClockPlays.B0 R actsA actsn actsc c d w v i w_2) : law22_ClockPlays.L0 R actsA actsn actsc c d w v i w_2 :=
  loop_step (live := law22_ClockPlays.live) (b := 0) (x := law22_ClockPlays.c0) fun ts => Eq.mpr (law22_ClockPlays.B0_eq R actsA actsn actsc c d w v i w_2 ts) h
theorem law22_ClockPlays.eq (R : Value → World → Prop) (idle : Int) (most : Int) (actsA : Option Addr) (actsn : Nat) (actsc : Nat) (w : World) : fnVC Try.prog law22_ClockPlays.live Try.f3 R [(.int .u32 idle), (.int .u32 most), (.slice actsA actsn actsc)] w = law22_ClockPlays.vc R idle most actsA actsn actsc w := by kernel_rfl
theorem law22_ClockPlays.ok {R : Value → World → Prop} {idle : Int} {most : Int} {actsA : Option Addr} {actsn : Nat} {actsc : Nat} {w : World} (h : law22_ClockPlays.vc R idle most actsA actsn actsc w) : Run Try.prog 3 #[(.int .u32 idle), (.int .u32 most), (.slice actsA actsn actsc)] w R :=
  fn_sound (args := [(.int .u32 idle), (.int .u32 most), (.slice actsA actsn actsc)]) Try.mixed Try.func3 (by kernel_rfl) (Eq.mpr (law22_ClockPlays.eq R idle most actsA actsn actsc w) h)

/-! ### riddle/riddlelaw22.ClockIdles: function 4 -/
noncomputable def law22_ClockIdles.body : Code := bodyOf Try.f4
def law22_ClockIdles.live : Nat → List Nat
  | 0 => [1, 5, 6, 7]
  | 2 => [1, 5, 6, 7, 8, 9]
  | 4 => [1, 5, 6, 7, 11]
  | _ => []
noncomputable def law22_ClockIdles.c0 : Code := sub law22_ClockIdles.body [1, 1, 1, 1, 0, 1, 0, 0]
noncomputable def law22_ClockIdles.c2 : Code := sub law22_ClockIdles.body [1, 1, 1, 1, 0, 1, 0, 0, 1, 0, 0, 1, 1, 0, 1, 0, 0]
noncomputable def law22_ClockIdles.c4 : Code := sub law22_ClockIdles.body [1, 1, 1, 1, 0, 1, 0, 0, 1, 0, 0, 1, 1, 1, 1, 1, 1, 0, 0]
def law22_ClockIdles.K0 (R : Value → World → Prop) : Ex → St → World → Prop := (blockK 0 (thenK (fun st w => code Try.prog law22_ClockIdles.live 0 (sub law22_ClockIdles.body [1, 1, 1, 1, 1]) (retK Try.prog Try.f4 R) st w) (retK Try.prog Try.f4 R)))
def law22_ClockIdles.L0 (R : Value → World → Prop) (gapsA : Option Addr) (gapsn : Nat) (gapsc : Nat) (t : Int) (c : Option Addr) (i : Int) (w : World) : Prop :=
  loopVC (fun K => code Try.prog law22_ClockIdles.live 0 law22_ClockIdles.c0 K) (law22_ClockIdles.live 0) (law22_ClockIdles.K0 R) [undef, (.slice gapsA gapsn gapsc), undef, undef, undef, (.int .i64 t), (.pointer c), (.int .i64 i), undef, undef, undef, undef, undef, undef, undef, undef, undef, undef, undef, undef, undef, undef, undef, undef, undef, undef, undef, undef, undef, undef, undef, undef, undef, undef, undef, undef, undef, undef, undef, undef, undef, undef, undef, undef, undef, undef, undef, undef, undef, undef, undef, undef, undef, undef, undef, undef, undef, undef, undef, undef, undef, undef, undef, undef, undef, undef, undef, undef, undef, undef, undef, undef, undef, undef, undef, undef, undef, undef, undef] w
def law22_ClockIdles.K2 (R : Value → World → Prop) : Ex → St → World → Prop := (blockK 2 (thenK (fun st w => code Try.prog law22_ClockIdles.live 1 (sub law22_ClockIdles.body [1, 1, 1, 1, 0, 1, 0, 0, 1, 0, 0, 1, 1, 1]) (blockK 1 (thenK (fun st w => code Try.prog law22_ClockIdles.live 0 (sub law22_ClockIdles.body [1, 1, 1, 1, 0, 1, 0, 0, 1, 1]) (thenK (fun st w => loopVC (fun K => code Try.prog law22_ClockIdles.live 0 law22_ClockIdles.c0 K) (law22_ClockIdles.live 0) (law22_ClockIdles.K0 R) (clearFrom (law22_ClockIdles.live 0) 0 st) w) (law22_ClockIdles.K0 R)) st w) (thenK (fun st w => loopVC (fun K => code Try.prog law22_ClockIdles.live 0 law22_ClockIdles.c0 K) (law22_ClockIdles.live 0) (law22_ClockIdles.K0 R) (clearFrom (law22_ClockIdles.live 0) 0 st) w) (law22_ClockIdles.K0 R)))) st w) (blockK 1 (thenK (fun st w => code Try.prog law22_ClockIdles.live 0 (sub law22_ClockIdles.body [1, 1, 1, 1, 0, 1, 0, 0, 1, 1]) (thenK (fun st w => loopVC (fun K => code Try.prog law22_ClockIdles.live 0 law22_ClockIdles.c0 K) (law22_ClockIdles.live 0) (law22_ClockIdles.K0 R) (clearFrom (law22_ClockIdles.live 0) 0 st) w) (law22_ClockIdles.K0 R)) st w) (thenK (fun st w => loopVC (fun K => code Try.prog law22_ClockIdles.live 0 law22_ClockIdles.c0 K) (law22_ClockIdles.live 0) (law22_ClockIdles.K0 R) (clearFrom (law22_ClockIdles.live 0) 0 st) w) (law22_ClockIdles.K0 R))))))
def law22_ClockIdles.L2 (R : Value → World → Prop) (gapsA : Option Addr) (gapsn : Nat) (gapsc : Nat) (t : Int) (c : Option Addr) (i : Int) (n : Int) (j : Int) (w : World) : Prop :=
  loopVC (fun K => code Try.prog law22_ClockIdles.live 2 law22_ClockIdles.c2 K) (law22_ClockIdles.live 2) (law22_ClockIdles.K2 R) [undef, (.slice gapsA gapsn gapsc), undef, undef, undef, (.int .i64 t), (.pointer c), (.int .i64 i), (.int .i64 n), (.int .i64 j), undef, undef, undef, undef, undef, undef, undef, undef, undef, undef, undef, undef, undef, undef, undef, undef, undef, undef, undef, undef, undef, undef, undef, undef, undef, undef, undef, undef, undef, undef, undef, undef, undef, undef, undef, undef, undef, undef, undef, undef, undef, undef, undef, undef, undef, undef, undef, undef, undef, undef, undef, undef, undef, undef, undef, undef, undef, undef, undef, undef, undef, undef, undef, undef, undef, undef, undef, undef, undef] w
def law22_ClockIdles.K4 (R : Value → World → Prop) : Ex → St → World → Prop := (blockK 4 (blockK 1 (thenK (fun st w => code Try.prog law22_ClockIdles.live 0 (sub law22_ClockIdles.body [1, 1, 1, 1, 0, 1, 0, 0, 1, 1]) (thenK (fun st w => loopVC (fun K => code Try.prog law22_ClockIdles.live 0 law22_ClockIdles.c0 K) (law22_ClockIdles.live 0) (law22_ClockIdles.K0 R) (clearFrom (law22_ClockIdles.live 0) 0 st) w) (law22_ClockIdles.K0 R)) st w) (thenK (fun st w => loopVC (fun K => code Try.prog law22_ClockIdles.live 0 law22_ClockIdles.c0 K) (law22_ClockIdles.live 0) (law22_ClockIdles.K0 R) (clearFrom (law22_ClockIdles.live 0) 0 st) w) (law22_ClockIdles.K0 R)))))
def law22_ClockIdles.L4 (R : Value → World → Prop) (gapsA : Option Addr) (gapsn : Nat) (gapsc : Nat) (t : Int) (c : Option Addr) (i : Int) (j : Int) (w : World) : Prop :=
  loopVC (fun K => code Try.prog law22_ClockIdles.live 4 law22_ClockIdles.c4 K) (law22_ClockIdles.live 4) (law22_ClockIdles.K4 R) [undef, (.slice gapsA gapsn gapsc), undef, undef, undef, (.int .i64 t), (.pointer c), (.int .i64 i), undef, undef, undef, (.int .i64 j), undef, undef, undef, undef, undef, undef, undef, undef, undef, undef, undef, undef, undef, undef, undef, undef, undef, undef, undef, undef, undef, undef, undef, undef, undef, undef, undef, undef, undef, undef, undef, undef, undef, undef, undef, undef, undef, undef, undef, undef, undef, undef, undef, undef, undef, undef, undef, undef, undef, undef, undef, undef, undef, undef, undef, undef, undef, undef, undef, undef, undef, undef, undef, undef, undef, undef, undef] w
def law22_ClockIdles.J0 (R : Value → World → Prop) (gapsA : Option Addr) (gapsn : Nat) (gapsc : Nat) (t : Int) (c : Option Addr) (i : Int) (n : Int) (j : Int) (t57 : Bool) (w : World) : Prop :=
  ifP t57
    (R (.bool false) w)
    (law22_ClockIdles.L2 R gapsA gapsn gapsc t c i n (IntKind.i64.wrap (j + 1)) w)

def law22_ClockIdles.J1 (R : Value → World → Prop) (gapsA : Option Addr) (gapsn : Nat) (gapsc : Nat) (t : Int) (c : Option Addr) (i : Int) (w : World) : Prop :=
  law22_ClockIdles.L0 R gapsA gapsn gapsc t c (IntKind.i64.wrap (i + 1)) w

@[reducible] def law22_ClockIdles.B4 (R : Value → World → Prop) (gapsA : Option Addr) (gapsn : Nat) (gapsc : Nat) (t : Int) (c : Option Addr) (i : Int) (j : Int) (w : World) : Prop :=
  ifP (decide ((j : Int) ≤ t))
    (Run Try.prog 11 #[(.pointer c)] w fun v w_2 => ∃ t72 : Int, v = (.int .i64 t72) ∧ ifP (!(((t72 : Int) == 1) == ((j : Int) == t)))
    (R (.bool false) w_2)
    (law22_ClockIdles.L4 R gapsA gapsn gapsc t c i (IntKind.i64.wrap (j + 1)) w_2))
    (law22_ClockIdles.J1 R gapsA gapsn gapsc t c i w)

@[reducible] def law22_ClockIdles.B2 (R : Value → World → Prop) (gapsA : Option Addr) (gapsn : Nat) (gapsc : Nat) (t : Int) (c : Option Addr) (i : Int) (n : Int) (j : Int) (w : World) : Prop :=
  ifP (decide ((j : Int) ≤ n))
    (Run Try.prog 11 #[(.pointer c)] w fun v w_2 => ∃ t43 : Int, v = (.int .i64 t43) ∧ ifP (!(((t43 : Int) == 1) == ((j : Int) == t))) (law22_ClockIdles.J0 R gapsA gapsn gapsc t c i n j true w_2) (ifP ((t43 : Int) != 1) (law22_ClockIdles.J0 R gapsA gapsn gapsc t c i n j ((t43 : Int) != 0) w_2) (law22_ClockIdles.J0 R gapsA gapsn gapsc t c i n j false w_2)))
    (ifP ((n : Int) == t)
    (Run Try.prog 11 #[(.pointer c)] w fun v_2 w_3 => ∃ t62 : Int, v_2 = (.int .i64 t62) ∧ ifP ((t62 : Int) != 0)
    (R (.bool false) w_3)
    (law22_ClockIdles.J1 R gapsA gapsn gapsc t c i w_3))
    (Run Try.prog 12 #[(.pointer c)] w fun v_3 w_4 => v_3 = (.tuple #[]) ∧ law22_ClockIdles.L4 R gapsA gapsn gapsc t c i 1 w_4))

@[reducible] def law22_ClockIdles.B0 (R : Value → World → Prop) (gapsA : Option Addr) (gapsn : Nat) (gapsc : Nat) (t : Int) (c : Option Addr) (i : Int) (w : World) : Prop :=
  ifP (decide ((i : Int) < ((gapsn : Nat) : Int)))
    (Run Try.prog 10 #[(.pointer c)] w fun v w_2 => v = (.tuple #[]) ∧ 0 ≤ (i : Int) ∧ (i : Int) < ((gapsn : Nat) : Int) ∧ ∃ t31p : Addr, gapsA = some t31p ∧ ∃ t32 : Int, w_2.cell? (t31p.add (Int.toNat i * 1)) = some (.int .i64 t32) ∧ (IntKind.i64.wrap (t + 1)) ≠ 0 ∧ law22_ClockIdles.L2 R gapsA gapsn gapsc t c i (Int.tmod (andI .i64 t32 1023) (IntKind.i64.wrap (t + 1))) 1 w_2)
    (Run Try.prog 9 #[] w fun v_2 w_3 => ∃ t78 : Bool, v_2 = (.bool t78) ∧ R (.bool t78) w_3)

@[reducible] def law22_ClockIdles.vc (R : Value → World → Prop) (idle : Int) (gapsA : Option Addr) (gapsn : Nat) (gapsc : Nat) (w : World) : Prop :=
  Run Try.prog 7 #[(.int .u32 (IntKind.u32.wrap (IntKind.i64.wrap ((IntKind.i64.wrap (Int.tmod idle 50)) + 1)))), (.int .u32 0)] w fun v w_2 => ∃ t18 : Option Addr, v = (.pointer t18) ∧ ifP (Option.isNone t18)
    (R (.bool false) w_2)
    (law22_ClockIdles.L0 R gapsA gapsn gapsc (IntKind.i64.wrap ((IntKind.i64.wrap (Int.tmod idle 50)) + 1)) t18 0 w_2)

theorem law22_ClockIdles.B0_eq (R : Value → World → Prop) (gapsA : Option Addr) (gapsn : Nat) (gapsc : Nat) (t : Int) (c : Option Addr) (i : Int) (w : World) (ts : Nat → Value) :
    code Try.prog law22_ClockIdles.live 0 law22_ClockIdles.c0 (thenK (fun st w => loopVC (fun K => code Try.prog law22_ClockIdles.live 0 law22_ClockIdles.c0 K) (law22_ClockIdles.live 0) (law22_ClockIdles.K0 R) (clearFrom (law22_ClockIdles.live 0) 0 st) w) (law22_ClockIdles.K0 R)) (mergeFrom (law22_ClockIdles.live 0) ts 0 (clearFrom (law22_ClockIdles.live 0) 0 [undef, (.slice gapsA gapsn gapsc), undef, undef, undef, (.int .i64 t), (.pointer c), (.int .i64 i), undef, undef, undef, undef, undef, undef, undef, undef, undef, undef, undef, undef, undef, undef, undef, undef, undef, undef, undef, undef, undef, undef, undef, undef, undef, undef, undef, undef, undef, undef, undef, undef, undef, undef, undef, undef, undef, undef, undef, undef, undef, undef, undef, undef, undef, undef, undef, undef, undef, undef, undef, undef, undef, undef, undef, undef, undef, undef, undef, undef, undef, undef, undef, undef, undef, undef, undef, undef, undef, undef, undef])) w = law22_ClockIdles.B0 R gapsA gapsn gapsc t c i w := by kernel_rfl
theorem law22_ClockIdles.L0_step {R : Value → World → Prop} {gapsA : Option Addr} {gapsn : Nat} {gapsc : Nat} {t : Int} {c : Option Addr} {i : Int} {w : World} (h : law22_ClockIdles.B0 R gapsA gapsn gapsc t c i w) : law22_ClockIdles.L0 R gapsA gapsn gapsc t c i w :=
  loop_step (live := law22_ClockIdles.live) (b := 0) (x := law22_ClockIdles.c0) fun ts => Eq.mpr (law22_ClockIdles.B0_eq R gapsA gapsn gapsc t c i w ts) h
theorem law22_ClockIdles.B2_eq (R : Value → World → Prop) (gapsA : Option Addr) (gapsn : Nat) (gapsc : Nat) (t : Int) (c : Option Addr) (i : Int) (n : Int) (j : Int) (w : World) (ts : Nat → Value) :
    code Try.prog law22_ClockIdles.live 2 law22_ClockIdles.c2 (thenK (fun st w => loopVC (fun K => code Try.prog law22_ClockIdles.live 2 law22_ClockIdles.c2 K) (law22_ClockIdles.live 2) (law22_ClockIdles.K2 R) (clearFrom (law22_ClockIdles.live 2) 0 st) w) (law22_ClockIdles.K2 R)) (mergeFrom (law22_ClockIdles.live 2) ts 0 (clearFrom (law22_ClockIdles.live 2) 0 [undef, (.slice gapsA gapsn gapsc), undef, undef, undef, (.int .i64 t), (.pointer c), (.int .i64 i), (.int .i64 n), (.int .i64 j), undef, undef, undef, undef, undef, undef, undef, undef, undef, undef, undef, undef, undef, undef, undef, undef, undef, undef, undef, undef, undef, undef, undef, undef, undef, undef, undef, undef, undef, undef, undef, undef, undef, undef, undef, undef, undef, undef, undef, undef, undef, undef, undef, undef, undef, undef, undef, undef, undef, undef, undef, undef, undef, undef, undef, undef, undef, undef, undef, undef, undef, undef, undef, undef, undef, undef, undef, undef, undef])) w = law22_ClockIdles.B2 R gapsA gapsn gapsc t c i n j w := by kernel_rfl
theorem law22_ClockIdles.L2_step {R : Value → World → Prop} {gapsA : Option Addr} {gapsn : Nat} {gapsc : Nat} {t : Int} {c : Option Addr} {i : Int} {n : Int} {j : Int} {w : World} (h : law22_ClockIdles.B2 R gapsA gapsn gapsc t c i n j w) : law22_ClockIdles.L2 R gapsA gapsn gapsc t c i n j w :=
  loop_step (live := law22_ClockIdles.live) (b := 2) (x := law22_ClockIdles.c2) fun ts => Eq.mpr (law22_ClockIdles.B2_eq R gapsA gapsn gapsc t c i n j w ts) h
theorem law22_ClockIdles.B4_eq (R : Value → World → Prop) (gapsA : Option Addr) (gapsn : Nat) (gapsc : Nat) (t : Int) (c : Option Addr) (i : Int) (j : Int) (w : World) (ts : Nat → Value) :
    code Try.prog law22_ClockIdles.live 4 law22_ClockIdles.c4 (thenK (fun st w => loopVC (fun K => code Try.prog law22_ClockIdles.live 4 law22_ClockIdles.c4 K) (law22_ClockIdles.live 4) (law22_ClockIdles.K4 R) (clearFrom (law22_ClockIdles.live 4) 0 st) w) (law22_ClockIdles.K4 R)) (mergeFrom (law22_ClockIdles.live 4) ts 0 (clearFrom (law22_ClockIdles.live 4) 0 [undef, (.slice gapsA gapsn gapsc), undef, undef, undef, (.int .i64 t), (.pointer c), (.int .i64 i), undef, undef, undef, (.int .i64 j), undef, undef, undef, undef, undef, undef, undef, undef, undef, undef, undef, undef, undef, undef, undef, undef, undef, undef, undef, undef, undef, undef, undef, undef, undef, undef, undef, undef, undef, undef, undef, undef, undef, undef, undef, undef, undef, undef, undef, undef, undef, undef, undef, undef, undef, undef, undef, undef, undef, undef, undef, undef, undef, undef, undef, undef, undef, undef, undef, undef, undef, undef, undef, undef, undef, undef, undef])) w = law22_ClockIdles.B4 R gapsA gapsn gapsc t c i j w := by kernel_rfl
theorem law22_ClockIdles.L4_step {R : Value → World → Prop} {gapsA : Option Addr} {gapsn : Nat} {gapsc : Nat} {t : Int} {c : Option Addr} {i : Int} {j : Int} {w : World} (h : law22_ClockIdles.B4 R gapsA gapsn gapsc t c i j w) : law22_ClockIdles.L4 R gapsA gapsn gapsc t c i j w :=
  loop_step (live := law22_ClockIdles.live) (b := 4) (x := law22_ClockIdles.c4) fun ts => Eq.mpr (law22_ClockIdles.B4_eq R gapsA gapsn gapsc t c i j w ts) h
theorem law22_ClockIdles.eq (R : Value → World → Prop) (idle : Int) (gapsA : Option Addr) (gapsn : Nat) (gapsc : Nat) (w : World) : fnVC Try.prog law22_ClockIdles.live Try.f4 R [(.int .u32 idle), (.slice gapsA gapsn gapsc)] w = law22_ClockIdles.vc R idle gapsA gapsn gapsc w := by kernel_rfl
theorem law22_ClockIdles.ok {R : Value → World → Prop} {idle : Int} {gapsA : Option Addr} {gapsn : Nat} {gapsc : Nat} {w : World} (h : law22_ClockIdles.vc R idle gapsA gapsn gapsc w) : Run Try.prog 4 #[(.int .u32 idle), (.slice gapsA gapsn gapsc)] w R :=
  fn_sound (args := [(.int .u32 idle), (.slice gapsA gapsn gapsc)]) Try.mixed Try.func4 (by kernel_rfl) (Eq.mpr (law22_ClockIdles.eq R idle gapsA gapsn gapsc w) h)

/-! ### riddle/riddlelaw22.ClockMosts: function 5 -/
noncomputable def law22_ClockMosts.body : Code := bodyOf Try.f5
def law22_ClockMosts.live : Nat → List Nat
  | 0 => [1, 5, 6, 7, 8, 9]
  | _ => []
noncomputable def law22_ClockMosts.c0 : Code := sub law22_ClockMosts.body [1, 1, 1, 1, 1, 1, 1, 0, 1, 0, 0]
def law22_ClockMosts.K0 (R : Value → World → Prop) : Ex → St → World → Prop := (blockK 0 (thenK (fun st w => code Try.prog law22_ClockMosts.live 0 (sub law22_ClockMosts.body [1, 1, 1, 1, 1, 1, 1, 1]) (retK Try.prog Try.f5 R) st w) (retK Try.prog Try.f5 R)))
def law22_ClockMosts.L0 (R : Value → World → Prop) (touch : Bool) (t : Int) (a : Option Addr) (b : Option Addr) (c : Option Addr) (i : Int) (w : World) : Prop :=
  loopVC (fun K => code Try.prog law22_ClockMosts.live 0 law22_ClockMosts.c0 K) (law22_ClockMosts.live 0) (law22_ClockMosts.K0 R) [undef, (.bool touch), undef, undef, undef, (.int .i64 t), (.pointer a), (.pointer b), (.pointer c), (.int .i64 i), undef, undef, undef, undef, undef, undef, undef, undef, undef, undef, undef, undef, undef, undef, undef, undef, undef, undef, undef, undef, undef, undef, undef, undef, undef, undef, undef, undef, undef, undef, undef, undef, undef, undef, undef, undef, undef, undef, undef, undef, undef, undef, undef, undef, undef, undef, undef, undef, undef, undef, undef, undef, undef, undef, undef, undef, undef, undef, undef, undef, undef, undef, undef, undef, undef, undef, undef, undef, undef, undef, undef, undef, undef, undef, undef, undef, undef, undef, undef, undef, undef, undef, undef, undef, undef, undef, undef, undef, undef, undef, undef, undef, undef, undef, undef, undef, undef, undef, undef, undef, undef, undef, undef, undef, undef, undef, undef, undef, undef, undef] w
def law22_ClockMosts.J4 (R : Value → World → Prop) (touch : Bool) (t : Int) (a : Option Addr) (b : Option Addr) (c : Option Addr) (i : Int) (w : World) : Prop :=
  law22_ClockMosts.L0 R touch t a b c (IntKind.i64.wrap (i + 1)) w

def law22_ClockMosts.J3 (R : Value → World → Prop) (touch : Bool) (t : Int) (a : Option Addr) (b : Option Addr) (c : Option Addr) (i : Int) (t80 : Bool) (w : World) : Prop :=
  ifP t80
    (R (.bool false) w)
    (Run Try.prog 12 #[(.pointer a)] w fun v w_2 => v = (.tuple #[]) ∧ ifP touch
    (Run Try.prog 12 #[(.pointer b)] w_2 fun v_2 w_3 => v_2 = (.tuple #[]) ∧ law22_ClockMosts.J4 R touch t a b c i w_3)
    (law22_ClockMosts.J4 R touch t a b c i w_2))

def law22_ClockMosts.J2 (R : Value → World → Prop) (touch : Bool) (t : Int) (a : Option Addr) (b : Option Addr) (c : Option Addr) (i : Int) (x : Int) (y : Int) (z : Int) (want : Int) (other : Int) (w : World) : Prop :=
  ifP ((x : Int) != want) (law22_ClockMosts.J3 R touch t a b c i true w) (ifP ((y : Int) != other) (law22_ClockMosts.J3 R touch t a b c i true w) (law22_ClockMosts.J3 R touch t a b c i ((z : Int) != 0) w))

def law22_ClockMosts.J1 (R : Value → World → Prop) (touch : Bool) (t : Int) (a : Option Addr) (b : Option Addr) (c : Option Addr) (i : Int) (x : Int) (y : Int) (z : Int) (want : Int) (other : Int) (t68 : Bool) (w : World) : Prop :=
  ifP t68
    (law22_ClockMosts.J2 R touch t a b c i x y z want 2 w)
    (law22_ClockMosts.J2 R touch t a b c i x y z want other w)

def law22_ClockMosts.J5 (R : Value → World → Prop) (t4 : Bool) (w : World) : Prop :=
  R (.bool t4) w

@[reducible] def law22_ClockMosts.B0 (R : Value → World → Prop) (touch : Bool) (t : Int) (a : Option Addr) (b : Option Addr) (c : Option Addr) (i : Int) (w : World) : Prop :=
  ifP (decide ((i : Int) ≤ t))
    (Run Try.prog 11 #[(.pointer a)] w fun v w_2 => ∃ t56 : Int, v = (.int .i64 t56) ∧ Run Try.prog 11 #[(.pointer b)] w_2 fun v_2 w_3 => ∃ t58 : Int, v_2 = (.int .i64 t58) ∧ Run Try.prog 11 #[(.pointer c)] w_3 fun v_3 w_4 => ∃ t60 : Int, v_3 = (.int .i64 t60) ∧ ifP ((i : Int) == t)
    (ifP touch (law22_ClockMosts.J1 R touch t a b c i t56 t58 t60 2 1 (decide ((t : Int) > 1)) w_4) (law22_ClockMosts.J1 R touch t a b c i t56 t58 t60 2 1 false w_4))
    (law22_ClockMosts.J2 R touch t a b c i t56 t58 t60 0 0 w_4))
    (Run Try.prog 13 #[(.pointer c)] w fun v_4 w_5 => ∃ t880 : Bool, ∃ t881 : Int, ∃ t882 : Int, v_4 = (.tuple #[(.bool t880), (.int .u32 t881), (.int .u32 t882)]) ∧ Run Try.prog 13 #[(.pointer a)] w_5 fun v_5 w_6 => ∃ t940 : Bool, ∃ t941 : Int, ∃ t942 : Int, v_5 = (.tuple #[(.bool t940), (.int .u32 t941), (.int .u32 t942)]) ∧ ifP t880 (ifP ((t882 : Int) == (IntKind.u32.wrap t)) (ifP (!t940) (ifP ((t941 : Int) == 0) (ifP ((t942 : Int) == 0) (Run Try.prog 9 #[] w_6 fun v_6 w_7 => ∃ t118 : Bool, v_6 = (.bool t118) ∧ law22_ClockMosts.J5 R t118 w_7) (law22_ClockMosts.J5 R false w_6)) (law22_ClockMosts.J5 R false w_6)) (law22_ClockMosts.J5 R false w_6)) (law22_ClockMosts.J5 R false w_6)) (law22_ClockMosts.J5 R false w_6))

def law22_ClockMosts.J0 (R : Value → World → Prop) (touch : Bool) (t : Int) (a : Option Addr) (b : Option Addr) (c : Option Addr) (t43 : Bool) (w : World) : Prop :=
  ifP t43
    (R (.bool false) w)
    (Run Try.prog 10 #[(.pointer a)] w fun v w_2 => v = (.tuple #[]) ∧ Run Try.prog 10 #[(.pointer b)] w_2 fun v_2 w_3 => v_2 = (.tuple #[]) ∧ Run Try.prog 10 #[(.pointer c)] w_3 fun v_3 w_4 => v_3 = (.tuple #[]) ∧ law22_ClockMosts.L0 R touch t a b c 1 w_4)

@[reducible] def law22_ClockMosts.vc (R : Value → World → Prop) (most : Int) (touch : Bool) (w : World) : Prop :=
  Run Try.prog 7 #[(.int .u32 0), (.int .u32 (IntKind.u32.wrap (IntKind.i64.wrap ((IntKind.i64.wrap (Int.tmod most 200)) + 1))))] w fun v w_2 => ∃ t27 : Option Addr, v = (.pointer t27) ∧ Run Try.prog 7 #[(.int .u32 (IntKind.u32.wrap (IntKind.i64.wrap ((IntKind.i64.wrap (Int.tmod most 200)) + 1)))), (.int .u32 (IntKind.u32.wrap (IntKind.i64.wrap ((IntKind.i64.wrap (Int.tmod most 200)) + 1))))] w_2 fun v_2 w_3 => ∃ t32 : Option Addr, v_2 = (.pointer t32) ∧ Run Try.prog 7 #[(.int .u32 0), (.int .u32 0)] w_3 fun v_3 w_4 => ∃ t33 : Option Addr, v_3 = (.pointer t33) ∧ ifP (Option.isNone t27) (law22_ClockMosts.J0 R touch (IntKind.i64.wrap ((IntKind.i64.wrap (Int.tmod most 200)) + 1)) t27 t32 t33 true w_4) (ifP (Option.isNone t32) (law22_ClockMosts.J0 R touch (IntKind.i64.wrap ((IntKind.i64.wrap (Int.tmod most 200)) + 1)) t27 t32 t33 true w_4) (law22_ClockMosts.J0 R touch (IntKind.i64.wrap ((IntKind.i64.wrap (Int.tmod most 200)) + 1)) t27 t32 t33 (Option.isNone t33) w_4))

theorem law22_ClockMosts.B0_eq (R : Value → World → Prop) (touch : Bool) (t : Int) (a : Option Addr) (b : Option Addr) (c : Option Addr) (i : Int) (w : World) (ts : Nat → Value) :
    code Try.prog law22_ClockMosts.live 0 law22_ClockMosts.c0 (thenK (fun st w => loopVC (fun K => code Try.prog law22_ClockMosts.live 0 law22_ClockMosts.c0 K) (law22_ClockMosts.live 0) (law22_ClockMosts.K0 R) (clearFrom (law22_ClockMosts.live 0) 0 st) w) (law22_ClockMosts.K0 R)) (mergeFrom (law22_ClockMosts.live 0) ts 0 (clearFrom (law22_ClockMosts.live 0) 0 [undef, (.bool touch), undef, undef, undef, (.int .i64 t), (.pointer a), (.pointer b), (.pointer c), (.int .i64 i), undef, undef, undef, undef, undef, undef, undef, undef, undef, undef, undef, undef, undef, undef, undef, undef, undef, undef, undef, undef, undef, undef, undef, undef, undef, undef, undef, undef, undef, undef, undef, undef, undef, undef, undef, undef, undef, undef, undef, undef, undef, undef, undef, undef, undef, undef, undef, undef, undef, undef, undef, undef, undef, undef, undef, undef, undef, undef, undef, undef, undef, undef, undef, undef, undef, undef, undef, undef, undef, undef, undef, undef, undef, undef, undef, undef, undef, undef, undef, undef, undef, undef, undef, undef, undef, undef, undef, undef, undef, undef, undef, undef, undef, undef, undef, undef, undef, undef, undef, undef, undef, undef, undef, undef, undef, undef, undef, undef, undef, undef])) w = law22_ClockMosts.B0 R touch t a b c i w := by kernel_rfl
theorem law22_ClockMosts.L0_step {R : Value → World → Prop} {touch : Bool} {t : Int} {a : Option Addr} {b : Option Addr} {c : Option Addr} {i : Int} {w : World} (h : law22_ClockMosts.B0 R touch t a b c i w) : law22_ClockMosts.L0 R touch t a b c i w :=
  loop_step (live := law22_ClockMosts.live) (b := 0) (x := law22_ClockMosts.c0) fun ts => Eq.mpr (law22_ClockMosts.B0_eq R touch t a b c i w ts) h
theorem law22_ClockMosts.eq (R : Value → World → Prop) (most : Int) (touch : Bool) (w : World) : fnVC Try.prog law22_ClockMosts.live Try.f5 R [(.int .u32 most), (.bool touch)] w = law22_ClockMosts.vc R most touch w := by kernel_rfl
theorem law22_ClockMosts.ok {R : Value → World → Prop} {most : Int} {touch : Bool} {w : World} (h : law22_ClockMosts.vc R most touch w) : Run Try.prog 5 #[(.int .u32 most), (.bool touch)] w R :=
  fn_sound (args := [(.int .u32 most), (.bool touch)]) Try.mixed Try.func5 (by kernel_rfl) (Eq.mpr (law22_ClockMosts.eq R most touch w) h)

/-! ### riddle/riddlelaw22.ClockStands: function 6 -/
noncomputable def law22_ClockStands.body : Code := bodyOf Try.f6
def law22_ClockStands.live : Nat → List Nat
  | 0 => [2, 7, 8]
  | 2 => [2, 7, 8, 9]
  | _ => []
noncomputable def law22_ClockStands.c0 : Code := sub law22_ClockStands.body [1, 1, 1, 0, 1, 0, 0]
noncomputable def law22_ClockStands.c2 : Code := sub law22_ClockStands.body [1, 1, 1, 0, 1, 0, 0, 1, 0, 0, 0, 1, 0, 0]
def law22_ClockStands.K0 (R : Value → World → Prop) : Ex → St → World → Prop := (blockK 0 (thenK (fun st w => code Try.prog law22_ClockStands.live 0 (sub law22_ClockStands.body [1, 1, 1, 1]) (retK Try.prog Try.f6 R) st w) (retK Try.prog Try.f6 R)))
def law22_ClockStands.L0 (R : Value → World → Prop) (ticks : Int) (c : Option Addr) (round : Int) (w : World) : Prop :=
  loopVC (fun K => code Try.prog law22_ClockStands.live 0 law22_ClockStands.c0 K) (law22_ClockStands.live 0) (law22_ClockStands.K0 R) [undef, undef, (.int .i64 ticks), undef, undef, undef, undef, (.pointer c), (.int .i64 round), undef, undef, undef, undef, undef, undef, undef, undef, undef, undef, undef, undef, undef, undef, undef, undef, undef, undef, undef, undef, undef, undef, undef, undef, undef, undef, undef, undef, undef, undef, undef, undef, undef, undef, undef, undef, undef, undef, undef, undef, undef, undef, undef, undef, undef, undef, undef, undef, undef, undef, undef, undef, undef, undef, undef, undef, undef, undef, undef, undef, undef, undef, undef, undef, undef, undef, undef, undef, undef, undef, undef, undef, undef, undef, undef, undef, undef, undef, undef, undef, undef, undef, undef] w
def law22_ClockStands.K2 (R : Value → World → Prop) : Ex → St → World → Prop := (blockK 2 (thenK (fun st w => code Try.prog law22_ClockStands.live 1 (sub law22_ClockStands.body [1, 1, 1, 0, 1, 0, 0, 1, 0, 0, 1]) (blockK 1 (thenK (fun st w => code Try.prog law22_ClockStands.live 0 (sub law22_ClockStands.body [1, 1, 1, 0, 1, 0, 0, 1, 1]) (thenK (fun st w => loopVC (fun K => code Try.prog law22_ClockStands.live 0 law22_ClockStands.c0 K) (law22_ClockStands.live 0) (law22_ClockStands.K0 R) (clearFrom (law22_ClockStands.live 0) 0 st) w) (law22_ClockStands.K0 R)) st w) (thenK (fun st w => loopVC (fun K => code Try.prog law22_ClockStands.live 0 law22_ClockStands.c0 K) (law22_ClockStands.live 0) (law22_ClockStands.K0 R) (clearFrom (law22_ClockStands.live 0) 0 st) w) (law22_ClockStands.K0 R)))) st w) (blockK 1 (thenK (fun st w => code Try.prog law22_ClockStands.live 0 (sub law22_ClockStands.body [1, 1, 1, 0, 1, 0, 0, 1, 1]) (thenK (fun st w => loopVC (fun K => code Try.prog law22_ClockStands.live 0 law22_ClockStands.c0 K) (law22_ClockStands.live 0) (law22_ClockStands.K0 R) (clearFrom (law22_ClockStands.live 0) 0 st) w) (law22_ClockStands.K0 R)) st w) (thenK (fun st w => loopVC (fun K => code Try.prog law22_ClockStands.live 0 law22_ClockStands.c0 K) (law22_ClockStands.live 0) (law22_ClockStands.K0 R) (clearFrom (law22_ClockStands.live 0) 0 st) w) (law22_ClockStands.K0 R))))))
def law22_ClockStands.L2 (R : Value → World → Prop) (ticks : Int) (c : Option Addr) (round : Int) (i : Int) (w : World) : Prop :=
  loopVC (fun K => code Try.prog law22_ClockStands.live 2 law22_ClockStands.c2 K) (law22_ClockStands.live 2) (law22_ClockStands.K2 R) [undef, undef, (.int .i64 ticks), undef, undef, undef, undef, (.pointer c), (.int .i64 round), (.int .i64 i), undef, undef, undef, undef, undef, undef, undef, undef, undef, undef, undef, undef, undef, undef, undef, undef, undef, undef, undef, undef, undef, undef, undef, undef, undef, undef, undef, undef, undef, undef, undef, undef, undef, undef, undef, undef, undef, undef, undef, undef, undef, undef, undef, undef, undef, undef, undef, undef, undef, undef, undef, undef, undef, undef, undef, undef, undef, undef, undef, undef, undef, undef, undef, undef, undef, undef, undef, undef, undef, undef, undef, undef, undef, undef, undef, undef, undef, undef, undef, undef, undef, undef] w
def law22_ClockStands.J1 (R : Value → World → Prop) (ticks : Int) (c : Option Addr) (round : Int) (t68 : Bool) (w : World) : Prop :=
  ifP t68
    (R (.bool false) w)
    (Run Try.prog 11 #[(.pointer c)] w fun v w_2 => ∃ t70 : Int, v = (.int .i64 t70) ∧ Run Try.prog 14 #[(.pointer c)] w_2 fun v_2 w_3 => v_2 = (.tuple #[]) ∧ law22_ClockStands.L0 R ticks c (IntKind.i64.wrap (round + 1)) w_3)

def law22_ClockStands.J0 (R : Value → World → Prop) (ticks : Int) (c : Option Addr) (round : Int) (t50 : Bool) (w : World) : Prop :=
  ifP t50
    (R (.bool false) w)
    (Run Try.prog 10 #[(.pointer c)] w fun v w_2 => v = (.tuple #[]) ∧ Run Try.prog 13 #[(.pointer c)] w_2 fun v_2 w_3 => ∃ t550 : Bool, ∃ t551 : Int, ∃ t552 : Int, v_2 = (.tuple #[(.bool t550), (.int .u32 t551), (.int .u32 t552)]) ∧ ifP (!t550) (law22_ClockStands.J1 R ticks c round true w_3) (ifP ((t551 : Int) != 0) (law22_ClockStands.J1 R ticks c round true w_3) (law22_ClockStands.J1 R ticks c round ((t552 : Int) != 0) w_3)))

@[reducible] def law22_ClockStands.B2 (R : Value → World → Prop) (ticks : Int) (c : Option Addr) (round : Int) (i : Int) (w : World) : Prop :=
  ifP (decide ((i : Int) < (andI .i64 ticks 63)))
    (Run Try.prog 12 #[(.pointer c)] w fun v w_2 => v = (.tuple #[]) ∧ Run Try.prog 11 #[(.pointer c)] w_2 fun v_2 w_3 => ∃ t34 : Int, v_2 = (.int .i64 t34) ∧ ifP ((t34 : Int) != 0)
    (R (.bool false) w_3)
    (law22_ClockStands.L2 R ticks c round (IntKind.i64.wrap (i + 1)) w_3))
    (Run Try.prog 13 #[(.pointer c)] w fun v_3 w_4 => ∃ t380 : Bool, ∃ t381 : Int, ∃ t382 : Int, v_3 = (.tuple #[(.bool t380), (.int .u32 t381), (.int .u32 t382)]) ∧ ifP t380 (law22_ClockStands.J0 R ticks c round true w_4) (ifP ((t381 : Int) != 0) (law22_ClockStands.J0 R ticks c round true w_4) (law22_ClockStands.J0 R ticks c round ((t382 : Int) != 0) w_4)))

def law22_ClockStands.J2 (R : Value → World → Prop) (t6 : Bool) (w : World) : Prop :=
  R (.bool t6) w

@[reducible] def law22_ClockStands.B0 (R : Value → World → Prop) (ticks : Int) (c : Option Addr) (round : Int) (w : World) : Prop :=
  ifP (decide ((round : Int) < 2))
    (law22_ClockStands.L2 R ticks c round 0 w)
    (Run Try.prog 13 #[(.pointer c)] w fun v w_2 => ∃ t750 : Bool, ∃ t751 : Int, ∃ t752 : Int, v = (.tuple #[(.bool t750), (.int .u32 t751), (.int .u32 t752)]) ∧ ifP (!t750) (ifP ((t751 : Int) == 0) (ifP ((t752 : Int) == 0) (Run Try.prog 9 #[] w_2 fun v_2 w_3 => ∃ t90 : Bool, v_2 = (.bool t90) ∧ law22_ClockStands.J2 R t90 w_3) (law22_ClockStands.J2 R false w_2)) (law22_ClockStands.J2 R false w_2)) (law22_ClockStands.J2 R false w_2))

@[reducible] def law22_ClockStands.vc (R : Value → World → Prop) (idle : Int) (most : Int) (ticks : Int) (w : World) : Prop :=
  Run Try.prog 7 #[(.int .u32 idle), (.int .u32 most)] w fun v w_2 => ∃ t18 : Option Addr, v = (.pointer t18) ∧ ifP (Option.isNone t18)
    (R (.bool false) w_2)
    (law22_ClockStands.L0 R ticks t18 0 w_2)

theorem law22_ClockStands.B0_eq (R : Value → World → Prop) (ticks : Int) (c : Option Addr) (round : Int) (w : World) (ts : Nat → Value) :
    code Try.prog law22_ClockStands.live 0 law22_ClockStands.c0 (thenK (fun st w => loopVC (fun K => code Try.prog law22_ClockStands.live 0 law22_ClockStands.c0 K) (law22_ClockStands.live 0) (law22_ClockStands.K0 R) (clearFrom (law22_ClockStands.live 0) 0 st) w) (law22_ClockStands.K0 R)) (mergeFrom (law22_ClockStands.live 0) ts 0 (clearFrom (law22_ClockStands.live 0) 0 [undef, undef, (.int .i64 ticks), undef, undef, undef, undef, (.pointer c), (.int .i64 round), undef, undef, undef, undef, undef, undef, undef, undef, undef, undef, undef, undef, undef, undef, undef, undef, undef, undef, undef, undef, undef, undef, undef, undef, undef, undef, undef, undef, undef, undef, undef, undef, undef, undef, undef, undef, undef, undef, undef, undef, undef, undef, undef, undef, undef, undef, undef, undef, undef, undef, undef, undef, undef, undef, undef, undef, undef, undef, undef, undef, undef, undef, undef, undef, undef, undef, undef, undef, undef, undef, undef, undef, undef, undef, undef, undef, undef, undef, undef, undef, undef, undef, undef])) w = law22_ClockStands.B0 R ticks c round w := by kernel_rfl
theorem law22_ClockStands.L0_step {R : Value → World → Prop} {ticks : Int} {c : Option Addr} {round : Int} {w : World} (h : law22_ClockStands.B0 R ticks c round w) : law22_ClockStands.L0 R ticks c round w :=
  loop_step (live := law22_ClockStands.live) (b := 0) (x := law22_ClockStands.c0) fun ts => Eq.mpr (law22_ClockStands.B0_eq R ticks c round w ts) h
theorem law22_ClockStands.B2_eq (R : Value → World → Prop) (ticks : Int) (c : Option Addr) (round : Int) (i : Int) (w : World) (ts : Nat → Value) :
    code Try.prog law22_ClockStands.live 2 law22_ClockStands.c2 (thenK (fun st w => loopVC (fun K => code Try.prog law22_ClockStands.live 2 law22_ClockStands.c2 K) (law22_ClockStands.live 2) (law22_ClockStands.K2 R) (clearFrom (law22_ClockStands.live 2) 0 st) w) (law22_ClockStands.K2 R)) (mergeFrom (law22_ClockStands.live 2) ts 0 (clearFrom (law22_ClockStands.live 2) 0 [undef, undef, (.int .i64 ticks), undef, undef, undef, undef, (.pointer c), (.int .i64 round), (.int .i64 i), undef, undef, undef, undef, undef, undef, undef, undef, undef, undef, undef, undef, undef, undef, undef, undef, undef, undef, undef, undef, undef, undef, undef, undef, undef, undef, undef, undef, undef, undef, undef, undef, undef, undef, undef, undef, undef, undef, undef, undef, undef, undef, undef, undef, undef, undef, undef, undef, undef, undef, undef, undef, undef, undef, undef, undef, undef, undef, undef, undef, undef, undef, undef, undef, undef, undef, undef, undef, undef, undef, undef, undef, undef, undef, undef, undef, undef, undef, undef, undef, undef, undef])) w = law22_ClockStands.B2 R ticks c round i w := by kernel_rfl
theorem law22_ClockStands.L2_step {R : Value → World → Prop} {ticks : Int} {c : Option Addr} {round : Int} {i : Int} {w : World} (h : law22_ClockStands.B2 R ticks c round i w) : law22_ClockStands.L2 R ticks c round i w :=
  loop_step (live := law22_ClockStands.live) (b := 2) (x := law22_ClockStands.c2) fun ts => Eq.mpr (law22_ClockStands.B2_eq R ticks c round i w ts) h
theorem law22_ClockStands.eq (R : Value → World → Prop) (idle : Int) (most : Int) (ticks : Int) (w : World) : fnVC Try.prog law22_ClockStands.live Try.f6 R [(.int .u32 idle), (.int .u32 most), (.int .i64 ticks)] w = law22_ClockStands.vc R idle most ticks w := by kernel_rfl
theorem law22_ClockStands.ok {R : Value → World → Prop} {idle : Int} {most : Int} {ticks : Int} {w : World} (h : law22_ClockStands.vc R idle most ticks w) : Run Try.prog 6 #[(.int .u32 idle), (.int .u32 most), (.int .i64 ticks)] w R :=
  fn_sound (args := [(.int .u32 idle), (.int .u32 most), (.int .i64 ticks)]) Try.mixed Try.func6 (by kernel_rfl) (Eq.mpr (law22_ClockStands.eq R idle most ticks w) h)

end
end Go.Proofs.Ytbhfcpilhiojaaa
