/- Printed by a program of this repo (wip/tools/gen.py) out of Lean's own print of the functions: each function's weakest precondition, and the equation that it is one. -/
import Derived.Test.YthhfipjmjnfjlaaProg
import Derived.Test.YthhfipjmjnfjlaaS4
import Derived.KernelRfl
namespace Go.Proofs.Ythhfipjmjnfjlaa
open Go.Rd
set_option linter.unusedVariables false
set_option maxRecDepth 100000
section
theorem Try.mixed : Try.prog.follows .mixedOrders = true := by kernel_rfl

/-! ### riddle/riddleref21.New: function 7 -/
noncomputable def ref21_New.body : Code := bodyOf Try.f7
def ref21_New.live : Nat → List Nat
  | 0 => [0, 4]
  | _ => []
noncomputable def ref21_New.c0 : Code := sub ref21_New.body [1, 1, 0, 1, 0, 0]
def ref21_New.K0 (R : Value → World → Prop) : Ex → St → World → Prop := (blockK 0 (thenK (fun st w => code Try.prog none ref21_New.live 0 (sub ref21_New.body [1, 1, 1]) (retK Try.prog Try.f7 R) st w) (retK Try.prog Try.f7 R)))
def ref21_New.L0 (R : Value → World → Prop) (depthsA : Option Addr) (depthsn : Nat) (depthsc : Nat) (i : Int) (w : World) : Prop :=
  loopVC (fun K => code Try.prog none ref21_New.live 0 ref21_New.c0 K) (ref21_New.live 0) (ref21_New.K0 R) [(.slice depthsA depthsn depthsc), undef, undef, undef, (.int .i64 i), undef, undef, undef, undef, undef, undef, undef, undef, undef, undef, undef, undef, undef, undef, undef, undef, undef, undef, undef, undef, undef, undef, undef, undef, undef, undef, undef, undef, undef, undef, undef, undef, undef, undef, undef, undef, undef] w
def ref21_New.J1 (R : Value → World → Prop) (depthsA : Option Addr) (depthsn : Nat) (depthsc : Nat) (i : Int) (t30 : Bool) (w : World) : Prop :=
  ifP t30
    (R (.tuple #[(.pointer none), (.int .i64 210)]) w)
    (ref21_New.L0 R depthsA depthsn depthsc (IntKind.i64.wrap (i + 1)) w)

def ref21_New.J2 (R : Value → World → Prop) (t2 : Addr) (t3 : Int) (w : World) : Prop :=
  R (.tuple #[(.pointer (some t2)), (.int .i64 t3)]) w

@[reducible] def ref21_New.B0 (R : Value → World → Prop) (depthsA : Option Addr) (depthsn : Nat) (depthsc : Nat) (i : Int) (w : World) : Prop :=
  ifP (decide ((i : Int) < ((depthsn : Nat) : Int)))
    (0 ≤ (i : Int) ∧ (i : Int) < ((depthsn : Nat) : Int) ∧ ∃ t21p : Addr, depthsA = some t21p ∧ ∃ t22 : Int, w.cell? (t21p.add (Int.toNat i * 1)) = some (.int .i64 t22) ∧ ifP (decide ((t22 : Int) < 1)) (ref21_New.J1 R depthsA depthsn depthsc i true w) (0 ≤ (i : Int) ∧ (i : Int) < ((depthsn : Nat) : Int) ∧ ∃ t27p : Addr, depthsA = some t27p ∧ ∃ t28 : Int, w.cell? (t27p.add (Int.toNat i * 1)) = some (.int .i64 t28) ∧ ref21_New.J1 R depthsA depthsn depthsc i (decide ((t28 : Int) > 1024)) w))
    (letW w.drew fun w_2 => (letW (w_2.alloc (.cells #[] 3)) fun w_3 => (∃ (v : Value) (w_4 : World), (Builtin.append_ #[22, 22] 22 #[(.slice (some (newA w_2)) 0 0), (.slice depthsA depthsn depthsc)]).run Try.prog w_3 = .ok v w_4 ∧ ∃ (t33A : Option Addr) (t33n t33c : Nat), v = (.slice t33A t33n t33c) ∧ (∃ (v_2 : Value) (w_5 : World), (Instr.makeSlice 53 (.int .i64 ((depthsn : Nat) : Int)) (.int .i64 ((depthsn : Nat) : Int))).run Try.prog w_4 = .ok v_2 w_5 ∧ ∃ (t36A : Option Addr) (t36n t36c : Nat), v_2 = (.slice t36A t36n t36c) ∧ ∃ (v_3 : Value) (w_6 : World), (Instr.makeSlice 54 (.int .i64 ((depthsn : Nat) : Int)) (.int .i64 ((depthsn : Nat) : Int))).run Try.prog w_5 = .ok v_3 w_6 ∧ ∃ (t39A : Option Addr) (t39n t39c : Nat), v_3 = (.slice t39A t39n t39c) ∧ letW (w_6.alloc (.cells #[(.slice t33A t33n t33c), (.slice t36A t36n t36c), (.slice t39A t39n t39c)] 56)) fun w_7 => ref21_New.J2 R (newA w_6) 0 w_7) ∧ (∃ (v_4 : Value) (w_8 : World), (Instr.makeSlice 54 (.int .i64 ((depthsn : Nat) : Int)) (.int .i64 ((depthsn : Nat) : Int))).run Try.prog w_4 = .ok v_4 w_8 ∧ ∃ (t39A_2 : Option Addr) (t39n_2 t39c_2 : Nat), v_4 = (.slice t39A_2 t39n_2 t39c_2) ∧ ∃ (v_5 : Value) (w_9 : World), (Instr.makeSlice 53 (.int .i64 ((depthsn : Nat) : Int)) (.int .i64 ((depthsn : Nat) : Int))).run Try.prog w_8 = .ok v_5 w_9 ∧ ∃ (t36A_2 : Option Addr) (t36n_2 t36c_2 : Nat), v_5 = (.slice t36A_2 t36n_2 t36c_2) ∧ letW (w_9.alloc (.cells #[(.slice t33A t33n t33c), (.slice t36A_2 t36n_2 t36c_2), (.slice t39A_2 t39n_2 t39c_2)] 56)) fun w_10 => ref21_New.J2 R (newA w_9) 0 w_10)) ∧ (∃ (v_6 : Value) (w_11 : World), (Instr.makeSlice 53 (.int .i64 ((depthsn : Nat) : Int)) (.int .i64 ((depthsn : Nat) : Int))).run Try.prog w_3 = .ok v_6 w_11 ∧ ∃ (t36A_3 : Option Addr) (t36n_3 t36c_3 : Nat), v_6 = (.slice t36A_3 t36n_3 t36c_3) ∧ (∃ (v_7 : Value) (w_12 : World), (Builtin.append_ #[22, 22] 22 #[(.slice (some (newA w_2)) 0 0), (.slice depthsA depthsn depthsc)]).run Try.prog w_11 = .ok v_7 w_12 ∧ ∃ (t33A_2 : Option Addr) (t33n_2 t33c_2 : Nat), v_7 = (.slice t33A_2 t33n_2 t33c_2) ∧ ∃ (v_8 : Value) (w_13 : World), (Instr.makeSlice 54 (.int .i64 ((depthsn : Nat) : Int)) (.int .i64 ((depthsn : Nat) : Int))).run Try.prog w_12 = .ok v_8 w_13 ∧ ∃ (t39A_3 : Option Addr) (t39n_3 t39c_3 : Nat), v_8 = (.slice t39A_3 t39n_3 t39c_3) ∧ letW (w_13.alloc (.cells #[(.slice t33A_2 t33n_2 t33c_2), (.slice t36A_3 t36n_3 t36c_3), (.slice t39A_3 t39n_3 t39c_3)] 56)) fun w_14 => ref21_New.J2 R (newA w_13) 0 w_14) ∧ (∃ (v_9 : Value) (w_15 : World), (Instr.makeSlice 54 (.int .i64 ((depthsn : Nat) : Int)) (.int .i64 ((depthsn : Nat) : Int))).run Try.prog w_11 = .ok v_9 w_15 ∧ ∃ (t39A_4 : Option Addr) (t39n_4 t39c_4 : Nat), v_9 = (.slice t39A_4 t39n_4 t39c_4) ∧ ∃ (v_10 : Value) (w_16 : World), (Builtin.append_ #[22, 22] 22 #[(.slice (some (newA w_2)) 0 0), (.slice depthsA depthsn depthsc)]).run Try.prog w_15 = .ok v_10 w_16 ∧ ∃ (t33A_3 : Option Addr) (t33n_3 t33c_3 : Nat), v_10 = (.slice t33A_3 t33n_3 t33c_3) ∧ letW (w_16.alloc (.cells #[(.slice t33A_3 t33n_3 t33c_3), (.slice t36A_3 t36n_3 t36c_3), (.slice t39A_4 t39n_4 t39c_4)] 56)) fun w_17 => ref21_New.J2 R (newA w_16) 0 w_17)) ∧ (∃ (v_11 : Value) (w_18 : World), (Instr.makeSlice 54 (.int .i64 ((depthsn : Nat) : Int)) (.int .i64 ((depthsn : Nat) : Int))).run Try.prog w_3 = .ok v_11 w_18 ∧ ∃ (t39A_5 : Option Addr) (t39n_5 t39c_5 : Nat), v_11 = (.slice t39A_5 t39n_5 t39c_5) ∧ (∃ (v_12 : Value) (w_19 : World), (Builtin.append_ #[22, 22] 22 #[(.slice (some (newA w_2)) 0 0), (.slice depthsA depthsn depthsc)]).run Try.prog w_18 = .ok v_12 w_19 ∧ ∃ (t33A_4 : Option Addr) (t33n_4 t33c_4 : Nat), v_12 = (.slice t33A_4 t33n_4 t33c_4) ∧ ∃ (v_13 : Value) (w_20 : World), (Instr.makeSlice 53 (.int .i64 ((depthsn : Nat) : Int)) (.int .i64 ((depthsn : Nat) : Int))).run Try.prog w_19 = .ok v_13 w_20 ∧ ∃ (t36A_4 : Option Addr) (t36n_4 t36c_4 : Nat), v_13 = (.slice t36A_4 t36n_4 t36c_4) ∧ letW (w_20.alloc (.cells #[(.slice t33A_4 t33n_4 t33c_4), (.slice t36A_4 t36n_4 t36c_4), (.slice t39A_5 t39n_5 t39c_5)] 56)) fun w_21 => ref21_New.J2 R (newA w_20) 0 w_21) ∧ (∃ (v_14 : Value) (w_22 : World), (Instr.makeSlice 53 (.int .i64 ((depthsn : Nat) : Int)) (.int .i64 ((depthsn : Nat) : Int))).run Try.prog w_18 = .ok v_14 w_22 ∧ ∃ (t36A_5 : Option Addr) (t36n_5 t36c_5 : Nat), v_14 = (.slice t36A_5 t36n_5 t36c_5) ∧ ∃ (v_15 : Value) (w_23 : World), (Builtin.append_ #[22, 22] 22 #[(.slice (some (newA w_2)) 0 0), (.slice depthsA depthsn depthsc)]).run Try.prog w_22 = .ok v_15 w_23 ∧ ∃ (t33A_5 : Option Addr) (t33n_5 t33c_5 : Nat), v_15 = (.slice t33A_5 t33n_5 t33c_5) ∧ letW (w_23.alloc (.cells #[(.slice t33A_5 t33n_5 t33c_5), (.slice t36A_5 t36n_5 t36c_5), (.slice t39A_5 t39n_5 t39c_5)] 56)) fun w_24 => ref21_New.J2 R (newA w_23) 0 w_24))) ∧ (∃ (v_16 : Value) (w_25 : World), (Instr.makeSlice 53 (.int .i64 ((depthsn : Nat) : Int)) (.int .i64 ((depthsn : Nat) : Int))).run Try.prog w_2 = .ok v_16 w_25 ∧ ∃ (t36A_6 : Option Addr) (t36n_6 t36c_6 : Nat), v_16 = (.slice t36A_6 t36n_6 t36c_6) ∧ (letW (w_25.alloc (.cells #[] 3)) fun w_26 => (∃ (v_17 : Value) (w_27 : World), (Builtin.append_ #[22, 22] 22 #[(.slice (some (newA w_25)) 0 0), (.slice depthsA depthsn depthsc)]).run Try.prog w_26 = .ok v_17 w_27 ∧ ∃ (t33A_6 : Option Addr) (t33n_6 t33c_6 : Nat), v_17 = (.slice t33A_6 t33n_6 t33c_6) ∧ ∃ (v_18 : Value) (w_28 : World), (Instr.makeSlice 54 (.int .i64 ((depthsn : Nat) : Int)) (.int .i64 ((depthsn : Nat) : Int))).run Try.prog w_27 = .ok v_18 w_28 ∧ ∃ (t39A_6 : Option Addr) (t39n_6 t39c_6 : Nat), v_18 = (.slice t39A_6 t39n_6 t39c_6) ∧ letW (w_28.alloc (.cells #[(.slice t33A_6 t33n_6 t33c_6), (.slice t36A_6 t36n_6 t36c_6), (.slice t39A_6 t39n_6 t39c_6)] 56)) fun w_29 => ref21_New.J2 R (newA w_28) 0 w_29) ∧ (∃ (v_19 : Value) (w_30 : World), (Instr.makeSlice 54 (.int .i64 ((depthsn : Nat) : Int)) (.int .i64 ((depthsn : Nat) : Int))).run Try.prog w_26 = .ok v_19 w_30 ∧ ∃ (t39A_7 : Option Addr) (t39n_7 t39c_7 : Nat), v_19 = (.slice t39A_7 t39n_7 t39c_7) ∧ ∃ (v_20 : Value) (w_31 : World), (Builtin.append_ #[22, 22] 22 #[(.slice (some (newA w_25)) 0 0), (.slice depthsA depthsn depthsc)]).run Try.prog w_30 = .ok v_20 w_31 ∧ ∃ (t33A_7 : Option Addr) (t33n_7 t33c_7 : Nat), v_20 = (.slice t33A_7 t33n_7 t33c_7) ∧ letW (w_31.alloc (.cells #[(.slice t33A_7 t33n_7 t33c_7), (.slice t36A_6 t36n_6 t36c_6), (.slice t39A_7 t39n_7 t39c_7)] 56)) fun w_32 => ref21_New.J2 R (newA w_31) 0 w_32)) ∧ (∃ (v_21 : Value) (w_33 : World), (Instr.makeSlice 54 (.int .i64 ((depthsn : Nat) : Int)) (.int .i64 ((depthsn : Nat) : Int))).run Try.prog w_25 = .ok v_21 w_33 ∧ ∃ (t39A_8 : Option Addr) (t39n_8 t39c_8 : Nat), v_21 = (.slice t39A_8 t39n_8 t39c_8) ∧ letW (w_33.alloc (.cells #[] 3)) fun w_34 => ∃ (v_22 : Value) (w_35 : World), (Builtin.append_ #[22, 22] 22 #[(.slice (some (newA w_33)) 0 0), (.slice depthsA depthsn depthsc)]).run Try.prog w_34 = .ok v_22 w_35 ∧ ∃ (t33A_8 : Option Addr) (t33n_8 t33c_8 : Nat), v_22 = (.slice t33A_8 t33n_8 t33c_8) ∧ letW (w_35.alloc (.cells #[(.slice t33A_8 t33n_8 t33c_8), (.slice t36A_6 t36n_6 t36c_6), (.slice t39A_8 t39n_8 t39c_8)] 56)) fun w_36 => ref21_New.J2 R (newA w_35) 0 w_36)) ∧ (∃ (v_23 : Value) (w_37 : World), (Instr.makeSlice 54 (.int .i64 ((depthsn : Nat) : Int)) (.int .i64 ((depthsn : Nat) : Int))).run Try.prog w_2 = .ok v_23 w_37 ∧ ∃ (t39A_9 : Option Addr) (t39n_9 t39c_9 : Nat), v_23 = (.slice t39A_9 t39n_9 t39c_9) ∧ (letW (w_37.alloc (.cells #[] 3)) fun w_38 => (∃ (v_24 : Value) (w_39 : World), (Builtin.append_ #[22, 22] 22 #[(.slice (some (newA w_37)) 0 0), (.slice depthsA depthsn depthsc)]).run Try.prog w_38 = .ok v_24 w_39 ∧ ∃ (t33A_9 : Option Addr) (t33n_9 t33c_9 : Nat), v_24 = (.slice t33A_9 t33n_9 t33c_9) ∧ ∃ (v_25 : Value) (w_40 : World), (Instr.makeSlice 53 (.int .i64 ((depthsn : Nat) : Int)) (.int .i64 ((depthsn : Nat) : Int))).run Try.prog w_39 = .ok v_25 w_40 ∧ ∃ (t36A_7 : Option Addr) (t36n_7 t36c_7 : Nat), v_25 = (.slice t36A_7 t36n_7 t36c_7) ∧ letW (w_40.alloc (.cells #[(.slice t33A_9 t33n_9 t33c_9), (.slice t36A_7 t36n_7 t36c_7), (.slice t39A_9 t39n_9 t39c_9)] 56)) fun w_41 => ref21_New.J2 R (newA w_40) 0 w_41) ∧ (∃ (v_26 : Value) (w_42 : World), (Instr.makeSlice 53 (.int .i64 ((depthsn : Nat) : Int)) (.int .i64 ((depthsn : Nat) : Int))).run Try.prog w_38 = .ok v_26 w_42 ∧ ∃ (t36A_8 : Option Addr) (t36n_8 t36c_8 : Nat), v_26 = (.slice t36A_8 t36n_8 t36c_8) ∧ ∃ (v_27 : Value) (w_43 : World), (Builtin.append_ #[22, 22] 22 #[(.slice (some (newA w_37)) 0 0), (.slice depthsA depthsn depthsc)]).run Try.prog w_42 = .ok v_27 w_43 ∧ ∃ (t33A_10 : Option Addr) (t33n_10 t33c_10 : Nat), v_27 = (.slice t33A_10 t33n_10 t33c_10) ∧ letW (w_43.alloc (.cells #[(.slice t33A_10 t33n_10 t33c_10), (.slice t36A_8 t36n_8 t36c_8), (.slice t39A_9 t39n_9 t39c_9)] 56)) fun w_44 => ref21_New.J2 R (newA w_43) 0 w_44)) ∧ (∃ (v_28 : Value) (w_45 : World), (Instr.makeSlice 53 (.int .i64 ((depthsn : Nat) : Int)) (.int .i64 ((depthsn : Nat) : Int))).run Try.prog w_37 = .ok v_28 w_45 ∧ ∃ (t36A_9 : Option Addr) (t36n_9 t36c_9 : Nat), v_28 = (.slice t36A_9 t36n_9 t36c_9) ∧ letW (w_45.alloc (.cells #[] 3)) fun w_46 => ∃ (v_29 : Value) (w_47 : World), (Builtin.append_ #[22, 22] 22 #[(.slice (some (newA w_45)) 0 0), (.slice depthsA depthsn depthsc)]).run Try.prog w_46 = .ok v_29 w_47 ∧ ∃ (t33A_11 : Option Addr) (t33n_11 t33c_11 : Nat), v_29 = (.slice t33A_11 t33n_11 t33c_11) ∧ letW (w_47.alloc (.cells #[(.slice t33A_11 t33n_11 t33c_11), (.slice t36A_9 t36n_9 t36c_9), (.slice t39A_9 t39n_9 t39c_9)] 56)) fun w_48 => ref21_New.J2 R (newA w_47) 0 w_48)))

def ref21_New.J0 (R : Value → World → Prop) (depthsA : Option Addr) (depthsn : Nat) (depthsc : Nat) (t12 : Bool) (w : World) : Prop :=
  ifP t12
    (R (.tuple #[(.pointer none), (.int .i64 210)]) w)
    (ref21_New.L0 R depthsA depthsn depthsc 0 w)

@[reducible] def ref21_New.vc (R : Value → World → Prop) (depthsA : Option Addr) (depthsn : Nat) (depthsc : Nat) (w : World) : Prop :=
  ifP (decide ((((depthsn : Nat) : Int) : Int) < 1)) (ref21_New.J0 R depthsA depthsn depthsc true w) (ref21_New.J0 R depthsA depthsn depthsc (decide ((((depthsn : Nat) : Int) : Int) > 17)) w)

theorem ref21_New.B0_eq (R : Value → World → Prop) (depthsA : Option Addr) (depthsn : Nat) (depthsc : Nat) (i : Int) (w : World) (ts : Nat → Value) :
    code Try.prog none ref21_New.live 0 ref21_New.c0 (thenK (fun st w => loopVC (fun K => code Try.prog none ref21_New.live 0 ref21_New.c0 K) (ref21_New.live 0) (ref21_New.K0 R) (clearFrom (ref21_New.live 0) 0 st) w) (ref21_New.K0 R)) (mergeFrom (ref21_New.live 0) ts 0 (clearFrom (ref21_New.live 0) 0 [(.slice depthsA depthsn depthsc), undef, undef, undef, (.int .i64 i), undef, undef, undef, undef, undef, undef, undef, undef, undef, undef, undef, undef, undef, undef, undef, undef, undef, undef, undef, undef, undef, undef, undef, undef, undef, undef, undef, undef, undef, undef, undef, undef, undef, undef, undef, undef, undef])) w = ref21_New.B0 R depthsA depthsn depthsc i w := by kernel_rfl
theorem ref21_New.L0_step {R : Value → World → Prop} {depthsA : Option Addr} {depthsn : Nat} {depthsc : Nat} {i : Int} {w : World} (h : ref21_New.B0 R depthsA depthsn depthsc i w) : ref21_New.L0 R depthsA depthsn depthsc i w :=
  loop_step (live := ref21_New.live) (b := 0) (x := ref21_New.c0) fun ts => Eq.mpr (ref21_New.B0_eq R depthsA depthsn depthsc i w ts) h
theorem ref21_New.eq (R : Value → World → Prop) (depthsA : Option Addr) (depthsn : Nat) (depthsc : Nat) (w : World) : fnVC Try.prog none ref21_New.live Try.f7 R [(.slice depthsA depthsn depthsc)] w = ref21_New.vc R depthsA depthsn depthsc w := by kernel_rfl
set_option maxHeartbeats 4000000 in
theorem ref21_New.ok {R : Value → World → Prop} {depthsA : Option Addr} {depthsn : Nat} {depthsc : Nat} {w : World} (h : ref21_New.vc R depthsA depthsn depthsc w) : Run Try.prog 7 #[(.slice depthsA depthsn depthsc)] w R := by
  have h2 := Eq.mpr (ref21_New.eq R depthsA depthsn depthsc w) h
  exact fn_sound Try.mixed Try.func7 (by kernel_rfl) h2

/-! ### riddle/riddlelaw0.CopyInts: function 12 -/
noncomputable def law0_CopyInts.body : Code := bodyOf Try.f12
def law0_CopyInts.live : Nat → List Nat
  | _ => []
@[reducible] def law0_CopyInts.vc (R : Value → World → Prop) (aA : Option Addr) (an : Nat) (ac : Nat) (w : World) : Prop :=
  letW (w.alloc (.cells #[] 3)) fun w_2 => ∃ (v : Value) (w_3 : World), (Builtin.append_ #[22, 22] 22 #[(.slice (some (newA w)) 0 0), (.slice aA an ac)]).run Try.prog w_2 = .ok v w_3 ∧ ∃ (t5A : Option Addr) (t5n t5c : Nat), v = (.slice t5A t5n t5c) ∧ R (.slice t5A t5n t5c) w_3

theorem law0_CopyInts.eq (R : Value → World → Prop) (aA : Option Addr) (an : Nat) (ac : Nat) (w : World) : fnVC Try.prog none law0_CopyInts.live Try.f12 R [(.slice aA an ac)] w = law0_CopyInts.vc R aA an ac w := by kernel_rfl
set_option maxHeartbeats 4000000 in
theorem law0_CopyInts.ok {R : Value → World → Prop} {aA : Option Addr} {an : Nat} {ac : Nat} {w : World} (h : law0_CopyInts.vc R aA an ac w) : Run Try.prog 12 #[(.slice aA an ac)] w R := by
  have h2 := Eq.mpr (law0_CopyInts.eq R aA an ac w) h
  exact fn_sound Try.mixed Try.func12 (by kernel_rfl) h2

/-! ### riddle/riddlelaw0.LendInts: function 8 -/
noncomputable def law0_LendInts.body : Code := bodyOf Try.f8
def law0_LendInts.live : Nat → List Nat
  | _ => []
@[reducible] def law0_LendInts.vc (R : Value → World → Prop) (aA : Option Addr) (an : Nat) (ac : Nat) (w : World) : Prop :=
  Run Try.prog 12 #[(.slice aA an ac)] w fun v w_2 => ∃ (t5A : Option Addr) (t5n t5c : Nat), v = (.slice t5A t5n t5c) ∧ letW (w_2.alloc (.cells #[(.int .i64 (-77)), (.int .i64 (-77)), (.int .i64 (-77))] 3)) fun w_3 => ∃ (v_2 : Value) (w_4 : World), (Builtin.append_ #[22, 22] 22 #[(.slice t5A t5n t5c), (.slice (some (newA w_2)) 3 3)]).run Try.prog w_3 = .ok v_2 w_4 ∧ ∃ (t7A : Option Addr) (t7n t7c : Nat), v_2 = (.slice t7A t7n t7c) ∧ (0 : Int) ≤ 0 ∧ (0 : Int) ≤ ((an : Nat) : Int) ∧ (((an : Nat) : Int) : Int) ≤ ((t7c : Nat) : Int) ∧ R (.slice (subA t7A t7c 0 1) ((Int.toNat ((an : Nat) : Int)) - 0) (t7c - 0)) w_4

theorem law0_LendInts.eq (R : Value → World → Prop) (aA : Option Addr) (an : Nat) (ac : Nat) (w : World) : fnVC Try.prog none law0_LendInts.live Try.f8 R [(.slice aA an ac)] w = law0_LendInts.vc R aA an ac w := by kernel_rfl
set_option maxHeartbeats 4000000 in
theorem law0_LendInts.ok {R : Value → World → Prop} {aA : Option Addr} {an : Nat} {ac : Nat} {w : World} (h : law0_LendInts.vc R aA an ac w) : Run Try.prog 8 #[(.slice aA an ac)] w R := by
  have h2 := Eq.mpr (law0_LendInts.eq R aA an ac w) h
  exact fn_sound Try.mixed Try.func8 (by kernel_rfl) h2

/-! ### riddle/queue.New: function 9 -/
noncomputable def queue_New.body : Code := bodyOf Try.f9
def queue_New.live : Nat → List Nat
  | 0 => [4, 17, 18, 19]
  | _ => []
noncomputable def queue_New.c0 : Code := sub queue_New.body [1, 1, 1, 0, 1, 0, 0]
def queue_New.K0 (R : Value → World → Prop) : Ex → St → World → Prop := (blockK 0 (thenK (fun st w => code Try.prog none queue_New.live 0 (sub queue_New.body [1, 1, 1, 1]) (retK Try.prog Try.f9 R) st w) (retK Try.prog Try.f9 R)))
def queue_New.L0 (R : Value → World → Prop) (q : Addr) (t17A : Option Addr) (t17n : Nat) (t17c : Nat) (t18 : Int) (t19 : Int) (w : World) : Prop :=
  loopVC (fun K => code Try.prog none queue_New.live 0 queue_New.c0 K) (queue_New.live 0) (queue_New.K0 R) [undef, undef, undef, undef, (.pointer (some q)), undef, undef, undef, undef, undef, undef, undef, undef, undef, undef, undef, undef, (.slice t17A t17n t17c), (.int .i64 t18), (.int .i64 t19), undef, undef, undef, undef, undef, undef, undef, undef, undef, undef, undef, undef, undef, undef, undef, undef, undef, undef, undef, undef, undef, undef, undef] w
def queue_New.J1 (R : Value → World → Prop) (q : Addr) (d : Int) (t17A : Option Addr) (t17n : Nat) (t17c : Nat) (t18 : Int) (t19 : Int) (t28 : Bool) (w : World) : Prop :=
  ifP t28
    (R (.tuple #[(.pointer none), (.int .i64 210)]) w)
    (∃ t31p : Addr, some q = some t31p ∧ ∃ (t33A : Option Addr) (t33n t33c : Nat), w.cell? t31p = some (.slice t33A t33n t33c) ∧ letW (w.alloc (.cells #[(.int .u32 0), (.int .i64 d), (.slice none 0 0)] 65)) fun w_2 => letW (w_2.alloc (.cells #[(.pointer (some (newA w)))] 60)) fun w_3 => ∃ (v : Value) (w_4 : World), (Builtin.append_ #[57, 57] 57 #[(.slice t33A t33n t33c), (.slice (some (newA w_2)) 1 1)]).run Try.prog w_3 = .ok v w_4 ∧ ∃ (t38A : Option Addr) (t38n t38c : Nat), v = (.slice t38A t38n t38c) ∧ ∃ t39p : Addr, some q = some t39p ∧ (∃ u : Value, w_4.cell? t39p = some u) ∧ w_4.frozen? t39p = false ∧ letW (w_4.setCell t39p (.slice t38A t38n t38c)) fun w_5 => queue_New.L0 R q t17A t17n t17c t18 (IntKind.i64.wrap (t19 + 1)) w_5)

@[reducible] def queue_New.B0 (R : Value → World → Prop) (q : Addr) (t17A : Option Addr) (t17n : Nat) (t17c : Nat) (t18 : Int) (t19 : Int) (w : World) : Prop :=
  ifP (decide ((t19 : Int) < t18))
    (0 ≤ (t19 : Int) ∧ (t19 : Int) < ((t17n : Nat) : Int) ∧ ∃ t21p : Addr, t17A = some t21p ∧ ∃ t22 : Int, w.cell? (t21p.add (Int.toNat t19 * 1)) = some (.int .i64 t22) ∧ ifP (decide ((t22 : Int) < 1)) (queue_New.J1 R q t22 t17A t17n t17c t18 t19 true w) (queue_New.J1 R q t22 t17A t17n t17c t18 t19 (decide ((t22 : Int) > 1024)) w))
    (R (.tuple #[(.pointer (some q)), (.int .i64 0)]) w)

def queue_New.J0 (R : Value → World → Prop) (depthsA : Option Addr) (depthsn : Nat) (depthsc : Nat) (t14 : Bool) (w : World) : Prop :=
  ifP t14
    (R (.tuple #[(.pointer none), (.int .i64 210)]) w)
    (letW (w.alloc (.cells #[(.slice none 0 0)] 59)) fun w_2 => queue_New.L0 R (newA w) depthsA depthsn depthsc ((depthsn : Nat) : Int) 0 w_2)

@[reducible] def queue_New.vc (R : Value → World → Prop) (depthsA : Option Addr) (depthsn : Nat) (depthsc : Nat) (w : World) : Prop :=
  ifP ((((depthsn : Nat) : Int) : Int) == 0) (queue_New.J0 R depthsA depthsn depthsc true w) (queue_New.J0 R depthsA depthsn depthsc (decide ((((depthsn : Nat) : Int) : Int) > 17)) w)

theorem queue_New.B0_eq (R : Value → World → Prop) (q : Addr) (t17A : Option Addr) (t17n : Nat) (t17c : Nat) (t18 : Int) (t19 : Int) (w : World) (ts : Nat → Value) :
    code Try.prog none queue_New.live 0 queue_New.c0 (thenK (fun st w => loopVC (fun K => code Try.prog none queue_New.live 0 queue_New.c0 K) (queue_New.live 0) (queue_New.K0 R) (clearFrom (queue_New.live 0) 0 st) w) (queue_New.K0 R)) (mergeFrom (queue_New.live 0) ts 0 (clearFrom (queue_New.live 0) 0 [undef, undef, undef, undef, (.pointer (some q)), undef, undef, undef, undef, undef, undef, undef, undef, undef, undef, undef, undef, (.slice t17A t17n t17c), (.int .i64 t18), (.int .i64 t19), undef, undef, undef, undef, undef, undef, undef, undef, undef, undef, undef, undef, undef, undef, undef, undef, undef, undef, undef, undef, undef, undef, undef])) w = queue_New.B0 R q t17A t17n t17c t18 t19 w := by kernel_rfl
theorem queue_New.L0_step {R : Value → World → Prop} {q : Addr} {t17A : Option Addr} {t17n : Nat} {t17c : Nat} {t18 : Int} {t19 : Int} {w : World} (h : queue_New.B0 R q t17A t17n t17c t18 t19 w) : queue_New.L0 R q t17A t17n t17c t18 t19 w :=
  loop_step (live := queue_New.live) (b := 0) (x := queue_New.c0) fun ts => Eq.mpr (queue_New.B0_eq R q t17A t17n t17c t18 t19 w ts) h
theorem queue_New.eq (R : Value → World → Prop) (depthsA : Option Addr) (depthsn : Nat) (depthsc : Nat) (w : World) : fnVC Try.prog none queue_New.live Try.f9 R [(.slice depthsA depthsn depthsc)] w = queue_New.vc R depthsA depthsn depthsc w := by kernel_rfl
set_option maxHeartbeats 4000000 in
theorem queue_New.ok {R : Value → World → Prop} {depthsA : Option Addr} {depthsn : Nat} {depthsc : Nat} {w : World} (h : queue_New.vc R depthsA depthsn depthsc w) : Run Try.prog 9 #[(.slice depthsA depthsn depthsc)] w R := by
  have h2 := Eq.mpr (queue_New.eq R depthsA depthsn depthsc w) h
  exact fn_sound Try.mixed Try.func9 (by kernel_rfl) h2

/-! ### riddle/riddlelaw0.SameInts: function 20 -/
noncomputable def law0_SameInts.body : Code := bodyOf Try.f20
def law0_SameInts.live : Nat → List Nat
  | 0 => [0, 1, 5]
  | _ => []
noncomputable def law0_SameInts.c0 : Code := sub law0_SameInts.body [1, 1, 0, 1, 0, 0]
def law0_SameInts.K0 (R : Value → World → Prop) : Ex → St → World → Prop := (blockK 0 (thenK (fun st w => code Try.prog none law0_SameInts.live 0 (sub law0_SameInts.body [1, 1, 1]) (retK Try.prog Try.f20 R) st w) (retK Try.prog Try.f20 R)))
def law0_SameInts.L0 (R : Value → World → Prop) (aA : Option Addr) (an : Nat) (ac : Nat) (bA : Option Addr) (bn : Nat) (bc : Nat) (i : Int) (w : World) : Prop :=
  loopVC (fun K => code Try.prog none law0_SameInts.live 0 law0_SameInts.c0 K) (law0_SameInts.live 0) (law0_SameInts.K0 R) [(.slice aA an ac), (.slice bA bn bc), undef, undef, undef, (.int .i64 i), undef, undef, undef, undef, undef, undef, undef, undef, undef, undef, undef, undef, undef, undef, undef, undef, undef, undef, undef, undef] w
@[reducible] def law0_SameInts.B0 (R : Value → World → Prop) (aA : Option Addr) (an : Nat) (ac : Nat) (bA : Option Addr) (bn : Nat) (bc : Nat) (i : Int) (w : World) : Prop :=
  ifP (decide ((i : Int) < ((an : Nat) : Int)))
    (letW w.drew fun w_2 => 0 ≤ (i : Int) ∧ (i : Int) < ((an : Nat) : Int) ∧ ∃ t19p : Addr, aA = some t19p ∧ ∃ t20 : Int, w_2.cell? (t19p.add (Int.toNat i * 1)) = some (.int .i64 t20) ∧ 0 ≤ (i : Int) ∧ (i : Int) < ((bn : Nat) : Int) ∧ ∃ t23p : Addr, bA = some t23p ∧ ∃ t24 : Int, w_2.cell? (t23p.add (Int.toNat i * 1)) = some (.int .i64 t24) ∧ ifP ((t20 : Int) != t24)
    (R (.bool false) w_2)
    (law0_SameInts.L0 R aA an ac bA bn bc (IntKind.i64.wrap (i + 1)) w_2))
    (R (.bool true) w)

@[reducible] def law0_SameInts.vc (R : Value → World → Prop) (aA : Option Addr) (an : Nat) (ac : Nat) (bA : Option Addr) (bn : Nat) (bc : Nat) (w : World) : Prop :=
  ifP ((((an : Nat) : Int) : Int) != ((bn : Nat) : Int))
    (R (.bool false) w)
    (law0_SameInts.L0 R aA an ac bA bn bc 0 w)

theorem law0_SameInts.B0_eq (R : Value → World → Prop) (aA : Option Addr) (an : Nat) (ac : Nat) (bA : Option Addr) (bn : Nat) (bc : Nat) (i : Int) (w : World) (ts : Nat → Value) :
    code Try.prog none law0_SameInts.live 0 law0_SameInts.c0 (thenK (fun st w => loopVC (fun K => code Try.prog none law0_SameInts.live 0 law0_SameInts.c0 K) (law0_SameInts.live 0) (law0_SameInts.K0 R) (clearFrom (law0_SameInts.live 0) 0 st) w) (law0_SameInts.K0 R)) (mergeFrom (law0_SameInts.live 0) ts 0 (clearFrom (law0_SameInts.live 0) 0 [(.slice aA an ac), (.slice bA bn bc), undef, undef, undef, (.int .i64 i), undef, undef, undef, undef, undef, undef, undef, undef, undef, undef, undef, undef, undef, undef, undef, undef, undef, undef, undef, undef])) w = law0_SameInts.B0 R aA an ac bA bn bc i w := by kernel_rfl
theorem law0_SameInts.L0_step {R : Value → World → Prop} {aA : Option Addr} {an : Nat} {ac : Nat} {bA : Option Addr} {bn : Nat} {bc : Nat} {i : Int} {w : World} (h : law0_SameInts.B0 R aA an ac bA bn bc i w) : law0_SameInts.L0 R aA an ac bA bn bc i w :=
  loop_step (live := law0_SameInts.live) (b := 0) (x := law0_SameInts.c0) fun ts => Eq.mpr (law0_SameInts.B0_eq R aA an ac bA bn bc i w ts) h
theorem law0_SameInts.eq (R : Value → World → Prop) (aA : Option Addr) (an : Nat) (ac : Nat) (bA : Option Addr) (bn : Nat) (bc : Nat) (w : World) : fnVC Try.prog none law0_SameInts.live Try.f20 R [(.slice aA an ac), (.slice bA bn bc)] w = law0_SameInts.vc R aA an ac bA bn bc w := by kernel_rfl
set_option maxHeartbeats 4000000 in
theorem law0_SameInts.ok {R : Value → World → Prop} {aA : Option Addr} {an : Nat} {ac : Nat} {bA : Option Addr} {bn : Nat} {bc : Nat} {w : World} (h : law0_SameInts.vc R aA an ac bA bn bc w) : Run Try.prog 20 #[(.slice aA an ac), (.slice bA bn bc)] w R := by
  have h2 := Eq.mpr (law0_SameInts.eq R aA an ac bA bn bc w) h
  exact fn_sound Try.mixed Try.func20 (by kernel_rfl) h2

/-! ### riddle/riddlelaw0.SpoilInts: function 22 -/
noncomputable def law0_SpoilInts.body : Code := bodyOf Try.f22
def law0_SpoilInts.live : Nat → List Nat
  | 0 => [0, 2, 3]
  | 2 => [0, 4]
  | _ => []
noncomputable def law0_SpoilInts.c0 : Code := sub law0_SpoilInts.body [1, 0, 1, 0, 0]
noncomputable def law0_SpoilInts.c2 : Code := sub law0_SpoilInts.body [1, 1, 1, 0, 0]
def law0_SpoilInts.K0 (R : Value → World → Prop) : Ex → St → World → Prop := (blockK 0 (thenK (fun st w => code Try.prog none law0_SpoilInts.live 0 (sub law0_SpoilInts.body [1, 1]) (retK Try.prog Try.f22 R) st w) (retK Try.prog Try.f22 R)))
def law0_SpoilInts.L0 (R : Value → World → Prop) (aA : Option Addr) (an : Nat) (ac : Nat) (fullA : Option Addr) (fulln : Nat) (fullc : Nat) (i : Int) (w : World) : Prop :=
  loopVC (fun K => code Try.prog none law0_SpoilInts.live 0 law0_SpoilInts.c0 K) (law0_SpoilInts.live 0) (law0_SpoilInts.K0 R) [(.slice aA an ac), undef, (.slice fullA fulln fullc), (.int .i64 i), undef, undef, undef, undef, undef, undef, undef, undef, undef, undef, undef, undef, undef, undef, undef, undef, undef, undef, undef, undef, undef, undef] w
def law0_SpoilInts.K2 (R : Value → World → Prop) : Ex → St → World → Prop := (blockK 2 (retK Try.prog Try.f22 R))
def law0_SpoilInts.L2 (R : Value → World → Prop) (aA : Option Addr) (an : Nat) (ac : Nat) (i : Int) (w : World) : Prop :=
  loopVC (fun K => code Try.prog none law0_SpoilInts.live 2 law0_SpoilInts.c2 K) (law0_SpoilInts.live 2) (law0_SpoilInts.K2 R) [(.slice aA an ac), undef, undef, undef, (.int .i64 i), undef, undef, undef, undef, undef, undef, undef, undef, undef, undef, undef, undef, undef, undef, undef, undef, undef, undef, undef, undef, undef] w
@[reducible] def law0_SpoilInts.B2 (R : Value → World → Prop) (aA : Option Addr) (an : Nat) (ac : Nat) (i : Int) (w : World) : Prop :=
  ifP (decide ((i : Int) < ((an : Nat) : Int)))
    (0 ≤ (i : Int) ∧ (i : Int) < ((an : Nat) : Int) ∧ ∃ t25p : Addr, aA = some t25p ∧ (∃ u : Value, w.cell? (t25p.add (Int.toNat i * 1)) = some u) ∧ w.frozen? (t25p.add (Int.toNat i * 1)) = false ∧ letW (w.setCell (t25p.add (Int.toNat i * 1)) (.int .i64 (-77))) fun w_2 => law0_SpoilInts.L2 R aA an ac (IntKind.i64.wrap (i + 1)) w_2)
    (R (.tuple #[]) w)

@[reducible] def law0_SpoilInts.B0 (R : Value → World → Prop) (aA : Option Addr) (an : Nat) (ac : Nat) (fullA : Option Addr) (fulln : Nat) (fullc : Nat) (i : Int) (w : World) : Prop :=
  ifP (decide ((i : Int) < ((fulln : Nat) : Int)))
    (0 ≤ (i : Int) ∧ (i : Int) < ((fulln : Nat) : Int) ∧ ∃ t16p : Addr, fullA = some t16p ∧ (∃ u : Value, w.cell? (t16p.add (Int.toNat i * 1)) = some u) ∧ w.frozen? (t16p.add (Int.toNat i * 1)) = false ∧ letW (w.setCell (t16p.add (Int.toNat i * 1)) (.int .i64 (-77))) fun w_2 => law0_SpoilInts.L0 R aA an ac fullA fulln fullc (IntKind.i64.wrap (i + 1)) w_2)
    (law0_SpoilInts.L2 R aA an ac 0 w)

@[reducible] def law0_SpoilInts.vc (R : Value → World → Prop) (aA : Option Addr) (an : Nat) (ac : Nat) (w : World) : Prop :=
  letW (w.alloc (.cells #[(.int .i64 (-77))] 3)) fun w_2 => ∃ (v : Value) (w_3 : World), (Builtin.append_ #[22, 22] 22 #[(.slice aA an ac), (.slice (some (newA w)) 1 1)]).run Try.prog w_2 = .ok v w_3 ∧ ∃ (t7A : Option Addr) (t7n t7c : Nat), v = (.slice t7A t7n t7c) ∧ law0_SpoilInts.L0 R aA an ac t7A t7n t7c 0 w_3

theorem law0_SpoilInts.B0_eq (R : Value → World → Prop) (aA : Option Addr) (an : Nat) (ac : Nat) (fullA : Option Addr) (fulln : Nat) (fullc : Nat) (i : Int) (w : World) (ts : Nat → Value) :
    code Try.prog none law0_SpoilInts.live 0 law0_SpoilInts.c0 (thenK (fun st w => loopVC (fun K => code Try.prog none law0_SpoilInts.live 0 law0_SpoilInts.c0 K) (law0_SpoilInts.live 0) (law0_SpoilInts.K0 R) (clearFrom (law0_SpoilInts.live 0) 0 st) w) (law0_SpoilInts.K0 R)) (mergeFrom (law0_SpoilInts.live 0) ts 0 (clearFrom (law0_SpoilInts.live 0) 0 [(.slice aA an ac), undef, (.slice fullA fulln fullc), (.int .i64 i), undef, undef, undef, undef, undef, undef, undef, undef, undef, undef, undef, undef, undef, undef, undef, undef, undef, undef, undef, undef, undef, undef])) w = law0_SpoilInts.B0 R aA an ac fullA fulln fullc i w := by kernel_rfl
theorem law0_SpoilInts.L0_step {R : Value → World → Prop} {aA : Option Addr} {an : Nat} {ac : Nat} {fullA : Option Addr} {fulln : Nat} {fullc : Nat} {i : Int} {w : World} (h : law0_SpoilInts.B0 R aA an ac fullA fulln fullc i w) : law0_SpoilInts.L0 R aA an ac fullA fulln fullc i w :=
  loop_step (live := law0_SpoilInts.live) (b := 0) (x := law0_SpoilInts.c0) fun ts => Eq.mpr (law0_SpoilInts.B0_eq R aA an ac fullA fulln fullc i w ts) h
theorem law0_SpoilInts.B2_eq (R : Value → World → Prop) (aA : Option Addr) (an : Nat) (ac : Nat) (i : Int) (w : World) (ts : Nat → Value) :
    code Try.prog none law0_SpoilInts.live 2 law0_SpoilInts.c2 (thenK (fun st w => loopVC (fun K => code Try.prog none law0_SpoilInts.live 2 law0_SpoilInts.c2 K) (law0_SpoilInts.live 2) (law0_SpoilInts.K2 R) (clearFrom (law0_SpoilInts.live 2) 0 st) w) (law0_SpoilInts.K2 R)) (mergeFrom (law0_SpoilInts.live 2) ts 0 (clearFrom (law0_SpoilInts.live 2) 0 [(.slice aA an ac), undef, undef, undef, (.int .i64 i), undef, undef, undef, undef, undef, undef, undef, undef, undef, undef, undef, undef, undef, undef, undef, undef, undef, undef, undef, undef, undef])) w = law0_SpoilInts.B2 R aA an ac i w := by kernel_rfl
theorem law0_SpoilInts.L2_step {R : Value → World → Prop} {aA : Option Addr} {an : Nat} {ac : Nat} {i : Int} {w : World} (h : law0_SpoilInts.B2 R aA an ac i w) : law0_SpoilInts.L2 R aA an ac i w :=
  loop_step (live := law0_SpoilInts.live) (b := 2) (x := law0_SpoilInts.c2) fun ts => Eq.mpr (law0_SpoilInts.B2_eq R aA an ac i w ts) h
theorem law0_SpoilInts.eq (R : Value → World → Prop) (aA : Option Addr) (an : Nat) (ac : Nat) (w : World) : fnVC Try.prog none law0_SpoilInts.live Try.f22 R [(.slice aA an ac)] w = law0_SpoilInts.vc R aA an ac w := by kernel_rfl
set_option maxHeartbeats 4000000 in
theorem law0_SpoilInts.ok {R : Value → World → Prop} {aA : Option Addr} {an : Nat} {ac : Nat} {w : World} (h : law0_SpoilInts.vc R aA an ac w) : Run Try.prog 22 #[(.slice aA an ac)] w R := by
  have h2 := Eq.mpr (law0_SpoilInts.eq R aA an ac w) h
  exact fn_sound Try.mixed Try.func22 (by kernel_rfl) h2

/-! ### riddle/riddlelaw0.KeptInts: function 10 -/
noncomputable def law0_KeptInts.body : Code := bodyOf Try.f10
def law0_KeptInts.live : Nat → List Nat
  | _ => []
def law0_KeptInts.J0 (R : Value → World → Prop) (fullA : Option Addr) (fulln : Nat) (fullc : Nat) (ok_ : Bool) (w : World) : Prop :=
  Run Try.prog 22 #[(.slice fullA fulln fullc)] w fun v w_2 => v = (.tuple #[]) ∧ R (.bool ok_) w_2

@[reducible] def law0_KeptInts.vc (R : Value → World → Prop) (lentA : Option Addr) (lentn : Nat) (lentc : Nat) (aA : Option Addr) (an : Nat) (ac : Nat) (w : World) : Prop :=
  (0 : Int) ≤ 0 ∧ (0 : Int) ≤ IntKind.i64.wrap (((lentn : Nat) : Int) + 3) ∧ (IntKind.i64.wrap (((lentn : Nat) : Int) + 3) : Int) ≤ ((lentc : Nat) : Int) ∧ Run Try.prog 20 #[(.slice lentA lentn lentc), (.slice aA an ac)] w fun v w_2 => ∃ t14 : Bool, v = (.bool t14) ∧ ifP t14 ((0 : Int) ≤ ((an : Nat) : Int) ∧ (((an : Nat) : Int) : Int) ≤ (((Int.toNat (IntKind.i64.wrap (((lentn : Nat) : Int) + 3))) - 0 : Nat) : Int) ∧ ((((Int.toNat (IntKind.i64.wrap (((lentn : Nat) : Int) + 3))) - 0 : Nat) : Int) : Int) ≤ ((lentc - 0 : Nat) : Int) ∧ letW (w_2.alloc (.cells #[(.int .i64 (-77)), (.int .i64 (-77)), (.int .i64 (-77))] 3)) fun w_3 => Run Try.prog 20 #[(.slice (subA (subA lentA lentc 0 1) (lentc - 0) (Int.toNat ((an : Nat) : Int)) 1) (((Int.toNat (IntKind.i64.wrap (((lentn : Nat) : Int) + 3))) - 0) - (Int.toNat ((an : Nat) : Int))) ((lentc - 0) - (Int.toNat ((an : Nat) : Int)))), (.slice (some (newA w_2)) 3 3)] w_3 fun v_2 w_4 => ∃ t21 : Bool, v_2 = (.bool t21) ∧ law0_KeptInts.J0 R (subA lentA lentc 0 1) ((Int.toNat (IntKind.i64.wrap (((lentn : Nat) : Int) + 3))) - 0) (lentc - 0) t21 w_4) (law0_KeptInts.J0 R (subA lentA lentc 0 1) ((Int.toNat (IntKind.i64.wrap (((lentn : Nat) : Int) + 3))) - 0) (lentc - 0) false w_2)

theorem law0_KeptInts.eq (R : Value → World → Prop) (lentA : Option Addr) (lentn : Nat) (lentc : Nat) (aA : Option Addr) (an : Nat) (ac : Nat) (w : World) : fnVC Try.prog none law0_KeptInts.live Try.f10 R [(.slice lentA lentn lentc), (.slice aA an ac)] w = law0_KeptInts.vc R lentA lentn lentc aA an ac w := by kernel_rfl
set_option maxHeartbeats 4000000 in
theorem law0_KeptInts.ok {R : Value → World → Prop} {lentA : Option Addr} {lentn : Nat} {lentc : Nat} {aA : Option Addr} {an : Nat} {ac : Nat} {w : World} (h : law0_KeptInts.vc R lentA lentn lentc aA an ac w) : Run Try.prog 10 #[(.slice lentA lentn lentc), (.slice aA an ac)] w R := by
  have h2 := Eq.mpr (law0_KeptInts.eq R lentA lentn lentc aA an ac w) h
  exact fn_sound Try.mixed Try.func10 (by kernel_rfl) h2

/-! ### riddle/word.upTo: function 41 -/
noncomputable def word_upTo.body : Code := bodyOf Try.f41
def word_upTo.live : Nat → List Nat
  | 0 => [0, 5, 8, 9, 10]
  | _ => []
noncomputable def word_upTo.c0 : Code := sub word_upTo.body [1, 1, 0, 1, 0, 0]
def word_upTo.K0 (R : Value → World → Prop) : Ex → St → World → Prop := (blockK 0 (thenK (fun st w => code Try.prog none word_upTo.live 0 (sub word_upTo.body [1, 1, 1]) (retK Try.prog Try.f41 R) st w) (retK Try.prog Try.f41 R)))
def word_upTo.L0 (R : Value → World → Prop) (most : Int) (s : Int) (t8A : Option Addr) (t8n : Nat) (t8c : Nat) (t9 : Int) (t10 : Int) (w : World) : Prop :=
  loopVC (fun K => code Try.prog none word_upTo.live 0 word_upTo.c0 K) (word_upTo.live 0) (word_upTo.K0 R) [(.int .u64 most), undef, undef, undef, undef, (.int .u64 s), undef, undef, (.slice t8A t8n t8c), (.int .i64 t9), (.int .i64 t10), undef, undef, undef, undef, undef, undef, undef, undef, undef, undef, undef, undef] w
@[reducible] def word_upTo.B0 (R : Value → World → Prop) (most : Int) (s : Int) (t8A : Option Addr) (t8n : Nat) (t8c : Nat) (t9 : Int) (t10 : Int) (w : World) : Prop :=
  ifP (decide ((t10 : Int) < t9))
    (0 ≤ (t10 : Int) ∧ (t10 : Int) < ((t8n : Nat) : Int) ∧ ∃ t12p : Addr, t8A = some t12p ∧ ∃ t13 : Int, w.cell? (t12p.add (Int.toNat t10 * 1)) = some (.int .u32 t13) ∧ word_upTo.L0 R most (minI (IntKind.u64.wrap (s + (IntKind.u64.wrap t13))) most) t8A t8n t8c t9 (IntKind.i64.wrap (t10 + 1)) w)
    (R (.int .u32 (IntKind.u32.wrap s)) w)

@[reducible] def word_upTo.vc (R : Value → World → Prop) (most : Int) (xsA : Option Addr) (xsn : Nat) (xsc : Nat) (w : World) : Prop :=
  word_upTo.L0 R most 0 xsA xsn xsc ((xsn : Nat) : Int) 0 w

theorem word_upTo.B0_eq (R : Value → World → Prop) (most : Int) (s : Int) (t8A : Option Addr) (t8n : Nat) (t8c : Nat) (t9 : Int) (t10 : Int) (w : World) (ts : Nat → Value) :
    code Try.prog none word_upTo.live 0 word_upTo.c0 (thenK (fun st w => loopVC (fun K => code Try.prog none word_upTo.live 0 word_upTo.c0 K) (word_upTo.live 0) (word_upTo.K0 R) (clearFrom (word_upTo.live 0) 0 st) w) (word_upTo.K0 R)) (mergeFrom (word_upTo.live 0) ts 0 (clearFrom (word_upTo.live 0) 0 [(.int .u64 most), undef, undef, undef, undef, (.int .u64 s), undef, undef, (.slice t8A t8n t8c), (.int .i64 t9), (.int .i64 t10), undef, undef, undef, undef, undef, undef, undef, undef, undef, undef, undef, undef])) w = word_upTo.B0 R most s t8A t8n t8c t9 t10 w := by kernel_rfl
theorem word_upTo.L0_step {R : Value → World → Prop} {most : Int} {s : Int} {t8A : Option Addr} {t8n : Nat} {t8c : Nat} {t9 : Int} {t10 : Int} {w : World} (h : word_upTo.B0 R most s t8A t8n t8c t9 t10 w) : word_upTo.L0 R most s t8A t8n t8c t9 t10 w :=
  loop_step (live := word_upTo.live) (b := 0) (x := word_upTo.c0) fun ts => Eq.mpr (word_upTo.B0_eq R most s t8A t8n t8c t9 t10 w ts) h
theorem word_upTo.eq (R : Value → World → Prop) (most : Int) (xsA : Option Addr) (xsn : Nat) (xsc : Nat) (w : World) : fnVC Try.prog none word_upTo.live Try.f41 R [(.int .u64 most), (.slice xsA xsn xsc)] w = word_upTo.vc R most xsA xsn xsc w := by kernel_rfl
set_option maxHeartbeats 4000000 in
theorem word_upTo.ok {R : Value → World → Prop} {most : Int} {xsA : Option Addr} {xsn : Nat} {xsc : Nat} {w : World} (h : word_upTo.vc R most xsA xsn xsc w) : Run Try.prog 41 #[(.int .u64 most), (.slice xsA xsn xsc)] w R := by
  have h2 := Eq.mpr (word_upTo.eq R most xsA xsn xsc w) h
  exact fn_sound Try.mixed Try.func41 (by kernel_rfl) h2

/-! ### riddle/word.Sum: function 40 -/
noncomputable def word_Sum.body : Code := bodyOf Try.f40
def word_Sum.live : Nat → List Nat
  | _ => []
@[reducible] def word_Sum.vc (R : Value → World → Prop) (xsA : Option Addr) (xsn : Nat) (xsc : Nat) (w : World) : Prop :=
  Run Try.prog 41 #[(.int .u64 4294967295), (.slice xsA xsn xsc)] w fun v w_2 => ∃ t4 : Int, v = (.int .u32 t4) ∧ R (.int .u32 t4) w_2

theorem word_Sum.eq (R : Value → World → Prop) (xsA : Option Addr) (xsn : Nat) (xsc : Nat) (w : World) : fnVC Try.prog none word_Sum.live Try.f40 R [(.slice xsA xsn xsc)] w = word_Sum.vc R xsA xsn xsc w := by kernel_rfl
set_option maxHeartbeats 4000000 in
theorem word_Sum.ok {R : Value → World → Prop} {xsA : Option Addr} {xsn : Nat} {xsc : Nat} {w : World} (h : word_Sum.vc R xsA xsn xsc w) : Run Try.prog 40 #[(.slice xsA xsn xsc)] w R := by
  have h2 := Eq.mpr (word_Sum.eq R xsA xsn xsc w) h
  exact fn_sound Try.mixed Try.func40 (by kernel_rfl) h2

/-! ### (*riddle/queue.counter).count: function 35 -/
noncomputable def queue_counter_count.body : Code := bodyOf Try.f35
def queue_counter_count.live : Nat → List Nat
  | _ => []
@[reducible] def queue_counter_count.vc (R : Value → World → Prop) (c : Option Addr) (w : World) : Prop :=
  ∃ t4p : Addr, c = some t4p ∧ ∃ t6 : Int, w.cell? t4p = some (.int .u32 t6) ∧ letW (w.alloc (.cells #[(.int .u32 t6), (.int .u32 1)] 61)) fun w_2 => Run Try.prog 40 #[(.slice (some (newA w)) 2 2)] w_2 fun v w_3 => ∃ t8 : Int, v = (.int .u32 t8) ∧ ∃ t9p : Addr, c = some t9p ∧ (∃ u : Value, w_3.cell? t9p = some u) ∧ w_3.frozen? t9p = false ∧ letW (w_3.setCell t9p (.int .u32 t8)) fun w_4 => R (.tuple #[]) w_4

theorem queue_counter_count.eq (R : Value → World → Prop) (c : Option Addr) (w : World) : fnVC Try.prog none queue_counter_count.live Try.f35 R [(.pointer c)] w = queue_counter_count.vc R c w := by kernel_rfl
set_option maxHeartbeats 4000000 in
theorem queue_counter_count.ok {R : Value → World → Prop} {c : Option Addr} {w : World} (h : queue_counter_count.vc R c w) : Run Try.prog 35 #[(.pointer c)] w R := by
  have h2 := Eq.mpr (queue_counter_count.eq R c w) h
  exact fn_sound Try.mixed Try.func35 (by kernel_rfl) h2

/-! ### riddle/word.Join: function 36 -/
noncomputable def word_Join.body : Code := bodyOf Try.f36
def word_Join.live : Nat → List Nat
  | 0 => [0, 3, 9, 10, 11]
  | 2 => [6, 22, 23, 24]
  | _ => []
noncomputable def word_Join.c0 : Code := sub word_Join.body [1, 1, 0, 1, 0, 0]
noncomputable def word_Join.c2 : Code := sub word_Join.body [1, 1, 1, 1, 0, 1, 0, 0]
def word_Join.K0 (R : Value → World → Prop) : Ex → St → World → Prop := (blockK 0 (thenK (fun st w => code Try.prog none word_Join.live 0 (sub word_Join.body [1, 1, 1]) (retK Try.prog Try.f36 R) st w) (retK Try.prog Try.f36 R)))
def word_Join.L0 (R : Value → World → Prop) (partsA : Option Addr) (partsn : Nat) (partsc : Nat) (n : Int) (t9A : Option Addr) (t9n : Nat) (t9c : Nat) (t10 : Int) (t11 : Int) (w : World) : Prop :=
  loopVC (fun K => code Try.prog none word_Join.live 0 word_Join.c0 K) (word_Join.live 0) (word_Join.K0 R) [(.slice partsA partsn partsc), undef, undef, (.int .i64 n), undef, undef, undef, undef, undef, (.slice t9A t9n t9c), (.int .i64 t10), (.int .i64 t11), undef, undef, undef, undef, undef, undef, undef, undef, undef, undef, undef, undef, undef, undef, undef, undef, undef, undef, undef, undef, undef] w
def word_Join.K2 (R : Value → World → Prop) : Ex → St → World → Prop := (blockK 2 (thenK (fun st w => code Try.prog none word_Join.live 0 (sub word_Join.body [1, 1, 1, 1, 1]) (retK Try.prog Try.f36 R) st w) (retK Try.prog Try.f36 R)))
def word_Join.L2 (R : Value → World → Prop) (outA : Option Addr) (outn : Nat) (outc : Nat) (t22A : Option Addr) (t22n : Nat) (t22c : Nat) (t23 : Int) (t24 : Int) (w : World) : Prop :=
  loopVC (fun K => code Try.prog none word_Join.live 2 word_Join.c2 K) (word_Join.live 2) (word_Join.K2 R) [undef, undef, undef, undef, undef, undef, (.slice outA outn outc), undef, undef, undef, undef, undef, undef, undef, undef, undef, undef, undef, undef, undef, undef, undef, (.slice t22A t22n t22c), (.int .i64 t23), (.int .i64 t24), undef, undef, undef, undef, undef, undef, undef, undef] w
@[reducible] def word_Join.B2 (R : Value → World → Prop) (outA : Option Addr) (outn : Nat) (outc : Nat) (t22A : Option Addr) (t22n : Nat) (t22c : Nat) (t23 : Int) (t24 : Int) (w : World) : Prop :=
  ifP (decide ((t24 : Int) < t23))
    (0 ≤ (t24 : Int) ∧ (t24 : Int) < ((t22n : Nat) : Int) ∧ ∃ t26p : Addr, t22A = some t26p ∧ ∃ (t27A : Option Addr) (t27n t27c : Nat), w.cell? (t26p.add (Int.toNat t24 * 1)) = some (.slice t27A t27n t27c) ∧ ∃ (v : Value) (w_2 : World), (Builtin.append_ #[35, 35] 35 #[(.slice outA outn outc), (.slice t27A t27n t27c)]).run Try.prog w = .ok v w_2 ∧ ∃ (t30A : Option Addr) (t30n t30c : Nat), v = (.slice t30A t30n t30c) ∧ word_Join.L2 R t30A t30n t30c t22A t22n t22c t23 (IntKind.i64.wrap (t24 + 1)) w_2)
    (R (.slice outA outn outc) w)

@[reducible] def word_Join.B0 (R : Value → World → Prop) (partsA : Option Addr) (partsn : Nat) (partsc : Nat) (n : Int) (t9A : Option Addr) (t9n : Nat) (t9c : Nat) (t10 : Int) (t11 : Int) (w : World) : Prop :=
  ifP (decide ((t11 : Int) < t10))
    (0 ≤ (t11 : Int) ∧ (t11 : Int) < ((t9n : Nat) : Int) ∧ ∃ t13p : Addr, t9A = some t13p ∧ ∃ (t14A : Option Addr) (t14n t14c : Nat), w.cell? (t13p.add (Int.toNat t11 * 1)) = some (.slice t14A t14n t14c) ∧ word_Join.L0 R partsA partsn partsc (IntKind.i64.wrap (n + ((t14n : Nat) : Int))) t9A t9n t9c t10 (IntKind.i64.wrap (t11 + 1)) w)
    (∃ (v : Value) (w_2 : World), (Instr.makeSlice 35 (.int .i64 0) (.int .i64 n)).run Try.prog w = .ok v w_2 ∧ ∃ (t21A : Option Addr) (t21n t21c : Nat), v = (.slice t21A t21n t21c) ∧ word_Join.L2 R t21A t21n t21c partsA partsn partsc ((partsn : Nat) : Int) 0 w_2)

@[reducible] def word_Join.vc (R : Value → World → Prop) (partsA : Option Addr) (partsn : Nat) (partsc : Nat) (w : World) : Prop :=
  word_Join.L0 R partsA partsn partsc 0 partsA partsn partsc ((partsn : Nat) : Int) 0 w

theorem word_Join.B0_eq (R : Value → World → Prop) (partsA : Option Addr) (partsn : Nat) (partsc : Nat) (n : Int) (t9A : Option Addr) (t9n : Nat) (t9c : Nat) (t10 : Int) (t11 : Int) (w : World) (ts : Nat → Value) :
    code Try.prog none word_Join.live 0 word_Join.c0 (thenK (fun st w => loopVC (fun K => code Try.prog none word_Join.live 0 word_Join.c0 K) (word_Join.live 0) (word_Join.K0 R) (clearFrom (word_Join.live 0) 0 st) w) (word_Join.K0 R)) (mergeFrom (word_Join.live 0) ts 0 (clearFrom (word_Join.live 0) 0 [(.slice partsA partsn partsc), undef, undef, (.int .i64 n), undef, undef, undef, undef, undef, (.slice t9A t9n t9c), (.int .i64 t10), (.int .i64 t11), undef, undef, undef, undef, undef, undef, undef, undef, undef, undef, undef, undef, undef, undef, undef, undef, undef, undef, undef, undef, undef])) w = word_Join.B0 R partsA partsn partsc n t9A t9n t9c t10 t11 w := by kernel_rfl
theorem word_Join.L0_step {R : Value → World → Prop} {partsA : Option Addr} {partsn : Nat} {partsc : Nat} {n : Int} {t9A : Option Addr} {t9n : Nat} {t9c : Nat} {t10 : Int} {t11 : Int} {w : World} (h : word_Join.B0 R partsA partsn partsc n t9A t9n t9c t10 t11 w) : word_Join.L0 R partsA partsn partsc n t9A t9n t9c t10 t11 w :=
  loop_step (live := word_Join.live) (b := 0) (x := word_Join.c0) fun ts => Eq.mpr (word_Join.B0_eq R partsA partsn partsc n t9A t9n t9c t10 t11 w ts) h
theorem word_Join.B2_eq (R : Value → World → Prop) (outA : Option Addr) (outn : Nat) (outc : Nat) (t22A : Option Addr) (t22n : Nat) (t22c : Nat) (t23 : Int) (t24 : Int) (w : World) (ts : Nat → Value) :
    code Try.prog none word_Join.live 2 word_Join.c2 (thenK (fun st w => loopVC (fun K => code Try.prog none word_Join.live 2 word_Join.c2 K) (word_Join.live 2) (word_Join.K2 R) (clearFrom (word_Join.live 2) 0 st) w) (word_Join.K2 R)) (mergeFrom (word_Join.live 2) ts 0 (clearFrom (word_Join.live 2) 0 [undef, undef, undef, undef, undef, undef, (.slice outA outn outc), undef, undef, undef, undef, undef, undef, undef, undef, undef, undef, undef, undef, undef, undef, undef, (.slice t22A t22n t22c), (.int .i64 t23), (.int .i64 t24), undef, undef, undef, undef, undef, undef, undef, undef])) w = word_Join.B2 R outA outn outc t22A t22n t22c t23 t24 w := by kernel_rfl
theorem word_Join.L2_step {R : Value → World → Prop} {outA : Option Addr} {outn : Nat} {outc : Nat} {t22A : Option Addr} {t22n : Nat} {t22c : Nat} {t23 : Int} {t24 : Int} {w : World} (h : word_Join.B2 R outA outn outc t22A t22n t22c t23 t24 w) : word_Join.L2 R outA outn outc t22A t22n t22c t23 t24 w :=
  loop_step (live := word_Join.live) (b := 2) (x := word_Join.c2) fun ts => Eq.mpr (word_Join.B2_eq R outA outn outc t22A t22n t22c t23 t24 w ts) h
theorem word_Join.eq (R : Value → World → Prop) (partsA : Option Addr) (partsn : Nat) (partsc : Nat) (w : World) : fnVC Try.prog none word_Join.live Try.f36 R [(.slice partsA partsn partsc)] w = word_Join.vc R partsA partsn partsc w := by kernel_rfl
set_option maxHeartbeats 4000000 in
theorem word_Join.ok {R : Value → World → Prop} {partsA : Option Addr} {partsn : Nat} {partsc : Nat} {w : World} (h : word_Join.vc R partsA partsn partsc w) : Run Try.prog 36 #[(.slice partsA partsn partsc)] w R := by
  have h2 := Eq.mpr (word_Join.eq R partsA partsn partsc w) h
  exact fn_sound Try.mixed Try.func36 (by kernel_rfl) h2

/-! ### (*riddle/queue.Queue).Put: function 15 -/
noncomputable def queue_Queue_Put.body : Code := bodyOf Try.f15
def queue_Queue_Put.live : Nat → List Nat
  | _ => []
def queue_Queue_Put.J1 (R : Value → World → Prop) (w : World) : Prop :=
  R (.tuple #[(.bool true), (.int .i64 0)]) w

def queue_Queue_Put.J0 (R : Value → World → Prop) (q : Option Addr) (k : Int) (bA : Option Addr) (bn : Nat) (bc : Nat) (t19 : Bool) (w : World) : Prop :=
  ifP t19
    (R (.tuple #[(.bool false), (.int .i64 211)]) w)
    (ifP (decide ((((bn : Nat) : Int) : Int) > 65535))
    (R (.tuple #[(.bool false), (.int .i64 212)]) w)
    (∃ t24p : Addr, q = some t24p ∧ ∃ (t26A : Option Addr) (t26n t26c : Nat), w.cell? t24p = some (.slice t26A t26n t26c) ∧ 0 ≤ (k : Int) ∧ (k : Int) < ((t26n : Nat) : Int) ∧ ∃ t28p : Addr, t26A = some t28p ∧ ∃ t29 : Option Addr, w.cell? (t28p.add (Int.toNat k * 1)) = some (.pointer t29) ∧ letW w.drew fun w_2 => ∃ t31p : Addr, t29 = some t31p ∧ ∃ (t33A : Option Addr) (t33n t33c : Nat), w_2.cell? (t31p.add 2) = some (.slice t33A t33n t33c) ∧ ∃ t36p : Addr, t29 = some t36p ∧ ∃ t38 : Int, w_2.cell? (t36p.add 1) = some (.int .i64 t38) ∧ ifP ((((t33n : Nat) : Int) : Int) == t38)
    (∃ t41p : Addr, t29 = some t41p ∧ Run Try.prog 35 #[(.pointer (some t41p))] w_2 fun v w_3 => v = (.tuple #[]) ∧ R (.tuple #[(.bool false), (.int .i64 0)]) w_3)
    (∃ S_ : World → Prop, S_ w_2.drew ∧ letW w_2.drew fun w_4 => ∃ t46p : Addr, t29 = some t46p ∧ ∃ (t48A : Option Addr) (t48n t48c : Nat), (∀ u : World, S_ u → u.cell? (t46p.add 2) = some (.slice t48A t48n t48c)) ∧ letW (w_4.alloc (.cells #[(.slice bA bn bc)] 35)) fun w_5 => S_ w_5 ∧ Run Try.prog 36 #[(.slice (some (newA w_4)) 1 1)] w_5 fun v_2 w_6 => ∃ (t51A : Option Addr) (t51n t51c : Nat), v_2 = (.slice t51A t51n t51c) ∧ S_ w_6 ∧ letW (w_6.alloc (.cells #[(.slice t51A t51n t51c)] 35)) fun w_7 => S_ w_7 ∧ ∃ (v_3 : Value) (w_8 : World), (Builtin.append_ #[45, 45] 45 #[(.slice t48A t48n t48c), (.slice (some (newA w_6)) 1 1)]).run Try.prog w_7 = .ok v_3 w_8 ∧ ∃ (t53A : Option Addr) (t53n t53c : Nat), v_3 = (.slice t53A t53n t53c) ∧ ∃ t54p : Addr, t29 = some t54p ∧ (∃ u : Value, w_8.cell? (t54p.add 2) = some u) ∧ w_8.frozen? (t54p.add 2) = false ∧ letW (w_8.setCell (t54p.add 2) (.slice t53A t53n t53c)) fun w_9 => queue_Queue_Put.J1 R w_9)))

@[reducible] def queue_Queue_Put.vc (R : Value → World → Prop) (q : Option Addr) (k : Int) (bA : Option Addr) (bn : Nat) (bc : Nat) (w : World) : Prop :=
  ifP (decide ((k : Int) < 0)) (queue_Queue_Put.J0 R q k bA bn bc true w) (∃ t14p : Addr, q = some t14p ∧ ∃ (t16A : Option Addr) (t16n t16c : Nat), w.cell? t14p = some (.slice t16A t16n t16c) ∧ queue_Queue_Put.J0 R q k bA bn bc (decide ((k : Int) ≥ ((t16n : Nat) : Int))) w)

theorem queue_Queue_Put.eq (R : Value → World → Prop) (q : Option Addr) (k : Int) (bA : Option Addr) (bn : Nat) (bc : Nat) (w : World) : fnVC Try.prog none queue_Queue_Put.live Try.f15 R [(.pointer q), (.int .i64 k), (.slice bA bn bc)] w = queue_Queue_Put.vc R q k bA bn bc w := by kernel_rfl
set_option maxHeartbeats 4000000 in
theorem queue_Queue_Put.ok {R : Value → World → Prop} {q : Option Addr} {k : Int} {bA : Option Addr} {bn : Nat} {bc : Nat} {w : World} (h : queue_Queue_Put.vc R q k bA bn bc w) : Run Try.prog 15 #[(.pointer q), (.int .i64 k), (.slice bA bn bc)] w R := by
  have h2 := Eq.mpr (queue_Queue_Put.eq R q k bA bn bc w) h
  exact fn_sound Try.mixed Try.func15 (by kernel_rfl) h2

/-! ### (*riddle/queue.Queue).Take: function 18 -/
noncomputable def queue_Queue_Take.body : Code := bodyOf Try.f18
def queue_Queue_Take.live : Nat → List Nat
  | 0 => [11, 12, 13]
  | _ => []
noncomputable def queue_Queue_Take.c0 : Code := sub queue_Queue_Take.body [1, 0, 1, 0, 0]
def queue_Queue_Take.K0 (R : Value → World → Prop) : Ex → St → World → Prop := (blockK 0 (thenK (fun st w => code Try.prog none queue_Queue_Take.live 0 (sub queue_Queue_Take.body [1, 1]) (retK Try.prog Try.f18 R) st w) (retK Try.prog Try.f18 R)))
def queue_Queue_Take.L0 (R : Value → World → Prop) (t11A : Option Addr) (t11n : Nat) (t11c : Nat) (t12 : Int) (t13 : Int) (w : World) : Prop :=
  loopVC (fun K => code Try.prog none queue_Queue_Take.live 0 queue_Queue_Take.c0 K) (queue_Queue_Take.live 0) (queue_Queue_Take.K0 R) [undef, undef, undef, undef, undef, undef, undef, undef, undef, undef, undef, (.slice t11A t11n t11c), (.int .i64 t12), (.int .i64 t13), undef, undef, undef, undef, undef, undef, undef, undef, undef, undef, undef, undef, undef, undef, undef, undef, undef, undef, undef, undef, undef, undef, undef, undef, undef, undef, undef] w
@[reducible] def queue_Queue_Take.B0 (R : Value → World → Prop) (t11A : Option Addr) (t11n : Nat) (t11c : Nat) (t12 : Int) (t13 : Int) (w : World) : Prop :=
  ifP (decide ((t13 : Int) < t12))
    (0 ≤ (t13 : Int) ∧ (t13 : Int) < ((t11n : Nat) : Int) ∧ ∃ t16p : Addr, t11A = some t16p ∧ ∃ t17 : Option Addr, w.cell? (t16p.add (Int.toNat t13 * 1)) = some (.pointer t17) ∧ ∃ t19p : Addr, t17 = some t19p ∧ ∃ (t21A : Option Addr) (t21n t21c : Nat), w.cell? (t19p.add 2) = some (.slice t21A t21n t21c) ∧ ifP (decide ((((t21n : Nat) : Int) : Int) > 0))
    (∃ t25p : Addr, t17 = some t25p ∧ ∃ (t27A : Option Addr) (t27n t27c : Nat), w.cell? (t25p.add 2) = some (.slice t27A t27n t27c) ∧ 0 ≤ (0 : Int) ∧ (0 : Int) < ((t27n : Nat) : Int) ∧ ∃ t28p : Addr, t27A = some t28p ∧ ∃ (t29A : Option Addr) (t29n t29c : Nat), w.cell? (t28p.add (Int.toNat 0 * 1)) = some (.slice t29A t29n t29c) ∧ ∃ t32p : Addr, t17 = some t32p ∧ ∃ (t34A : Option Addr) (t34n t34c : Nat), w.cell? (t32p.add 2) = some (.slice t34A t34n t34c) ∧ (0 : Int) ≤ 1 ∧ (1 : Int) ≤ ((t34n : Nat) : Int) ∧ (((t34n : Nat) : Int) : Int) ≤ ((t34c : Nat) : Int) ∧ ∃ t36p : Addr, t17 = some t36p ∧ (∃ u : Value, w.cell? (t36p.add 2) = some u) ∧ w.frozen? (t36p.add 2) = false ∧ letW (w.setCell (t36p.add 2) (.slice (subA t34A t34c 1 1) (t34n - 1) (t34c - 1))) fun w_2 => R (.tuple #[(.int .i64 t13), (.slice t29A t29n t29c), (.bool true)]) w_2)
    (queue_Queue_Take.L0 R t11A t11n t11c t12 (IntKind.i64.wrap (t13 + 1)) w))
    (R (.tuple #[(.int .i64 0), (.slice none 0 0), (.bool false)]) w)

@[reducible] def queue_Queue_Take.vc (R : Value → World → Prop) (q : Option Addr) (w : World) : Prop :=
  ∃ t9p : Addr, q = some t9p ∧ ∃ (t11A : Option Addr) (t11n t11c : Nat), w.cell? t9p = some (.slice t11A t11n t11c) ∧ queue_Queue_Take.L0 R t11A t11n t11c ((t11n : Nat) : Int) 0 w

theorem queue_Queue_Take.B0_eq (R : Value → World → Prop) (t11A : Option Addr) (t11n : Nat) (t11c : Nat) (t12 : Int) (t13 : Int) (w : World) (ts : Nat → Value) :
    code Try.prog none queue_Queue_Take.live 0 queue_Queue_Take.c0 (thenK (fun st w => loopVC (fun K => code Try.prog none queue_Queue_Take.live 0 queue_Queue_Take.c0 K) (queue_Queue_Take.live 0) (queue_Queue_Take.K0 R) (clearFrom (queue_Queue_Take.live 0) 0 st) w) (queue_Queue_Take.K0 R)) (mergeFrom (queue_Queue_Take.live 0) ts 0 (clearFrom (queue_Queue_Take.live 0) 0 [undef, undef, undef, undef, undef, undef, undef, undef, undef, undef, undef, (.slice t11A t11n t11c), (.int .i64 t12), (.int .i64 t13), undef, undef, undef, undef, undef, undef, undef, undef, undef, undef, undef, undef, undef, undef, undef, undef, undef, undef, undef, undef, undef, undef, undef, undef, undef, undef, undef])) w = queue_Queue_Take.B0 R t11A t11n t11c t12 t13 w := by kernel_rfl
theorem queue_Queue_Take.L0_step {R : Value → World → Prop} {t11A : Option Addr} {t11n : Nat} {t11c : Nat} {t12 : Int} {t13 : Int} {w : World} (h : queue_Queue_Take.B0 R t11A t11n t11c t12 t13 w) : queue_Queue_Take.L0 R t11A t11n t11c t12 t13 w :=
  loop_step (live := queue_Queue_Take.live) (b := 0) (x := queue_Queue_Take.c0) fun ts => Eq.mpr (queue_Queue_Take.B0_eq R t11A t11n t11c t12 t13 w ts) h
theorem queue_Queue_Take.eq (R : Value → World → Prop) (q : Option Addr) (w : World) : fnVC Try.prog none queue_Queue_Take.live Try.f18 R [(.pointer q)] w = queue_Queue_Take.vc R q w := by kernel_rfl
set_option maxHeartbeats 4000000 in
theorem queue_Queue_Take.ok {R : Value → World → Prop} {q : Option Addr} {w : World} (h : queue_Queue_Take.vc R q w) : Run Try.prog 18 #[(.pointer q)] w R := by
  have h2 := Eq.mpr (queue_Queue_Take.eq R q w) h
  exact fn_sound Try.mixed Try.func18 (by kernel_rfl) h2

/-! ### (*riddle/queue.Queue).Drain: function 17 -/
noncomputable def queue_Queue_Drain.body : Code := bodyOf Try.f17
def queue_Queue_Drain.live : Nat → List Nat
  | 0 => [0, 3]
  | _ => []
noncomputable def queue_Queue_Drain.c0 : Code := sub queue_Queue_Drain.body [1, 1, 0, 0]
def queue_Queue_Drain.K0 (R : Value → World → Prop) : Ex → St → World → Prop := (blockK 0 (retK Try.prog Try.f17 R))
def queue_Queue_Drain.L0 (R : Value → World → Prop) (q : Option Addr) (outA : Option Addr) (outn : Nat) (outc : Nat) (w : World) : Prop :=
  loopVC (fun K => code Try.prog none queue_Queue_Drain.live 0 queue_Queue_Drain.c0 K) (queue_Queue_Drain.live 0) (queue_Queue_Drain.K0 R) [(.pointer q), undef, undef, (.slice outA outn outc), undef, undef, undef, undef, undef, undef, undef, undef, undef, undef, undef, undef, undef, undef, undef, undef] w
@[reducible] def queue_Queue_Drain.B0 (R : Value → World → Prop) (q : Option Addr) (outA : Option Addr) (outn : Nat) (outc : Nat) (w : World) : Prop :=
  Run Try.prog 18 #[(.pointer q)] w fun v w_2 => ∃ t90 : Int, ∃ (t91A : Option Addr) (t91n t91c : Nat), ∃ t92 : Bool, v = (.tuple #[(.int .i64 t90), (.slice t91A t91n t91c), (.bool t92)]) ∧ ifP (!t92)
    (R (.slice outA outn outc) w_2)
    (letW (w_2.alloc (.cells #[(.slice t91A t91n t91c)] 35)) fun w_3 => ∃ (v_2 : Value) (w_4 : World), (Builtin.append_ #[45, 45] 45 #[(.slice outA outn outc), (.slice (some (newA w_2)) 1 1)]).run Try.prog w_3 = .ok v_2 w_4 ∧ ∃ (t19A : Option Addr) (t19n t19c : Nat), v_2 = (.slice t19A t19n t19c) ∧ queue_Queue_Drain.L0 R q t19A t19n t19c w_4)

@[reducible] def queue_Queue_Drain.vc (R : Value → World → Prop) (q : Option Addr) (w : World) : Prop :=
  queue_Queue_Drain.L0 R q none 0 0 w

theorem queue_Queue_Drain.B0_eq (R : Value → World → Prop) (q : Option Addr) (outA : Option Addr) (outn : Nat) (outc : Nat) (w : World) (ts : Nat → Value) :
    code Try.prog none queue_Queue_Drain.live 0 queue_Queue_Drain.c0 (thenK (fun st w => loopVC (fun K => code Try.prog none queue_Queue_Drain.live 0 queue_Queue_Drain.c0 K) (queue_Queue_Drain.live 0) (queue_Queue_Drain.K0 R) (clearFrom (queue_Queue_Drain.live 0) 0 st) w) (queue_Queue_Drain.K0 R)) (mergeFrom (queue_Queue_Drain.live 0) ts 0 (clearFrom (queue_Queue_Drain.live 0) 0 [(.pointer q), undef, undef, (.slice outA outn outc), undef, undef, undef, undef, undef, undef, undef, undef, undef, undef, undef, undef, undef, undef, undef, undef])) w = queue_Queue_Drain.B0 R q outA outn outc w := by kernel_rfl
theorem queue_Queue_Drain.L0_step {R : Value → World → Prop} {q : Option Addr} {outA : Option Addr} {outn : Nat} {outc : Nat} {w : World} (h : queue_Queue_Drain.B0 R q outA outn outc w) : queue_Queue_Drain.L0 R q outA outn outc w :=
  loop_step (live := queue_Queue_Drain.live) (b := 0) (x := queue_Queue_Drain.c0) fun ts => Eq.mpr (queue_Queue_Drain.B0_eq R q outA outn outc w ts) h
theorem queue_Queue_Drain.eq (R : Value → World → Prop) (q : Option Addr) (w : World) : fnVC Try.prog none queue_Queue_Drain.live Try.f17 R [(.pointer q)] w = queue_Queue_Drain.vc R q w := by kernel_rfl
set_option maxHeartbeats 4000000 in
theorem queue_Queue_Drain.ok {R : Value → World → Prop} {q : Option Addr} {w : World} (h : queue_Queue_Drain.vc R q w) : Run Try.prog 17 #[(.pointer q)] w R := by
  have h2 := Eq.mpr (queue_Queue_Drain.eq R q w) h
  exact fn_sound Try.mixed Try.func17 (by kernel_rfl) h2

/-! ### riddle/riddlelaw0.SameBytes: function 19 -/
noncomputable def law0_SameBytes.body : Code := bodyOf Try.f19
def law0_SameBytes.live : Nat → List Nat
  | 0 => [0, 1, 5]
  | _ => []
noncomputable def law0_SameBytes.c0 : Code := sub law0_SameBytes.body [1, 1, 0, 1, 0, 0]
def law0_SameBytes.K0 (R : Value → World → Prop) : Ex → St → World → Prop := (blockK 0 (thenK (fun st w => code Try.prog none law0_SameBytes.live 0 (sub law0_SameBytes.body [1, 1, 1]) (retK Try.prog Try.f19 R) st w) (retK Try.prog Try.f19 R)))
def law0_SameBytes.L0 (R : Value → World → Prop) (aA : Option Addr) (an : Nat) (ac : Nat) (bA : Option Addr) (bn : Nat) (bc : Nat) (i : Int) (w : World) : Prop :=
  loopVC (fun K => code Try.prog none law0_SameBytes.live 0 law0_SameBytes.c0 K) (law0_SameBytes.live 0) (law0_SameBytes.K0 R) [(.slice aA an ac), (.slice bA bn bc), undef, undef, undef, (.int .i64 i), undef, undef, undef, undef, undef, undef, undef, undef, undef, undef, undef, undef, undef, undef, undef, undef, undef, undef, undef, undef] w
@[reducible] def law0_SameBytes.B0 (R : Value → World → Prop) (aA : Option Addr) (an : Nat) (ac : Nat) (bA : Option Addr) (bn : Nat) (bc : Nat) (i : Int) (w : World) : Prop :=
  ifP (decide ((i : Int) < ((an : Nat) : Int)))
    (letW w.drew fun w_2 => 0 ≤ (i : Int) ∧ (i : Int) < ((an : Nat) : Int) ∧ ∃ t19p : Addr, aA = some t19p ∧ ∃ t20 : Int, w_2.cell? (t19p.add (Int.toNat i * 1)) = some (.int .u8 t20) ∧ 0 ≤ (i : Int) ∧ (i : Int) < ((bn : Nat) : Int) ∧ ∃ t23p : Addr, bA = some t23p ∧ ∃ t24 : Int, w_2.cell? (t23p.add (Int.toNat i * 1)) = some (.int .u8 t24) ∧ ifP ((t20 : Int) != t24)
    (R (.bool false) w_2)
    (law0_SameBytes.L0 R aA an ac bA bn bc (IntKind.i64.wrap (i + 1)) w_2))
    (R (.bool true) w)

@[reducible] def law0_SameBytes.vc (R : Value → World → Prop) (aA : Option Addr) (an : Nat) (ac : Nat) (bA : Option Addr) (bn : Nat) (bc : Nat) (w : World) : Prop :=
  ifP ((((an : Nat) : Int) : Int) != ((bn : Nat) : Int))
    (R (.bool false) w)
    (law0_SameBytes.L0 R aA an ac bA bn bc 0 w)

theorem law0_SameBytes.B0_eq (R : Value → World → Prop) (aA : Option Addr) (an : Nat) (ac : Nat) (bA : Option Addr) (bn : Nat) (bc : Nat) (i : Int) (w : World) (ts : Nat → Value) :
    code Try.prog none law0_SameBytes.live 0 law0_SameBytes.c0 (thenK (fun st w => loopVC (fun K => code Try.prog none law0_SameBytes.live 0 law0_SameBytes.c0 K) (law0_SameBytes.live 0) (law0_SameBytes.K0 R) (clearFrom (law0_SameBytes.live 0) 0 st) w) (law0_SameBytes.K0 R)) (mergeFrom (law0_SameBytes.live 0) ts 0 (clearFrom (law0_SameBytes.live 0) 0 [(.slice aA an ac), (.slice bA bn bc), undef, undef, undef, (.int .i64 i), undef, undef, undef, undef, undef, undef, undef, undef, undef, undef, undef, undef, undef, undef, undef, undef, undef, undef, undef, undef])) w = law0_SameBytes.B0 R aA an ac bA bn bc i w := by kernel_rfl
theorem law0_SameBytes.L0_step {R : Value → World → Prop} {aA : Option Addr} {an : Nat} {ac : Nat} {bA : Option Addr} {bn : Nat} {bc : Nat} {i : Int} {w : World} (h : law0_SameBytes.B0 R aA an ac bA bn bc i w) : law0_SameBytes.L0 R aA an ac bA bn bc i w :=
  loop_step (live := law0_SameBytes.live) (b := 0) (x := law0_SameBytes.c0) fun ts => Eq.mpr (law0_SameBytes.B0_eq R aA an ac bA bn bc i w ts) h
theorem law0_SameBytes.eq (R : Value → World → Prop) (aA : Option Addr) (an : Nat) (ac : Nat) (bA : Option Addr) (bn : Nat) (bc : Nat) (w : World) : fnVC Try.prog none law0_SameBytes.live Try.f19 R [(.slice aA an ac), (.slice bA bn bc)] w = law0_SameBytes.vc R aA an ac bA bn bc w := by kernel_rfl
set_option maxHeartbeats 4000000 in
theorem law0_SameBytes.ok {R : Value → World → Prop} {aA : Option Addr} {an : Nat} {ac : Nat} {bA : Option Addr} {bn : Nat} {bc : Nat} {w : World} (h : law0_SameBytes.vc R aA an ac bA bn bc w) : Run Try.prog 19 #[(.slice aA an ac), (.slice bA bn bc)] w R := by
  have h2 := Eq.mpr (law0_SameBytes.eq R aA an ac bA bn bc w) h
  exact fn_sound Try.mixed Try.func19 (by kernel_rfl) h2

/-! ### (*riddle/queue.Queue).Lens: function 21 -/
noncomputable def queue_Queue_Lens.body : Code := bodyOf Try.f21
def queue_Queue_Lens.live : Nat → List Nat
  | 0 => [3, 9, 10, 11]
  | _ => []
noncomputable def queue_Queue_Lens.c0 : Code := sub queue_Queue_Lens.body [1, 1, 0, 1, 0, 0]
def queue_Queue_Lens.K0 (R : Value → World → Prop) : Ex → St → World → Prop := (blockK 0 (thenK (fun st w => code Try.prog none queue_Queue_Lens.live 0 (sub queue_Queue_Lens.body [1, 1, 1]) (retK Try.prog Try.f21 R) st w) (retK Try.prog Try.f21 R)))
def queue_Queue_Lens.L0 (R : Value → World → Prop) (outA : Option Addr) (outn : Nat) (outc : Nat) (t9A : Option Addr) (t9n : Nat) (t9c : Nat) (t10 : Int) (t11 : Int) (w : World) : Prop :=
  loopVC (fun K => code Try.prog none queue_Queue_Lens.live 0 queue_Queue_Lens.c0 K) (queue_Queue_Lens.live 0) (queue_Queue_Lens.K0 R) [undef, undef, undef, (.slice outA outn outc), undef, undef, undef, undef, undef, (.slice t9A t9n t9c), (.int .i64 t10), (.int .i64 t11), undef, undef, undef, undef, undef, undef, undef, undef, undef, undef, undef, undef, undef] w
@[reducible] def queue_Queue_Lens.B0 (R : Value → World → Prop) (outA : Option Addr) (outn : Nat) (outc : Nat) (t9A : Option Addr) (t9n : Nat) (t9c : Nat) (t10 : Int) (t11 : Int) (w : World) : Prop :=
  ifP (decide ((t11 : Int) < t10))
    (0 ≤ (t11 : Int) ∧ (t11 : Int) < ((t9n : Nat) : Int) ∧ ∃ t13p : Addr, t9A = some t13p ∧ ∃ t14 : Option Addr, w.cell? (t13p.add (Int.toNat t11 * 1)) = some (.pointer t14) ∧ ∃ t17p : Addr, t14 = some t17p ∧ ∃ (t19A : Option Addr) (t19n t19c : Nat), w.cell? (t17p.add 2) = some (.slice t19A t19n t19c) ∧ letW (w.alloc (.cells #[(.int .i64 ((t19n : Nat) : Int))] 3)) fun w_2 => ∃ (v : Value) (w_3 : World), (Builtin.append_ #[22, 22] 22 #[(.slice outA outn outc), (.slice (some (newA w)) 1 1)]).run Try.prog w_2 = .ok v w_3 ∧ ∃ (t22A : Option Addr) (t22n t22c : Nat), v = (.slice t22A t22n t22c) ∧ queue_Queue_Lens.L0 R t22A t22n t22c t9A t9n t9c t10 (IntKind.i64.wrap (t11 + 1)) w_3)
    (R (.slice outA outn outc) w)

@[reducible] def queue_Queue_Lens.vc (R : Value → World → Prop) (q : Option Addr) (w : World) : Prop :=
  ∃ t7p : Addr, q = some t7p ∧ ∃ (t9A : Option Addr) (t9n t9c : Nat), w.cell? t7p = some (.slice t9A t9n t9c) ∧ queue_Queue_Lens.L0 R none 0 0 t9A t9n t9c ((t9n : Nat) : Int) 0 w

theorem queue_Queue_Lens.B0_eq (R : Value → World → Prop) (outA : Option Addr) (outn : Nat) (outc : Nat) (t9A : Option Addr) (t9n : Nat) (t9c : Nat) (t10 : Int) (t11 : Int) (w : World) (ts : Nat → Value) :
    code Try.prog none queue_Queue_Lens.live 0 queue_Queue_Lens.c0 (thenK (fun st w => loopVC (fun K => code Try.prog none queue_Queue_Lens.live 0 queue_Queue_Lens.c0 K) (queue_Queue_Lens.live 0) (queue_Queue_Lens.K0 R) (clearFrom (queue_Queue_Lens.live 0) 0 st) w) (queue_Queue_Lens.K0 R)) (mergeFrom (queue_Queue_Lens.live 0) ts 0 (clearFrom (queue_Queue_Lens.live 0) 0 [undef, undef, undef, (.slice outA outn outc), undef, undef, undef, undef, undef, (.slice t9A t9n t9c), (.int .i64 t10), (.int .i64 t11), undef, undef, undef, undef, undef, undef, undef, undef, undef, undef, undef, undef, undef])) w = queue_Queue_Lens.B0 R outA outn outc t9A t9n t9c t10 t11 w := by kernel_rfl
theorem queue_Queue_Lens.L0_step {R : Value → World → Prop} {outA : Option Addr} {outn : Nat} {outc : Nat} {t9A : Option Addr} {t9n : Nat} {t9c : Nat} {t10 : Int} {t11 : Int} {w : World} (h : queue_Queue_Lens.B0 R outA outn outc t9A t9n t9c t10 t11 w) : queue_Queue_Lens.L0 R outA outn outc t9A t9n t9c t10 t11 w :=
  loop_step (live := queue_Queue_Lens.live) (b := 0) (x := queue_Queue_Lens.c0) fun ts => Eq.mpr (queue_Queue_Lens.B0_eq R outA outn outc t9A t9n t9c t10 t11 w ts) h
theorem queue_Queue_Lens.eq (R : Value → World → Prop) (q : Option Addr) (w : World) : fnVC Try.prog none queue_Queue_Lens.live Try.f21 R [(.pointer q)] w = queue_Queue_Lens.vc R q w := by kernel_rfl
set_option maxHeartbeats 4000000 in
theorem queue_Queue_Lens.ok {R : Value → World → Prop} {q : Option Addr} {w : World} (h : queue_Queue_Lens.vc R q w) : Run Try.prog 21 #[(.pointer q)] w R := by
  have h2 := Eq.mpr (queue_Queue_Lens.eq R q w) h
  exact fn_sound Try.mixed Try.func21 (by kernel_rfl) h2

/-! ### riddle/riddlelaw0.SameWords: function 23 -/
noncomputable def law0_SameWords.body : Code := bodyOf Try.f23
def law0_SameWords.live : Nat → List Nat
  | 0 => [0, 1, 5]
  | _ => []
noncomputable def law0_SameWords.c0 : Code := sub law0_SameWords.body [1, 1, 0, 1, 0, 0]
def law0_SameWords.K0 (R : Value → World → Prop) : Ex → St → World → Prop := (blockK 0 (thenK (fun st w => code Try.prog none law0_SameWords.live 0 (sub law0_SameWords.body [1, 1, 1]) (retK Try.prog Try.f23 R) st w) (retK Try.prog Try.f23 R)))
def law0_SameWords.L0 (R : Value → World → Prop) (aA : Option Addr) (an : Nat) (ac : Nat) (bA : Option Addr) (bn : Nat) (bc : Nat) (i : Int) (w : World) : Prop :=
  loopVC (fun K => code Try.prog none law0_SameWords.live 0 law0_SameWords.c0 K) (law0_SameWords.live 0) (law0_SameWords.K0 R) [(.slice aA an ac), (.slice bA bn bc), undef, undef, undef, (.int .i64 i), undef, undef, undef, undef, undef, undef, undef, undef, undef, undef, undef, undef, undef, undef, undef, undef, undef, undef, undef, undef] w
@[reducible] def law0_SameWords.B0 (R : Value → World → Prop) (aA : Option Addr) (an : Nat) (ac : Nat) (bA : Option Addr) (bn : Nat) (bc : Nat) (i : Int) (w : World) : Prop :=
  ifP (decide ((i : Int) < ((an : Nat) : Int)))
    (letW w.drew fun w_2 => 0 ≤ (i : Int) ∧ (i : Int) < ((an : Nat) : Int) ∧ ∃ t19p : Addr, aA = some t19p ∧ ∃ t20 : Int, w_2.cell? (t19p.add (Int.toNat i * 1)) = some (.int .u32 t20) ∧ 0 ≤ (i : Int) ∧ (i : Int) < ((bn : Nat) : Int) ∧ ∃ t23p : Addr, bA = some t23p ∧ ∃ t24 : Int, w_2.cell? (t23p.add (Int.toNat i * 1)) = some (.int .u32 t24) ∧ ifP ((t20 : Int) != t24)
    (R (.bool false) w_2)
    (law0_SameWords.L0 R aA an ac bA bn bc (IntKind.i64.wrap (i + 1)) w_2))
    (R (.bool true) w)

@[reducible] def law0_SameWords.vc (R : Value → World → Prop) (aA : Option Addr) (an : Nat) (ac : Nat) (bA : Option Addr) (bn : Nat) (bc : Nat) (w : World) : Prop :=
  ifP ((((an : Nat) : Int) : Int) != ((bn : Nat) : Int))
    (R (.bool false) w)
    (law0_SameWords.L0 R aA an ac bA bn bc 0 w)

theorem law0_SameWords.B0_eq (R : Value → World → Prop) (aA : Option Addr) (an : Nat) (ac : Nat) (bA : Option Addr) (bn : Nat) (bc : Nat) (i : Int) (w : World) (ts : Nat → Value) :
    code Try.prog none law0_SameWords.live 0 law0_SameWords.c0 (thenK (fun st w => loopVC (fun K => code Try.prog none law0_SameWords.live 0 law0_SameWords.c0 K) (law0_SameWords.live 0) (law0_SameWords.K0 R) (clearFrom (law0_SameWords.live 0) 0 st) w) (law0_SameWords.K0 R)) (mergeFrom (law0_SameWords.live 0) ts 0 (clearFrom (law0_SameWords.live 0) 0 [(.slice aA an ac), (.slice bA bn bc), undef, undef, undef, (.int .i64 i), undef, undef, undef, undef, undef, undef, undef, undef, undef, undef, undef, undef, undef, undef, undef, undef, undef, undef, undef, undef])) w = law0_SameWords.B0 R aA an ac bA bn bc i w := by kernel_rfl
theorem law0_SameWords.L0_step {R : Value → World → Prop} {aA : Option Addr} {an : Nat} {ac : Nat} {bA : Option Addr} {bn : Nat} {bc : Nat} {i : Int} {w : World} (h : law0_SameWords.B0 R aA an ac bA bn bc i w) : law0_SameWords.L0 R aA an ac bA bn bc i w :=
  loop_step (live := law0_SameWords.live) (b := 0) (x := law0_SameWords.c0) fun ts => Eq.mpr (law0_SameWords.B0_eq R aA an ac bA bn bc i w ts) h
theorem law0_SameWords.eq (R : Value → World → Prop) (aA : Option Addr) (an : Nat) (ac : Nat) (bA : Option Addr) (bn : Nat) (bc : Nat) (w : World) : fnVC Try.prog none law0_SameWords.live Try.f23 R [(.slice aA an ac), (.slice bA bn bc)] w = law0_SameWords.vc R aA an ac bA bn bc w := by kernel_rfl
set_option maxHeartbeats 4000000 in
theorem law0_SameWords.ok {R : Value → World → Prop} {aA : Option Addr} {an : Nat} {ac : Nat} {bA : Option Addr} {bn : Nat} {bc : Nat} {w : World} (h : law0_SameWords.vc R aA an ac bA bn bc w) : Run Try.prog 23 #[(.slice aA an ac), (.slice bA bn bc)] w R := by
  have h2 := Eq.mpr (law0_SameWords.eq R aA an ac bA bn bc w) h
  exact fn_sound Try.mixed Try.func23 (by kernel_rfl) h2

/-! ### (*riddle/queue.counter).counted: function 37 -/
noncomputable def queue_counter_counted.body : Code := bodyOf Try.f37
def queue_counter_counted.live : Nat → List Nat
  | _ => []
@[reducible] def queue_counter_counted.vc (R : Value → World → Prop) (c : Option Addr) (w : World) : Prop :=
  ∃ t4p : Addr, c = some t4p ∧ ∃ t6 : Int, w.cell? t4p = some (.int .u32 t6) ∧ R (.int .u32 t6) w

theorem queue_counter_counted.eq (R : Value → World → Prop) (c : Option Addr) (w : World) : fnVC Try.prog none queue_counter_counted.live Try.f37 R [(.pointer c)] w = queue_counter_counted.vc R c w := by kernel_rfl
set_option maxHeartbeats 4000000 in
theorem queue_counter_counted.ok {R : Value → World → Prop} {c : Option Addr} {w : World} (h : queue_counter_counted.vc R c w) : Run Try.prog 37 #[(.pointer c)] w R := by
  have h2 := Eq.mpr (queue_counter_counted.eq R c w) h
  exact fn_sound Try.mixed Try.func37 (by kernel_rfl) h2

/-! ### (*riddle/queue.Queue).Dropped: function 24 -/
noncomputable def queue_Queue_Dropped.body : Code := bodyOf Try.f24
def queue_Queue_Dropped.live : Nat → List Nat
  | 0 => [3, 9, 10, 11]
  | _ => []
noncomputable def queue_Queue_Dropped.c0 : Code := sub queue_Queue_Dropped.body [1, 1, 0, 1, 0, 0]
def queue_Queue_Dropped.K0 (R : Value → World → Prop) : Ex → St → World → Prop := (blockK 0 (thenK (fun st w => code Try.prog none queue_Queue_Dropped.live 0 (sub queue_Queue_Dropped.body [1, 1, 1]) (retK Try.prog Try.f24 R) st w) (retK Try.prog Try.f24 R)))
def queue_Queue_Dropped.L0 (R : Value → World → Prop) (outA : Option Addr) (outn : Nat) (outc : Nat) (t9A : Option Addr) (t9n : Nat) (t9c : Nat) (t10 : Int) (t11 : Int) (w : World) : Prop :=
  loopVC (fun K => code Try.prog none queue_Queue_Dropped.live 0 queue_Queue_Dropped.c0 K) (queue_Queue_Dropped.live 0) (queue_Queue_Dropped.K0 R) [undef, undef, undef, (.slice outA outn outc), undef, undef, undef, undef, undef, (.slice t9A t9n t9c), (.int .i64 t10), (.int .i64 t11), undef, undef, undef, undef, undef, undef, undef, undef, undef, undef, undef, undef] w
@[reducible] def queue_Queue_Dropped.B0 (R : Value → World → Prop) (outA : Option Addr) (outn : Nat) (outc : Nat) (t9A : Option Addr) (t9n : Nat) (t9c : Nat) (t10 : Int) (t11 : Int) (w : World) : Prop :=
  ifP (decide ((t11 : Int) < t10))
    (0 ≤ (t11 : Int) ∧ (t11 : Int) < ((t9n : Nat) : Int) ∧ ∃ t13p : Addr, t9A = some t13p ∧ ∃ t14 : Option Addr, w.cell? (t13p.add (Int.toNat t11 * 1)) = some (.pointer t14) ∧ ∃ t17p : Addr, t14 = some t17p ∧ Run Try.prog 37 #[(.pointer (some t17p))] w fun v w_2 => ∃ t19 : Int, v = (.int .u32 t19) ∧ letW (w_2.alloc (.cells #[(.int .u32 t19)] 61)) fun w_3 => ∃ (v_2 : Value) (w_4 : World), (Builtin.append_ #[54, 54] 54 #[(.slice outA outn outc), (.slice (some (newA w_2)) 1 1)]).run Try.prog w_3 = .ok v_2 w_4 ∧ ∃ (t21A : Option Addr) (t21n t21c : Nat), v_2 = (.slice t21A t21n t21c) ∧ queue_Queue_Dropped.L0 R t21A t21n t21c t9A t9n t9c t10 (IntKind.i64.wrap (t11 + 1)) w_4)
    (R (.slice outA outn outc) w)

@[reducible] def queue_Queue_Dropped.vc (R : Value → World → Prop) (q : Option Addr) (w : World) : Prop :=
  ∃ t7p : Addr, q = some t7p ∧ ∃ (t9A : Option Addr) (t9n t9c : Nat), w.cell? t7p = some (.slice t9A t9n t9c) ∧ queue_Queue_Dropped.L0 R none 0 0 t9A t9n t9c ((t9n : Nat) : Int) 0 w

theorem queue_Queue_Dropped.B0_eq (R : Value → World → Prop) (outA : Option Addr) (outn : Nat) (outc : Nat) (t9A : Option Addr) (t9n : Nat) (t9c : Nat) (t10 : Int) (t11 : Int) (w : World) (ts : Nat → Value) :
    code Try.prog none queue_Queue_Dropped.live 0 queue_Queue_Dropped.c0 (thenK (fun st w => loopVC (fun K => code Try.prog none queue_Queue_Dropped.live 0 queue_Queue_Dropped.c0 K) (queue_Queue_Dropped.live 0) (queue_Queue_Dropped.K0 R) (clearFrom (queue_Queue_Dropped.live 0) 0 st) w) (queue_Queue_Dropped.K0 R)) (mergeFrom (queue_Queue_Dropped.live 0) ts 0 (clearFrom (queue_Queue_Dropped.live 0) 0 [undef, undef, undef, (.slice outA outn outc), undef, undef, undef, undef, undef, (.slice t9A t9n t9c), (.int .i64 t10), (.int .i64 t11), undef, undef, undef, undef, undef, undef, undef, undef, undef, undef, undef, undef])) w = queue_Queue_Dropped.B0 R outA outn outc t9A t9n t9c t10 t11 w := by kernel_rfl
theorem queue_Queue_Dropped.L0_step {R : Value → World → Prop} {outA : Option Addr} {outn : Nat} {outc : Nat} {t9A : Option Addr} {t9n : Nat} {t9c : Nat} {t10 : Int} {t11 : Int} {w : World} (h : queue_Queue_Dropped.B0 R outA outn outc t9A t9n t9c t10 t11 w) : queue_Queue_Dropped.L0 R outA outn outc t9A t9n t9c t10 t11 w :=
  loop_step (live := queue_Queue_Dropped.live) (b := 0) (x := queue_Queue_Dropped.c0) fun ts => Eq.mpr (queue_Queue_Dropped.B0_eq R outA outn outc t9A t9n t9c t10 t11 w ts) h
theorem queue_Queue_Dropped.eq (R : Value → World → Prop) (q : Option Addr) (w : World) : fnVC Try.prog none queue_Queue_Dropped.live Try.f24 R [(.pointer q)] w = queue_Queue_Dropped.vc R q w := by kernel_rfl
set_option maxHeartbeats 4000000 in
theorem queue_Queue_Dropped.ok {R : Value → World → Prop} {q : Option Addr} {w : World} (h : queue_Queue_Dropped.vc R q w) : Run Try.prog 24 #[(.pointer q)] w R := by
  have h2 := Eq.mpr (queue_Queue_Dropped.eq R q w) h
  exact fn_sound Try.mixed Try.func24 (by kernel_rfl) h2

/-! ### riddle/riddlelaw21.awake: function 11 -/
noncomputable def law21_awake.body : Code := bodyOf Try.f11
def law21_awake.live : Nat → List Nat
  | _ => []
def law21_awake.J1 (R : Value → World → Prop) (t0 : Bool) (w : World) : Prop :=
  R (.bool t0) w

def law21_awake.J0 (R : Value → World → Prop) (q : Option Addr) (t25 : Bool) (w : World) : Prop :=
  ifP t25
    (R (.bool false) w)
    (letW (w.alloc (.cells #[(.int .u8 1)] 5)) fun w_2 => Run Try.prog 15 #[(.pointer q), (.int .i64 1), (.slice (some (newA w)) 1 1)] w_2 fun v w_3 => ∃ t290 : Bool, ∃ t291 : Int, v = (.tuple #[(.bool t290), (.int .i64 t291)]) ∧ letW (w_3.alloc (.cells #[(.int .u8 2)] 5)) fun w_4 => Run Try.prog 15 #[(.pointer q), (.int .i64 0), (.slice (some (newA w_3)) 1 1)] w_4 fun v_2 w_5 => ∃ t350 : Bool, ∃ t351 : Int, v_2 = (.tuple #[(.bool t350), (.int .i64 t351)]) ∧ letW (w_5.alloc (.cells #[(.int .u8 3)] 5)) fun w_6 => Run Try.prog 15 #[(.pointer q), (.int .i64 0), (.slice (some (newA w_5)) 1 1)] w_6 fun v_3 w_7 => ∃ t410 : Bool, ∃ t411 : Int, v_3 = (.tuple #[(.bool t410), (.int .i64 t411)]) ∧ letW (w_7.alloc (.cells #[(.int .u8 4)] 5)) fun w_8 => Run Try.prog 15 #[(.pointer q), (.int .i64 1), (.slice (some (newA w_7)) 1 1)] w_8 fun v_4 w_9 => ∃ t470 : Bool, ∃ t471 : Int, v_4 = (.tuple #[(.bool t470), (.int .i64 t471)]) ∧ Run Try.prog 21 #[(.pointer q)] w_9 fun v_5 w_10 => ∃ (t51A : Option Addr) (t51n t51c : Nat), v_5 = (.slice t51A t51n t51c) ∧ Run Try.prog 18 #[(.pointer q)] w_10 fun v_6 w_11 => ∃ t540 : Int, ∃ (t541A : Option Addr) (t541n t541c : Nat), ∃ t542 : Bool, v_6 = (.tuple #[(.int .i64 t540), (.slice t541A t541n t541c), (.bool t542)]) ∧ ifP t290 (ifP t350 (ifP (!t410) (ifP t470 (letW (w_11.alloc (.cells #[(.int .i64 1), (.int .i64 2)] 3)) fun w_12 => Run Try.prog 20 #[(.slice t51A t51n t51c), (.slice (some (newA w_11)) 2 2)] w_12 fun v_7 w_13 => ∃ t72 : Bool, v_7 = (.bool t72) ∧ ifP t72 (ifP t542 (ifP ((t540 : Int) == 0) (letW (w_13.alloc (.cells #[(.int .u8 2)] 5)) fun w_14 => Run Try.prog 19 #[(.slice t541A t541n t541c), (.slice (some (newA w_13)) 1 1)] w_14 fun v_8 w_15 => ∃ t84 : Bool, v_8 = (.bool t84) ∧ ifP t84 (Run Try.prog 24 #[(.pointer q)] w_15 fun v_9 w_16 => ∃ (t88A : Option Addr) (t88n t88c : Nat), v_9 = (.slice t88A t88n t88c) ∧ letW (w_16.alloc (.cells #[(.int .u32 1), (.int .u32 0)] 61)) fun w_17 => Run Try.prog 23 #[(.slice t88A t88n t88c), (.slice (some (newA w_16)) 2 2)] w_17 fun v_10 w_18 => ∃ t90 : Bool, v_10 = (.bool t90) ∧ ifP t90 (Run Try.prog 17 #[(.pointer q)] w_18 fun v_11 w_19 => ∃ (t94A : Option Addr) (t94n t94c : Nat), v_11 = (.slice t94A t94n t94c) ∧ law21_awake.J1 R ((((t94n : Nat) : Int) : Int) == 2) w_19) (law21_awake.J1 R false w_18)) (law21_awake.J1 R false w_15)) (law21_awake.J1 R false w_13)) (law21_awake.J1 R false w_13)) (law21_awake.J1 R false w_13)) (law21_awake.J1 R false w_11)) (law21_awake.J1 R false w_11)) (law21_awake.J1 R false w_11)) (law21_awake.J1 R false w_11))

@[reducible] def law21_awake.vc (R : Value → World → Prop) (w : World) : Prop :=
  letW (w.alloc (.cells #[(.int .i64 1), (.int .i64 2)] 3)) fun w_2 => Run Try.prog 9 #[(.slice (some (newA w)) 2 2)] w_2 fun v w_3 => ∃ t170 : Option Addr, ∃ t171 : Int, v = (.tuple #[(.pointer t170), (.int .i64 t171)]) ∧ ifP ((t171 : Int) != 0) (law21_awake.J0 R t170 true w_3) (law21_awake.J0 R t170 (Option.isNone t170) w_3)

theorem law21_awake.eq (R : Value → World → Prop) (w : World) : fnVC Try.prog none law21_awake.live Try.f11 R [] w = law21_awake.vc R  w := by kernel_rfl
set_option maxHeartbeats 4000000 in
theorem law21_awake.ok {R : Value → World → Prop} {w : World} (h : law21_awake.vc R  w) : Run Try.prog 11 #[] w R := by
  have h2 := Eq.mpr (law21_awake.eq R  w) h
  exact fn_sound Try.mixed Try.func11 (by kernel_rfl) h2

/-! ### (*riddle/riddleref21.Queue).Take: function 25 -/
noncomputable def ref21_Queue_Take.body : Code := bodyOf Try.f25
def ref21_Queue_Take.live : Nat → List Nat
  | 0 => [0, 5]
  | _ => []
noncomputable def ref21_Queue_Take.c0 : Code := sub ref21_Queue_Take.body [1, 0, 1, 0, 0]
def ref21_Queue_Take.K0 (R : Value → World → Prop) : Ex → St → World → Prop := (blockK 0 (thenK (fun st w => code Try.prog none ref21_Queue_Take.live 0 (sub ref21_Queue_Take.body [1, 1]) (retK Try.prog Try.f25 R) st w) (retK Try.prog Try.f25 R)))
def ref21_Queue_Take.L0 (R : Value → World → Prop) (q : Option Addr) (c : Int) (w : World) : Prop :=
  loopVC (fun K => code Try.prog none ref21_Queue_Take.live 0 ref21_Queue_Take.c0 K) (ref21_Queue_Take.live 0) (ref21_Queue_Take.K0 R) [(.pointer q), undef, undef, undef, undef, (.int .i64 c), undef, undef, undef, undef, undef, undef, undef, undef, undef, undef, undef, undef, undef, undef, undef, undef, undef, undef, undef, undef, undef, undef, undef, undef, undef, undef, undef, undef, undef, undef, undef, undef, undef, undef, undef, undef, undef, undef, undef, undef, undef, undef, undef, undef] w
@[reducible] def ref21_Queue_Take.B0 (R : Value → World → Prop) (q : Option Addr) (c : Int) (w : World) : Prop :=
  ∃ t9p : Addr, q = some t9p ∧ ∃ (t11A : Option Addr) (t11n t11c : Nat), w.cell? (t9p.add 1) = some (.slice t11A t11n t11c) ∧ ifP (decide ((c : Int) < ((t11n : Nat) : Int)))
    (∃ t17p : Addr, q = some t17p ∧ ∃ (t19A : Option Addr) (t19n t19c : Nat), w.cell? (t17p.add 1) = some (.slice t19A t19n t19c) ∧ 0 ≤ (c : Int) ∧ (c : Int) < ((t19n : Nat) : Int) ∧ ∃ t21p : Addr, t19A = some t21p ∧ ∃ (t22A : Option Addr) (t22n t22c : Nat), w.cell? (t21p.add (Int.toNat c * 1)) = some (.slice t22A t22n t22c) ∧ ifP (decide ((((t22n : Nat) : Int) : Int) > 0))
    (∃ t26p : Addr, q = some t26p ∧ ∃ (t28A : Option Addr) (t28n t28c : Nat), w.cell? (t26p.add 1) = some (.slice t28A t28n t28c) ∧ 0 ≤ (c : Int) ∧ (c : Int) < ((t28n : Nat) : Int) ∧ ∃ t30p : Addr, t28A = some t30p ∧ ∃ (t31A : Option Addr) (t31n t31c : Nat), w.cell? (t30p.add (Int.toNat c * 1)) = some (.slice t31A t31n t31c) ∧ 0 ≤ (0 : Int) ∧ (0 : Int) < ((t31n : Nat) : Int) ∧ ∃ t32p : Addr, t31A = some t32p ∧ ∃ (t33A : Option Addr) (t33n t33c : Nat), w.cell? (t32p.add (Int.toNat 0 * 1)) = some (.slice t33A t33n t33c) ∧ ∃ S_ : World → Prop, S_ w.drew ∧ letW w.drew fun w_2 => ∃ t35p : Addr, q = some t35p ∧ ∃ (t37A : Option Addr) (t37n t37c : Nat), (∀ u : World, S_ u → u.cell? (t35p.add 1) = some (.slice t37A t37n t37c)) ∧ ∃ t40p : Addr, q = some t40p ∧ ∃ (t42A : Option Addr) (t42n t42c : Nat), (∀ u_2 : World, S_ u_2 → u_2.cell? (t40p.add 1) = some (.slice t42A t42n t42c)) ∧ 0 ≤ (c : Int) ∧ (c : Int) < ((t42n : Nat) : Int) ∧ ∃ t44p : Addr, t42A = some t44p ∧ ∃ (t45A : Option Addr) (t45n t45c : Nat), (∀ u_3 : World, S_ u_3 → u_3.cell? (t44p.add (Int.toNat c * 1)) = some (.slice t45A t45n t45c)) ∧ (0 : Int) ≤ 1 ∧ (1 : Int) ≤ ((t45n : Nat) : Int) ∧ (((t45n : Nat) : Int) : Int) ≤ ((t45c : Nat) : Int) ∧ 0 ≤ (c : Int) ∧ (c : Int) < ((t37n : Nat) : Int) ∧ ∃ t47p : Addr, t37A = some t47p ∧ (∃ u : Value, w_2.cell? (t47p.add (Int.toNat c * 1)) = some u) ∧ w_2.frozen? (t47p.add (Int.toNat c * 1)) = false ∧ letW (w_2.setCell (t47p.add (Int.toNat c * 1)) (.slice (subA t45A t45c 1 1) (t45n - 1) (t45c - 1))) fun w_3 => R (.tuple #[(.int .i64 c), (.slice t33A t33n t33c), (.bool true)]) w_3)
    (ref21_Queue_Take.L0 R q (IntKind.i64.wrap (c + 1)) w))
    (R (.tuple #[(.int .i64 0), (.slice none 0 0), (.bool false)]) w)

@[reducible] def ref21_Queue_Take.vc (R : Value → World → Prop) (q : Option Addr) (w : World) : Prop :=
  ref21_Queue_Take.L0 R q 0 w

theorem ref21_Queue_Take.B0_eq (R : Value → World → Prop) (q : Option Addr) (c : Int) (w : World) (ts : Nat → Value) :
    code Try.prog none ref21_Queue_Take.live 0 ref21_Queue_Take.c0 (thenK (fun st w => loopVC (fun K => code Try.prog none ref21_Queue_Take.live 0 ref21_Queue_Take.c0 K) (ref21_Queue_Take.live 0) (ref21_Queue_Take.K0 R) (clearFrom (ref21_Queue_Take.live 0) 0 st) w) (ref21_Queue_Take.K0 R)) (mergeFrom (ref21_Queue_Take.live 0) ts 0 (clearFrom (ref21_Queue_Take.live 0) 0 [(.pointer q), undef, undef, undef, undef, (.int .i64 c), undef, undef, undef, undef, undef, undef, undef, undef, undef, undef, undef, undef, undef, undef, undef, undef, undef, undef, undef, undef, undef, undef, undef, undef, undef, undef, undef, undef, undef, undef, undef, undef, undef, undef, undef, undef, undef, undef, undef, undef, undef, undef, undef, undef])) w = ref21_Queue_Take.B0 R q c w := by kernel_rfl
theorem ref21_Queue_Take.L0_step {R : Value → World → Prop} {q : Option Addr} {c : Int} {w : World} (h : ref21_Queue_Take.B0 R q c w) : ref21_Queue_Take.L0 R q c w :=
  loop_step (live := ref21_Queue_Take.live) (b := 0) (x := ref21_Queue_Take.c0) fun ts => Eq.mpr (ref21_Queue_Take.B0_eq R q c w ts) h
theorem ref21_Queue_Take.eq (R : Value → World → Prop) (q : Option Addr) (w : World) : fnVC Try.prog none ref21_Queue_Take.live Try.f25 R [(.pointer q)] w = ref21_Queue_Take.vc R q w := by kernel_rfl
set_option maxHeartbeats 4000000 in
theorem ref21_Queue_Take.ok {R : Value → World → Prop} {q : Option Addr} {w : World} (h : ref21_Queue_Take.vc R q w) : Run Try.prog 25 #[(.pointer q)] w R := by
  have h2 := Eq.mpr (ref21_Queue_Take.eq R q w) h
  exact fn_sound Try.mixed Try.func25 (by kernel_rfl) h2

/-! ### riddle/riddlelaw0.SpoilBytes: function 26 -/
noncomputable def law0_SpoilBytes.body : Code := bodyOf Try.f26
def law0_SpoilBytes.live : Nat → List Nat
  | 0 => [0, 2, 3]
  | 2 => [0, 4]
  | _ => []
noncomputable def law0_SpoilBytes.c0 : Code := sub law0_SpoilBytes.body [1, 0, 1, 0, 0]
noncomputable def law0_SpoilBytes.c2 : Code := sub law0_SpoilBytes.body [1, 1, 1, 0, 0]
def law0_SpoilBytes.K0 (R : Value → World → Prop) : Ex → St → World → Prop := (blockK 0 (thenK (fun st w => code Try.prog none law0_SpoilBytes.live 0 (sub law0_SpoilBytes.body [1, 1]) (retK Try.prog Try.f26 R) st w) (retK Try.prog Try.f26 R)))
def law0_SpoilBytes.L0 (R : Value → World → Prop) (aA : Option Addr) (an : Nat) (ac : Nat) (fullA : Option Addr) (fulln : Nat) (fullc : Nat) (i : Int) (w : World) : Prop :=
  loopVC (fun K => code Try.prog none law0_SpoilBytes.live 0 law0_SpoilBytes.c0 K) (law0_SpoilBytes.live 0) (law0_SpoilBytes.K0 R) [(.slice aA an ac), undef, (.slice fullA fulln fullc), (.int .i64 i), undef, undef, undef, undef, undef, undef, undef, undef, undef, undef, undef, undef, undef, undef, undef, undef, undef, undef, undef, undef, undef, undef] w
def law0_SpoilBytes.K2 (R : Value → World → Prop) : Ex → St → World → Prop := (blockK 2 (retK Try.prog Try.f26 R))
def law0_SpoilBytes.L2 (R : Value → World → Prop) (aA : Option Addr) (an : Nat) (ac : Nat) (i : Int) (w : World) : Prop :=
  loopVC (fun K => code Try.prog none law0_SpoilBytes.live 2 law0_SpoilBytes.c2 K) (law0_SpoilBytes.live 2) (law0_SpoilBytes.K2 R) [(.slice aA an ac), undef, undef, undef, (.int .i64 i), undef, undef, undef, undef, undef, undef, undef, undef, undef, undef, undef, undef, undef, undef, undef, undef, undef, undef, undef, undef, undef] w
@[reducible] def law0_SpoilBytes.B2 (R : Value → World → Prop) (aA : Option Addr) (an : Nat) (ac : Nat) (i : Int) (w : World) : Prop :=
  ifP (decide ((i : Int) < ((an : Nat) : Int)))
    (0 ≤ (i : Int) ∧ (i : Int) < ((an : Nat) : Int) ∧ ∃ t25p : Addr, aA = some t25p ∧ (∃ u : Value, w.cell? (t25p.add (Int.toNat i * 1)) = some u) ∧ w.frozen? (t25p.add (Int.toNat i * 1)) = false ∧ letW (w.setCell (t25p.add (Int.toNat i * 1)) (.int .u8 201)) fun w_2 => law0_SpoilBytes.L2 R aA an ac (IntKind.i64.wrap (i + 1)) w_2)
    (R (.tuple #[]) w)

@[reducible] def law0_SpoilBytes.B0 (R : Value → World → Prop) (aA : Option Addr) (an : Nat) (ac : Nat) (fullA : Option Addr) (fulln : Nat) (fullc : Nat) (i : Int) (w : World) : Prop :=
  ifP (decide ((i : Int) < ((fulln : Nat) : Int)))
    (0 ≤ (i : Int) ∧ (i : Int) < ((fulln : Nat) : Int) ∧ ∃ t16p : Addr, fullA = some t16p ∧ (∃ u : Value, w.cell? (t16p.add (Int.toNat i * 1)) = some u) ∧ w.frozen? (t16p.add (Int.toNat i * 1)) = false ∧ letW (w.setCell (t16p.add (Int.toNat i * 1)) (.int .u8 201)) fun w_2 => law0_SpoilBytes.L0 R aA an ac fullA fulln fullc (IntKind.i64.wrap (i + 1)) w_2)
    (law0_SpoilBytes.L2 R aA an ac 0 w)

@[reducible] def law0_SpoilBytes.vc (R : Value → World → Prop) (aA : Option Addr) (an : Nat) (ac : Nat) (w : World) : Prop :=
  letW (w.alloc (.cells #[(.int .u8 201)] 5)) fun w_2 => ∃ (v : Value) (w_3 : World), (Builtin.append_ #[35, 35] 35 #[(.slice aA an ac), (.slice (some (newA w)) 1 1)]).run Try.prog w_2 = .ok v w_3 ∧ ∃ (t7A : Option Addr) (t7n t7c : Nat), v = (.slice t7A t7n t7c) ∧ law0_SpoilBytes.L0 R aA an ac t7A t7n t7c 0 w_3

theorem law0_SpoilBytes.B0_eq (R : Value → World → Prop) (aA : Option Addr) (an : Nat) (ac : Nat) (fullA : Option Addr) (fulln : Nat) (fullc : Nat) (i : Int) (w : World) (ts : Nat → Value) :
    code Try.prog none law0_SpoilBytes.live 0 law0_SpoilBytes.c0 (thenK (fun st w => loopVC (fun K => code Try.prog none law0_SpoilBytes.live 0 law0_SpoilBytes.c0 K) (law0_SpoilBytes.live 0) (law0_SpoilBytes.K0 R) (clearFrom (law0_SpoilBytes.live 0) 0 st) w) (law0_SpoilBytes.K0 R)) (mergeFrom (law0_SpoilBytes.live 0) ts 0 (clearFrom (law0_SpoilBytes.live 0) 0 [(.slice aA an ac), undef, (.slice fullA fulln fullc), (.int .i64 i), undef, undef, undef, undef, undef, undef, undef, undef, undef, undef, undef, undef, undef, undef, undef, undef, undef, undef, undef, undef, undef, undef])) w = law0_SpoilBytes.B0 R aA an ac fullA fulln fullc i w := by kernel_rfl
theorem law0_SpoilBytes.L0_step {R : Value → World → Prop} {aA : Option Addr} {an : Nat} {ac : Nat} {fullA : Option Addr} {fulln : Nat} {fullc : Nat} {i : Int} {w : World} (h : law0_SpoilBytes.B0 R aA an ac fullA fulln fullc i w) : law0_SpoilBytes.L0 R aA an ac fullA fulln fullc i w :=
  loop_step (live := law0_SpoilBytes.live) (b := 0) (x := law0_SpoilBytes.c0) fun ts => Eq.mpr (law0_SpoilBytes.B0_eq R aA an ac fullA fulln fullc i w ts) h
theorem law0_SpoilBytes.B2_eq (R : Value → World → Prop) (aA : Option Addr) (an : Nat) (ac : Nat) (i : Int) (w : World) (ts : Nat → Value) :
    code Try.prog none law0_SpoilBytes.live 2 law0_SpoilBytes.c2 (thenK (fun st w => loopVC (fun K => code Try.prog none law0_SpoilBytes.live 2 law0_SpoilBytes.c2 K) (law0_SpoilBytes.live 2) (law0_SpoilBytes.K2 R) (clearFrom (law0_SpoilBytes.live 2) 0 st) w) (law0_SpoilBytes.K2 R)) (mergeFrom (law0_SpoilBytes.live 2) ts 0 (clearFrom (law0_SpoilBytes.live 2) 0 [(.slice aA an ac), undef, undef, undef, (.int .i64 i), undef, undef, undef, undef, undef, undef, undef, undef, undef, undef, undef, undef, undef, undef, undef, undef, undef, undef, undef, undef, undef])) w = law0_SpoilBytes.B2 R aA an ac i w := by kernel_rfl
theorem law0_SpoilBytes.L2_step {R : Value → World → Prop} {aA : Option Addr} {an : Nat} {ac : Nat} {i : Int} {w : World} (h : law0_SpoilBytes.B2 R aA an ac i w) : law0_SpoilBytes.L2 R aA an ac i w :=
  loop_step (live := law0_SpoilBytes.live) (b := 2) (x := law0_SpoilBytes.c2) fun ts => Eq.mpr (law0_SpoilBytes.B2_eq R aA an ac i w ts) h
theorem law0_SpoilBytes.eq (R : Value → World → Prop) (aA : Option Addr) (an : Nat) (ac : Nat) (w : World) : fnVC Try.prog none law0_SpoilBytes.live Try.f26 R [(.slice aA an ac)] w = law0_SpoilBytes.vc R aA an ac w := by kernel_rfl
set_option maxHeartbeats 4000000 in
theorem law0_SpoilBytes.ok {R : Value → World → Prop} {aA : Option Addr} {an : Nat} {ac : Nat} {w : World} (h : law0_SpoilBytes.vc R aA an ac w) : Run Try.prog 26 #[(.slice aA an ac)] w R := by
  have h2 := Eq.mpr (law0_SpoilBytes.eq R aA an ac w) h
  exact fn_sound Try.mixed Try.func26 (by kernel_rfl) h2

/-! ### (*riddle/riddleref21.Queue).Drain: function 27 -/
noncomputable def ref21_Queue_Drain.body : Code := bodyOf Try.f27
def ref21_Queue_Drain.live : Nat → List Nat
  | 0 => [0, 3]
  | _ => []
noncomputable def ref21_Queue_Drain.c0 : Code := sub ref21_Queue_Drain.body [1, 1, 0, 0]
def ref21_Queue_Drain.K0 (R : Value → World → Prop) : Ex → St → World → Prop := (blockK 0 (retK Try.prog Try.f27 R))
def ref21_Queue_Drain.L0 (R : Value → World → Prop) (q : Option Addr) (outA : Option Addr) (outn : Nat) (outc : Nat) (w : World) : Prop :=
  loopVC (fun K => code Try.prog none ref21_Queue_Drain.live 0 ref21_Queue_Drain.c0 K) (ref21_Queue_Drain.live 0) (ref21_Queue_Drain.K0 R) [(.pointer q), undef, undef, (.slice outA outn outc), undef, undef, undef, undef, undef, undef, undef, undef, undef, undef, undef, undef, undef, undef, undef, undef] w
@[reducible] def ref21_Queue_Drain.B0 (R : Value → World → Prop) (q : Option Addr) (outA : Option Addr) (outn : Nat) (outc : Nat) (w : World) : Prop :=
  Run Try.prog 25 #[(.pointer q)] w fun v w_2 => ∃ t90 : Int, ∃ (t91A : Option Addr) (t91n t91c : Nat), ∃ t92 : Bool, v = (.tuple #[(.int .i64 t90), (.slice t91A t91n t91c), (.bool t92)]) ∧ ifP (!t92)
    (R (.slice outA outn outc) w_2)
    (letW (w_2.alloc (.cells #[(.slice t91A t91n t91c)] 35)) fun w_3 => ∃ (v_2 : Value) (w_4 : World), (Builtin.append_ #[45, 45] 45 #[(.slice outA outn outc), (.slice (some (newA w_2)) 1 1)]).run Try.prog w_3 = .ok v_2 w_4 ∧ ∃ (t19A : Option Addr) (t19n t19c : Nat), v_2 = (.slice t19A t19n t19c) ∧ ref21_Queue_Drain.L0 R q t19A t19n t19c w_4)

@[reducible] def ref21_Queue_Drain.vc (R : Value → World → Prop) (q : Option Addr) (w : World) : Prop :=
  ref21_Queue_Drain.L0 R q none 0 0 w

theorem ref21_Queue_Drain.B0_eq (R : Value → World → Prop) (q : Option Addr) (outA : Option Addr) (outn : Nat) (outc : Nat) (w : World) (ts : Nat → Value) :
    code Try.prog none ref21_Queue_Drain.live 0 ref21_Queue_Drain.c0 (thenK (fun st w => loopVC (fun K => code Try.prog none ref21_Queue_Drain.live 0 ref21_Queue_Drain.c0 K) (ref21_Queue_Drain.live 0) (ref21_Queue_Drain.K0 R) (clearFrom (ref21_Queue_Drain.live 0) 0 st) w) (ref21_Queue_Drain.K0 R)) (mergeFrom (ref21_Queue_Drain.live 0) ts 0 (clearFrom (ref21_Queue_Drain.live 0) 0 [(.pointer q), undef, undef, (.slice outA outn outc), undef, undef, undef, undef, undef, undef, undef, undef, undef, undef, undef, undef, undef, undef, undef, undef])) w = ref21_Queue_Drain.B0 R q outA outn outc w := by kernel_rfl
theorem ref21_Queue_Drain.L0_step {R : Value → World → Prop} {q : Option Addr} {outA : Option Addr} {outn : Nat} {outc : Nat} {w : World} (h : ref21_Queue_Drain.B0 R q outA outn outc w) : ref21_Queue_Drain.L0 R q outA outn outc w :=
  loop_step (live := ref21_Queue_Drain.live) (b := 0) (x := ref21_Queue_Drain.c0) fun ts => Eq.mpr (ref21_Queue_Drain.B0_eq R q outA outn outc w ts) h
theorem ref21_Queue_Drain.eq (R : Value → World → Prop) (q : Option Addr) (w : World) : fnVC Try.prog none ref21_Queue_Drain.live Try.f27 R [(.pointer q)] w = ref21_Queue_Drain.vc R q w := by kernel_rfl
set_option maxHeartbeats 4000000 in
theorem ref21_Queue_Drain.ok {R : Value → World → Prop} {q : Option Addr} {w : World} (h : ref21_Queue_Drain.vc R q w) : Run Try.prog 27 #[(.pointer q)] w R := by
  have h2 := Eq.mpr (ref21_Queue_Drain.eq R q w) h
  exact fn_sound Try.mixed Try.func27 (by kernel_rfl) h2

/-! ### riddle/riddlelaw0.SameLists: function 28 -/
noncomputable def law0_SameLists.body : Code := bodyOf Try.f28
def law0_SameLists.live : Nat → List Nat
  | 0 => [0, 1, 5]
  | _ => []
noncomputable def law0_SameLists.c0 : Code := sub law0_SameLists.body [1, 1, 0, 1, 0, 0]
def law0_SameLists.K0 (R : Value → World → Prop) : Ex → St → World → Prop := (blockK 0 (thenK (fun st w => code Try.prog none law0_SameLists.live 0 (sub law0_SameLists.body [1, 1, 1]) (retK Try.prog Try.f28 R) st w) (retK Try.prog Try.f28 R)))
def law0_SameLists.L0 (R : Value → World → Prop) (aA : Option Addr) (an : Nat) (ac : Nat) (bA : Option Addr) (bn : Nat) (bc : Nat) (i : Int) (w : World) : Prop :=
  loopVC (fun K => code Try.prog none law0_SameLists.live 0 law0_SameLists.c0 K) (law0_SameLists.live 0) (law0_SameLists.K0 R) [(.slice aA an ac), (.slice bA bn bc), undef, undef, undef, (.int .i64 i), undef, undef, undef, undef, undef, undef, undef, undef, undef, undef, undef, undef, undef, undef, undef, undef, undef, undef, undef, undef, undef] w
@[reducible] def law0_SameLists.B0 (R : Value → World → Prop) (aA : Option Addr) (an : Nat) (ac : Nat) (bA : Option Addr) (bn : Nat) (bc : Nat) (i : Int) (w : World) : Prop :=
  ifP (decide ((i : Int) < ((an : Nat) : Int)))
    (∃ S_ : World → Prop, S_ w.drew ∧ letW w.drew fun w_2 => 0 ≤ (i : Int) ∧ (i : Int) < ((an : Nat) : Int) ∧ ∃ t19p : Addr, aA = some t19p ∧ ∃ (t20A : Option Addr) (t20n t20c : Nat), (∀ u : World, S_ u → u.cell? (t19p.add (Int.toNat i * 1)) = some (.slice t20A t20n t20c)) ∧ 0 ≤ (i : Int) ∧ (i : Int) < ((bn : Nat) : Int) ∧ ∃ t23p : Addr, bA = some t23p ∧ ∃ (t24A : Option Addr) (t24n t24c : Nat), (∀ u_2 : World, S_ u_2 → u_2.cell? (t23p.add (Int.toNat i * 1)) = some (.slice t24A t24n t24c)) ∧ Run Try.prog 19 #[(.slice t20A t20n t20c), (.slice t24A t24n t24c)] w_2 fun v w_3 => ∃ t25 : Bool, v = (.bool t25) ∧ ifP (!t25)
    (R (.bool false) w_3)
    (law0_SameLists.L0 R aA an ac bA bn bc (IntKind.i64.wrap (i + 1)) w_3))
    (R (.bool true) w)

@[reducible] def law0_SameLists.vc (R : Value → World → Prop) (aA : Option Addr) (an : Nat) (ac : Nat) (bA : Option Addr) (bn : Nat) (bc : Nat) (w : World) : Prop :=
  ifP ((((an : Nat) : Int) : Int) != ((bn : Nat) : Int))
    (R (.bool false) w)
    (law0_SameLists.L0 R aA an ac bA bn bc 0 w)

theorem law0_SameLists.B0_eq (R : Value → World → Prop) (aA : Option Addr) (an : Nat) (ac : Nat) (bA : Option Addr) (bn : Nat) (bc : Nat) (i : Int) (w : World) (ts : Nat → Value) :
    code Try.prog none law0_SameLists.live 0 law0_SameLists.c0 (thenK (fun st w => loopVC (fun K => code Try.prog none law0_SameLists.live 0 law0_SameLists.c0 K) (law0_SameLists.live 0) (law0_SameLists.K0 R) (clearFrom (law0_SameLists.live 0) 0 st) w) (law0_SameLists.K0 R)) (mergeFrom (law0_SameLists.live 0) ts 0 (clearFrom (law0_SameLists.live 0) 0 [(.slice aA an ac), (.slice bA bn bc), undef, undef, undef, (.int .i64 i), undef, undef, undef, undef, undef, undef, undef, undef, undef, undef, undef, undef, undef, undef, undef, undef, undef, undef, undef, undef, undef])) w = law0_SameLists.B0 R aA an ac bA bn bc i w := by kernel_rfl
theorem law0_SameLists.L0_step {R : Value → World → Prop} {aA : Option Addr} {an : Nat} {ac : Nat} {bA : Option Addr} {bn : Nat} {bc : Nat} {i : Int} {w : World} (h : law0_SameLists.B0 R aA an ac bA bn bc i w) : law0_SameLists.L0 R aA an ac bA bn bc i w :=
  loop_step (live := law0_SameLists.live) (b := 0) (x := law0_SameLists.c0) fun ts => Eq.mpr (law0_SameLists.B0_eq R aA an ac bA bn bc i w ts) h
theorem law0_SameLists.eq (R : Value → World → Prop) (aA : Option Addr) (an : Nat) (ac : Nat) (bA : Option Addr) (bn : Nat) (bc : Nat) (w : World) : fnVC Try.prog none law0_SameLists.live Try.f28 R [(.slice aA an ac), (.slice bA bn bc)] w = law0_SameLists.vc R aA an ac bA bn bc w := by kernel_rfl
set_option maxHeartbeats 4000000 in
theorem law0_SameLists.ok {R : Value → World → Prop} {aA : Option Addr} {an : Nat} {ac : Nat} {bA : Option Addr} {bn : Nat} {bc : Nat} {w : World} (h : law0_SameLists.vc R aA an ac bA bn bc w) : Run Try.prog 28 #[(.slice aA an ac), (.slice bA bn bc)] w R := by
  have h2 := Eq.mpr (law0_SameLists.eq R aA an ac bA bn bc w) h
  exact fn_sound Try.mixed Try.func28 (by kernel_rfl) h2

/-! ### riddle/riddlelaw0.SpoilLists: function 29 -/
noncomputable def law0_SpoilLists.body : Code := bodyOf Try.f29
def law0_SpoilLists.live : Nat → List Nat
  | 0 => [0, 2]
  | _ => []
noncomputable def law0_SpoilLists.c0 : Code := sub law0_SpoilLists.body [1, 0, 0]
def law0_SpoilLists.K0 (R : Value → World → Prop) : Ex → St → World → Prop := (blockK 0 (retK Try.prog Try.f29 R))
def law0_SpoilLists.L0 (R : Value → World → Prop) (aA : Option Addr) (an : Nat) (ac : Nat) (i : Int) (w : World) : Prop :=
  loopVC (fun K => code Try.prog none law0_SpoilLists.live 0 law0_SpoilLists.c0 K) (law0_SpoilLists.live 0) (law0_SpoilLists.K0 R) [(.slice aA an ac), undef, (.int .i64 i), undef, undef, undef, undef, undef, undef, undef, undef, undef, undef, undef, undef, undef, undef, undef] w
@[reducible] def law0_SpoilLists.B0 (R : Value → World → Prop) (aA : Option Addr) (an : Nat) (ac : Nat) (i : Int) (w : World) : Prop :=
  ifP (decide ((i : Int) < ((an : Nat) : Int)))
    (0 ≤ (i : Int) ∧ (i : Int) < ((an : Nat) : Int) ∧ ∃ t11p : Addr, aA = some t11p ∧ ∃ (t12A : Option Addr) (t12n t12c : Nat), w.cell? (t11p.add (Int.toNat i * 1)) = some (.slice t12A t12n t12c) ∧ Run Try.prog 26 #[(.slice t12A t12n t12c)] w fun v w_2 => v = (.tuple #[]) ∧ letW (w_2.alloc (.cells #[(.int .u8 7)] 5)) fun w_3 => 0 ≤ (i : Int) ∧ (i : Int) < ((an : Nat) : Int) ∧ ∃ t17p : Addr, aA = some t17p ∧ (∃ u : Value, w_3.cell? (t17p.add (Int.toNat i * 1)) = some u) ∧ w_3.frozen? (t17p.add (Int.toNat i * 1)) = false ∧ letW (w_3.setCell (t17p.add (Int.toNat i * 1)) (.slice (some (newA w_2)) 1 1)) fun w_4 => law0_SpoilLists.L0 R aA an ac (IntKind.i64.wrap (i + 1)) w_4)
    (R (.tuple #[]) w)

@[reducible] def law0_SpoilLists.vc (R : Value → World → Prop) (aA : Option Addr) (an : Nat) (ac : Nat) (w : World) : Prop :=
  law0_SpoilLists.L0 R aA an ac 0 w

theorem law0_SpoilLists.B0_eq (R : Value → World → Prop) (aA : Option Addr) (an : Nat) (ac : Nat) (i : Int) (w : World) (ts : Nat → Value) :
    code Try.prog none law0_SpoilLists.live 0 law0_SpoilLists.c0 (thenK (fun st w => loopVC (fun K => code Try.prog none law0_SpoilLists.live 0 law0_SpoilLists.c0 K) (law0_SpoilLists.live 0) (law0_SpoilLists.K0 R) (clearFrom (law0_SpoilLists.live 0) 0 st) w) (law0_SpoilLists.K0 R)) (mergeFrom (law0_SpoilLists.live 0) ts 0 (clearFrom (law0_SpoilLists.live 0) 0 [(.slice aA an ac), undef, (.int .i64 i), undef, undef, undef, undef, undef, undef, undef, undef, undef, undef, undef, undef, undef, undef, undef])) w = law0_SpoilLists.B0 R aA an ac i w := by kernel_rfl
theorem law0_SpoilLists.L0_step {R : Value → World → Prop} {aA : Option Addr} {an : Nat} {ac : Nat} {i : Int} {w : World} (h : law0_SpoilLists.B0 R aA an ac i w) : law0_SpoilLists.L0 R aA an ac i w :=
  loop_step (live := law0_SpoilLists.live) (b := 0) (x := law0_SpoilLists.c0) fun ts => Eq.mpr (law0_SpoilLists.B0_eq R aA an ac i w ts) h
theorem law0_SpoilLists.eq (R : Value → World → Prop) (aA : Option Addr) (an : Nat) (ac : Nat) (w : World) : fnVC Try.prog none law0_SpoilLists.live Try.f29 R [(.slice aA an ac)] w = law0_SpoilLists.vc R aA an ac w := by kernel_rfl
set_option maxHeartbeats 4000000 in
theorem law0_SpoilLists.ok {R : Value → World → Prop} {aA : Option Addr} {an : Nat} {ac : Nat} {w : World} (h : law0_SpoilLists.vc R aA an ac w) : Run Try.prog 29 #[(.slice aA an ac)] w R := by
  have h2 := Eq.mpr (law0_SpoilLists.eq R aA an ac w) h
  exact fn_sound Try.mixed Try.func29 (by kernel_rfl) h2

/-! ### (*riddle/riddleref21.Queue).Lens: function 30 -/
noncomputable def ref21_Queue_Lens.body : Code := bodyOf Try.f30
def ref21_Queue_Lens.live : Nat → List Nat
  | 0 => [0, 3, 4]
  | _ => []
noncomputable def ref21_Queue_Lens.c0 : Code := sub ref21_Queue_Lens.body [1, 1, 0, 1, 0, 0]
def ref21_Queue_Lens.K0 (R : Value → World → Prop) : Ex → St → World → Prop := (blockK 0 (thenK (fun st w => code Try.prog none ref21_Queue_Lens.live 0 (sub ref21_Queue_Lens.body [1, 1, 1]) (retK Try.prog Try.f30 R) st w) (retK Try.prog Try.f30 R)))
def ref21_Queue_Lens.L0 (R : Value → World → Prop) (q : Option Addr) (outA : Option Addr) (outn : Nat) (outc : Nat) (c : Int) (w : World) : Prop :=
  loopVC (fun K => code Try.prog none ref21_Queue_Lens.live 0 ref21_Queue_Lens.c0 K) (ref21_Queue_Lens.live 0) (ref21_Queue_Lens.K0 R) [(.pointer q), undef, undef, (.slice outA outn outc), (.int .i64 c), undef, undef, undef, undef, undef, undef, undef, undef, undef, undef, undef, undef, undef, undef, undef, undef, undef, undef, undef, undef, undef] w
@[reducible] def ref21_Queue_Lens.B0 (R : Value → World → Prop) (q : Option Addr) (outA : Option Addr) (outn : Nat) (outc : Nat) (c : Int) (w : World) : Prop :=
  ∃ t7p : Addr, q = some t7p ∧ ∃ (t9A : Option Addr) (t9n t9c : Nat), w.cell? (t7p.add 1) = some (.slice t9A t9n t9c) ∧ ifP (decide ((c : Int) < ((t9n : Nat) : Int)))
    (∃ t16p : Addr, q = some t16p ∧ ∃ (t18A : Option Addr) (t18n t18c : Nat), w.cell? (t16p.add 1) = some (.slice t18A t18n t18c) ∧ 0 ≤ (c : Int) ∧ (c : Int) < ((t18n : Nat) : Int) ∧ ∃ t20p : Addr, t18A = some t20p ∧ ∃ (t21A : Option Addr) (t21n t21c : Nat), w.cell? (t20p.add (Int.toNat c * 1)) = some (.slice t21A t21n t21c) ∧ letW (w.alloc (.cells #[(.int .i64 ((t21n : Nat) : Int))] 3)) fun w_2 => ∃ (v : Value) (w_3 : World), (Builtin.append_ #[22, 22] 22 #[(.slice outA outn outc), (.slice (some (newA w)) 1 1)]).run Try.prog w_2 = .ok v w_3 ∧ ∃ (t24A : Option Addr) (t24n t24c : Nat), v = (.slice t24A t24n t24c) ∧ ref21_Queue_Lens.L0 R q t24A t24n t24c (IntKind.i64.wrap (c + 1)) w_3)
    (R (.slice outA outn outc) w)

@[reducible] def ref21_Queue_Lens.vc (R : Value → World → Prop) (q : Option Addr) (w : World) : Prop :=
  ref21_Queue_Lens.L0 R q none 0 0 0 w

theorem ref21_Queue_Lens.B0_eq (R : Value → World → Prop) (q : Option Addr) (outA : Option Addr) (outn : Nat) (outc : Nat) (c : Int) (w : World) (ts : Nat → Value) :
    code Try.prog none ref21_Queue_Lens.live 0 ref21_Queue_Lens.c0 (thenK (fun st w => loopVC (fun K => code Try.prog none ref21_Queue_Lens.live 0 ref21_Queue_Lens.c0 K) (ref21_Queue_Lens.live 0) (ref21_Queue_Lens.K0 R) (clearFrom (ref21_Queue_Lens.live 0) 0 st) w) (ref21_Queue_Lens.K0 R)) (mergeFrom (ref21_Queue_Lens.live 0) ts 0 (clearFrom (ref21_Queue_Lens.live 0) 0 [(.pointer q), undef, undef, (.slice outA outn outc), (.int .i64 c), undef, undef, undef, undef, undef, undef, undef, undef, undef, undef, undef, undef, undef, undef, undef, undef, undef, undef, undef, undef, undef])) w = ref21_Queue_Lens.B0 R q outA outn outc c w := by kernel_rfl
theorem ref21_Queue_Lens.L0_step {R : Value → World → Prop} {q : Option Addr} {outA : Option Addr} {outn : Nat} {outc : Nat} {c : Int} {w : World} (h : ref21_Queue_Lens.B0 R q outA outn outc c w) : ref21_Queue_Lens.L0 R q outA outn outc c w :=
  loop_step (live := ref21_Queue_Lens.live) (b := 0) (x := ref21_Queue_Lens.c0) fun ts => Eq.mpr (ref21_Queue_Lens.B0_eq R q outA outn outc c w ts) h
theorem ref21_Queue_Lens.eq (R : Value → World → Prop) (q : Option Addr) (w : World) : fnVC Try.prog none ref21_Queue_Lens.live Try.f30 R [(.pointer q)] w = ref21_Queue_Lens.vc R q w := by kernel_rfl
set_option maxHeartbeats 4000000 in
theorem ref21_Queue_Lens.ok {R : Value → World → Prop} {q : Option Addr} {w : World} (h : ref21_Queue_Lens.vc R q w) : Run Try.prog 30 #[(.pointer q)] w R := by
  have h2 := Eq.mpr (ref21_Queue_Lens.eq R q w) h
  exact fn_sound Try.mixed Try.func30 (by kernel_rfl) h2

/-! ### riddle/riddlelaw0.SpoilWords: function 31 -/
noncomputable def law0_SpoilWords.body : Code := bodyOf Try.f31
def law0_SpoilWords.live : Nat → List Nat
  | 0 => [0, 2, 3]
  | 2 => [0, 4]
  | _ => []
noncomputable def law0_SpoilWords.c0 : Code := sub law0_SpoilWords.body [1, 0, 1, 0, 0]
noncomputable def law0_SpoilWords.c2 : Code := sub law0_SpoilWords.body [1, 1, 1, 0, 0]
def law0_SpoilWords.K0 (R : Value → World → Prop) : Ex → St → World → Prop := (blockK 0 (thenK (fun st w => code Try.prog none law0_SpoilWords.live 0 (sub law0_SpoilWords.body [1, 1]) (retK Try.prog Try.f31 R) st w) (retK Try.prog Try.f31 R)))
def law0_SpoilWords.L0 (R : Value → World → Prop) (aA : Option Addr) (an : Nat) (ac : Nat) (fullA : Option Addr) (fulln : Nat) (fullc : Nat) (i : Int) (w : World) : Prop :=
  loopVC (fun K => code Try.prog none law0_SpoilWords.live 0 law0_SpoilWords.c0 K) (law0_SpoilWords.live 0) (law0_SpoilWords.K0 R) [(.slice aA an ac), undef, (.slice fullA fulln fullc), (.int .i64 i), undef, undef, undef, undef, undef, undef, undef, undef, undef, undef, undef, undef, undef, undef, undef, undef, undef, undef, undef, undef, undef, undef] w
def law0_SpoilWords.K2 (R : Value → World → Prop) : Ex → St → World → Prop := (blockK 2 (retK Try.prog Try.f31 R))
def law0_SpoilWords.L2 (R : Value → World → Prop) (aA : Option Addr) (an : Nat) (ac : Nat) (i : Int) (w : World) : Prop :=
  loopVC (fun K => code Try.prog none law0_SpoilWords.live 2 law0_SpoilWords.c2 K) (law0_SpoilWords.live 2) (law0_SpoilWords.K2 R) [(.slice aA an ac), undef, undef, undef, (.int .i64 i), undef, undef, undef, undef, undef, undef, undef, undef, undef, undef, undef, undef, undef, undef, undef, undef, undef, undef, undef, undef, undef] w
@[reducible] def law0_SpoilWords.B2 (R : Value → World → Prop) (aA : Option Addr) (an : Nat) (ac : Nat) (i : Int) (w : World) : Prop :=
  ifP (decide ((i : Int) < ((an : Nat) : Int)))
    (0 ≤ (i : Int) ∧ (i : Int) < ((an : Nat) : Int) ∧ ∃ t25p : Addr, aA = some t25p ∧ (∃ u : Value, w.cell? (t25p.add (Int.toNat i * 1)) = some u) ∧ w.frozen? (t25p.add (Int.toNat i * 1)) = false ∧ letW (w.setCell (t25p.add (Int.toNat i * 1)) (.int .u32 77)) fun w_2 => law0_SpoilWords.L2 R aA an ac (IntKind.i64.wrap (i + 1)) w_2)
    (R (.tuple #[]) w)

@[reducible] def law0_SpoilWords.B0 (R : Value → World → Prop) (aA : Option Addr) (an : Nat) (ac : Nat) (fullA : Option Addr) (fulln : Nat) (fullc : Nat) (i : Int) (w : World) : Prop :=
  ifP (decide ((i : Int) < ((fulln : Nat) : Int)))
    (0 ≤ (i : Int) ∧ (i : Int) < ((fulln : Nat) : Int) ∧ ∃ t16p : Addr, fullA = some t16p ∧ (∃ u : Value, w.cell? (t16p.add (Int.toNat i * 1)) = some u) ∧ w.frozen? (t16p.add (Int.toNat i * 1)) = false ∧ letW (w.setCell (t16p.add (Int.toNat i * 1)) (.int .u32 77)) fun w_2 => law0_SpoilWords.L0 R aA an ac fullA fulln fullc (IntKind.i64.wrap (i + 1)) w_2)
    (law0_SpoilWords.L2 R aA an ac 0 w)

@[reducible] def law0_SpoilWords.vc (R : Value → World → Prop) (aA : Option Addr) (an : Nat) (ac : Nat) (w : World) : Prop :=
  letW (w.alloc (.cells #[(.int .u32 77)] 61)) fun w_2 => ∃ (v : Value) (w_3 : World), (Builtin.append_ #[54, 54] 54 #[(.slice aA an ac), (.slice (some (newA w)) 1 1)]).run Try.prog w_2 = .ok v w_3 ∧ ∃ (t7A : Option Addr) (t7n t7c : Nat), v = (.slice t7A t7n t7c) ∧ law0_SpoilWords.L0 R aA an ac t7A t7n t7c 0 w_3

theorem law0_SpoilWords.B0_eq (R : Value → World → Prop) (aA : Option Addr) (an : Nat) (ac : Nat) (fullA : Option Addr) (fulln : Nat) (fullc : Nat) (i : Int) (w : World) (ts : Nat → Value) :
    code Try.prog none law0_SpoilWords.live 0 law0_SpoilWords.c0 (thenK (fun st w => loopVC (fun K => code Try.prog none law0_SpoilWords.live 0 law0_SpoilWords.c0 K) (law0_SpoilWords.live 0) (law0_SpoilWords.K0 R) (clearFrom (law0_SpoilWords.live 0) 0 st) w) (law0_SpoilWords.K0 R)) (mergeFrom (law0_SpoilWords.live 0) ts 0 (clearFrom (law0_SpoilWords.live 0) 0 [(.slice aA an ac), undef, (.slice fullA fulln fullc), (.int .i64 i), undef, undef, undef, undef, undef, undef, undef, undef, undef, undef, undef, undef, undef, undef, undef, undef, undef, undef, undef, undef, undef, undef])) w = law0_SpoilWords.B0 R aA an ac fullA fulln fullc i w := by kernel_rfl
theorem law0_SpoilWords.L0_step {R : Value → World → Prop} {aA : Option Addr} {an : Nat} {ac : Nat} {fullA : Option Addr} {fulln : Nat} {fullc : Nat} {i : Int} {w : World} (h : law0_SpoilWords.B0 R aA an ac fullA fulln fullc i w) : law0_SpoilWords.L0 R aA an ac fullA fulln fullc i w :=
  loop_step (live := law0_SpoilWords.live) (b := 0) (x := law0_SpoilWords.c0) fun ts => Eq.mpr (law0_SpoilWords.B0_eq R aA an ac fullA fulln fullc i w ts) h
theorem law0_SpoilWords.B2_eq (R : Value → World → Prop) (aA : Option Addr) (an : Nat) (ac : Nat) (i : Int) (w : World) (ts : Nat → Value) :
    code Try.prog none law0_SpoilWords.live 2 law0_SpoilWords.c2 (thenK (fun st w => loopVC (fun K => code Try.prog none law0_SpoilWords.live 2 law0_SpoilWords.c2 K) (law0_SpoilWords.live 2) (law0_SpoilWords.K2 R) (clearFrom (law0_SpoilWords.live 2) 0 st) w) (law0_SpoilWords.K2 R)) (mergeFrom (law0_SpoilWords.live 2) ts 0 (clearFrom (law0_SpoilWords.live 2) 0 [(.slice aA an ac), undef, undef, undef, (.int .i64 i), undef, undef, undef, undef, undef, undef, undef, undef, undef, undef, undef, undef, undef, undef, undef, undef, undef, undef, undef, undef, undef])) w = law0_SpoilWords.B2 R aA an ac i w := by kernel_rfl
theorem law0_SpoilWords.L2_step {R : Value → World → Prop} {aA : Option Addr} {an : Nat} {ac : Nat} {i : Int} {w : World} (h : law0_SpoilWords.B2 R aA an ac i w) : law0_SpoilWords.L2 R aA an ac i w :=
  loop_step (live := law0_SpoilWords.live) (b := 2) (x := law0_SpoilWords.c2) fun ts => Eq.mpr (law0_SpoilWords.B2_eq R aA an ac i w ts) h
theorem law0_SpoilWords.eq (R : Value → World → Prop) (aA : Option Addr) (an : Nat) (ac : Nat) (w : World) : fnVC Try.prog none law0_SpoilWords.live Try.f31 R [(.slice aA an ac)] w = law0_SpoilWords.vc R aA an ac w := by kernel_rfl
set_option maxHeartbeats 4000000 in
theorem law0_SpoilWords.ok {R : Value → World → Prop} {aA : Option Addr} {an : Nat} {ac : Nat} {w : World} (h : law0_SpoilWords.vc R aA an ac w) : Run Try.prog 31 #[(.slice aA an ac)] w R := by
  have h2 := Eq.mpr (law0_SpoilWords.eq R aA an ac w) h
  exact fn_sound Try.mixed Try.func31 (by kernel_rfl) h2

/-! ### riddle/riddlelaw0.CopyBytes: function 38 -/
noncomputable def law0_CopyBytes.body : Code := bodyOf Try.f38
def law0_CopyBytes.live : Nat → List Nat
  | _ => []
@[reducible] def law0_CopyBytes.vc (R : Value → World → Prop) (aA : Option Addr) (an : Nat) (ac : Nat) (w : World) : Prop :=
  letW (w.alloc (.cells #[] 5)) fun w_2 => ∃ (v : Value) (w_3 : World), (Builtin.append_ #[35, 35] 35 #[(.slice (some (newA w)) 0 0), (.slice aA an ac)]).run Try.prog w_2 = .ok v w_3 ∧ ∃ (t5A : Option Addr) (t5n t5c : Nat), v = (.slice t5A t5n t5c) ∧ R (.slice t5A t5n t5c) w_3

theorem law0_CopyBytes.eq (R : Value → World → Prop) (aA : Option Addr) (an : Nat) (ac : Nat) (w : World) : fnVC Try.prog none law0_CopyBytes.live Try.f38 R [(.slice aA an ac)] w = law0_CopyBytes.vc R aA an ac w := by kernel_rfl
set_option maxHeartbeats 4000000 in
theorem law0_CopyBytes.ok {R : Value → World → Prop} {aA : Option Addr} {an : Nat} {ac : Nat} {w : World} (h : law0_CopyBytes.vc R aA an ac w) : Run Try.prog 38 #[(.slice aA an ac)] w R := by
  have h2 := Eq.mpr (law0_CopyBytes.eq R aA an ac w) h
  exact fn_sound Try.mixed Try.func38 (by kernel_rfl) h2

/-! ### riddle/riddlelaw0.LendBytes: function 32 -/
noncomputable def law0_LendBytes.body : Code := bodyOf Try.f32
def law0_LendBytes.live : Nat → List Nat
  | _ => []
@[reducible] def law0_LendBytes.vc (R : Value → World → Prop) (aA : Option Addr) (an : Nat) (ac : Nat) (w : World) : Prop :=
  Run Try.prog 38 #[(.slice aA an ac)] w fun v w_2 => ∃ (t5A : Option Addr) (t5n t5c : Nat), v = (.slice t5A t5n t5c) ∧ letW (w_2.alloc (.cells #[(.int .u8 201), (.int .u8 201), (.int .u8 201)] 5)) fun w_3 => ∃ (v_2 : Value) (w_4 : World), (Builtin.append_ #[35, 35] 35 #[(.slice t5A t5n t5c), (.slice (some (newA w_2)) 3 3)]).run Try.prog w_3 = .ok v_2 w_4 ∧ ∃ (t7A : Option Addr) (t7n t7c : Nat), v_2 = (.slice t7A t7n t7c) ∧ (0 : Int) ≤ 0 ∧ (0 : Int) ≤ ((an : Nat) : Int) ∧ (((an : Nat) : Int) : Int) ≤ ((t7c : Nat) : Int) ∧ R (.slice (subA t7A t7c 0 1) ((Int.toNat ((an : Nat) : Int)) - 0) (t7c - 0)) w_4

theorem law0_LendBytes.eq (R : Value → World → Prop) (aA : Option Addr) (an : Nat) (ac : Nat) (w : World) : fnVC Try.prog none law0_LendBytes.live Try.f32 R [(.slice aA an ac)] w = law0_LendBytes.vc R aA an ac w := by kernel_rfl
set_option maxHeartbeats 4000000 in
theorem law0_LendBytes.ok {R : Value → World → Prop} {aA : Option Addr} {an : Nat} {ac : Nat} {w : World} (h : law0_LendBytes.vc R aA an ac w) : Run Try.prog 32 #[(.slice aA an ac)] w R := by
  have h2 := Eq.mpr (law0_LendBytes.eq R aA an ac w) h
  exact fn_sound Try.mixed Try.func32 (by kernel_rfl) h2

/-! ### riddle/riddleref1.Add: function 39 -/
noncomputable def ref1_Add.body : Code := bodyOf Try.f39
def ref1_Add.live : Nat → List Nat
  | _ => []
@[reducible] def ref1_Add.vc (R : Value → World → Prop) (a : Int) (b : Int) (w : World) : Prop :=
  ifP (decide ((b : Int) > (IntKind.u32.wrap (4294967295 - a))))
    (R (.int .u32 4294967295) w)
    (R (.int .u32 (IntKind.u32.wrap (a + b))) w)

theorem ref1_Add.eq (R : Value → World → Prop) (a : Int) (b : Int) (w : World) : fnVC Try.prog none ref1_Add.live Try.f39 R [(.int .u32 a), (.int .u32 b)] w = ref1_Add.vc R a b w := by kernel_rfl
set_option maxHeartbeats 4000000 in
theorem ref1_Add.ok {R : Value → World → Prop} {a : Int} {b : Int} {w : World} (h : ref1_Add.vc R a b w) : Run Try.prog 39 #[(.int .u32 a), (.int .u32 b)] w R := by
  have h2 := Eq.mpr (ref1_Add.eq R a b w) h
  exact fn_sound Try.mixed Try.func39 (by kernel_rfl) h2

/-! ### (*riddle/riddleref21.Queue).Put: function 33 -/
noncomputable def ref21_Queue_Put.body : Code := bodyOf Try.f33
def ref21_Queue_Put.live : Nat → List Nat
  | _ => []
def ref21_Queue_Put.J1 (R : Value → World → Prop) (w : World) : Prop :=
  R (.tuple #[(.bool false), (.int .i64 0)]) w

def ref21_Queue_Put.J2 (R : Value → World → Prop) (w : World) : Prop :=
  R (.tuple #[(.bool true), (.int .i64 0)]) w

def ref21_Queue_Put.J0 (R : Value → World → Prop) (q : Option Addr) (class_ : Int) (bA : Option Addr) (bn : Nat) (bc : Nat) (t8 : Bool) (w : World) : Prop :=
  ifP t8
    (R (.tuple #[(.bool false), (.int .i64 211)]) w)
    (ifP (decide ((((bn : Nat) : Int) : Int) > 65535))
    (R (.tuple #[(.bool false), (.int .i64 212)]) w)
    (letW w.drew fun w_2 => ∃ t26p : Addr, q = some t26p ∧ ∃ (t28A : Option Addr) (t28n t28c : Nat), w_2.cell? (t26p.add 1) = some (.slice t28A t28n t28c) ∧ 0 ≤ (class_ : Int) ∧ (class_ : Int) < ((t28n : Nat) : Int) ∧ ∃ t30p : Addr, t28A = some t30p ∧ ∃ (t31A : Option Addr) (t31n t31c : Nat), w_2.cell? (t30p.add (Int.toNat class_ * 1)) = some (.slice t31A t31n t31c) ∧ ∃ t34p : Addr, q = some t34p ∧ ∃ (t36A : Option Addr) (t36n t36c : Nat), w_2.cell? t34p = some (.slice t36A t36n t36c) ∧ 0 ≤ (class_ : Int) ∧ (class_ : Int) < ((t36n : Nat) : Int) ∧ ∃ t38p : Addr, t36A = some t38p ∧ ∃ t39 : Int, w_2.cell? (t38p.add (Int.toNat class_ * 1)) = some (.int .i64 t39) ∧ ifP (decide ((((t31n : Nat) : Int) : Int) ≥ t39))
    (∃ S_ : World → Prop, S_ w_2.drew ∧ letW w_2.drew fun w_3 => ∃ t42p : Addr, q = some t42p ∧ ∃ (t44A : Option Addr) (t44n t44c : Nat), (∀ u : World, S_ u → u.cell? (t42p.add 2) = some (.slice t44A t44n t44c)) ∧ ∃ t47p : Addr, q = some t47p ∧ ∃ (t49A : Option Addr) (t49n t49c : Nat), (∀ u_2 : World, S_ u_2 → u_2.cell? (t47p.add 2) = some (.slice t49A t49n t49c)) ∧ 0 ≤ (class_ : Int) ∧ (class_ : Int) < ((t49n : Nat) : Int) ∧ ∃ t51p : Addr, t49A = some t51p ∧ ∃ t52 : Int, (∀ u_3 : World, S_ u_3 → u_3.cell? (t51p.add (Int.toNat class_ * 1)) = some (.int .u32 t52)) ∧ Run Try.prog 39 #[(.int .u32 t52), (.int .u32 1)] w_3 fun v w_4 => ∃ t53 : Int, v = (.int .u32 t53) ∧ S_ w_4 ∧ 0 ≤ (class_ : Int) ∧ (class_ : Int) < ((t44n : Nat) : Int) ∧ ∃ t54p : Addr, t44A = some t54p ∧ (∃ u : Value, w_4.cell? (t54p.add (Int.toNat class_ * 1)) = some u) ∧ w_4.frozen? (t54p.add (Int.toNat class_ * 1)) = false ∧ letW (w_4.setCell (t54p.add (Int.toNat class_ * 1)) (.int .u32 t53)) fun w_5 => ref21_Queue_Put.J1 R w_5)
    (∃ S__2 : World → Prop, S__2 w_2.drew ∧ letW w_2.drew fun w_6 => ∃ t56p : Addr, q = some t56p ∧ ∃ (t58A : Option Addr) (t58n t58c : Nat), (∀ u_4 : World, S__2 u_4 → u_4.cell? (t56p.add 1) = some (.slice t58A t58n t58c)) ∧ ∃ t61p : Addr, q = some t61p ∧ ∃ (t63A : Option Addr) (t63n t63c : Nat), (∀ u_5 : World, S__2 u_5 → u_5.cell? (t61p.add 1) = some (.slice t63A t63n t63c)) ∧ 0 ≤ (class_ : Int) ∧ (class_ : Int) < ((t63n : Nat) : Int) ∧ ∃ t65p : Addr, t63A = some t65p ∧ ∃ (t66A : Option Addr) (t66n t66c : Nat), (∀ u_6 : World, S__2 u_6 → u_6.cell? (t65p.add (Int.toNat class_ * 1)) = some (.slice t66A t66n t66c)) ∧ letW (w_6.alloc (.cells #[] 5)) fun w_7 => S__2 w_7 ∧ ∃ (v_2 : Value) (w_8 : World), (Builtin.append_ #[35, 35] 35 #[(.slice (some (newA w_6)) 0 0), (.slice bA bn bc)]).run Try.prog w_7 = .ok v_2 w_8 ∧ ∃ (t69A : Option Addr) (t69n t69c : Nat), v_2 = (.slice t69A t69n t69c) ∧ S__2 w_8 ∧ letW (w_8.alloc (.cells #[(.slice t69A t69n t69c)] 35)) fun w_9 => S__2 w_9 ∧ ∃ (v_3 : Value) (w_10 : World), (Builtin.append_ #[45, 45] 45 #[(.slice t66A t66n t66c), (.slice (some (newA w_8)) 1 1)]).run Try.prog w_9 = .ok v_3 w_10 ∧ ∃ (t71A : Option Addr) (t71n t71c : Nat), v_3 = (.slice t71A t71n t71c) ∧ S__2 w_10 ∧ 0 ≤ (class_ : Int) ∧ (class_ : Int) < ((t58n : Nat) : Int) ∧ ∃ t72p : Addr, t58A = some t72p ∧ (∃ u : Value, w_10.cell? (t72p.add (Int.toNat class_ * 1)) = some u) ∧ w_10.frozen? (t72p.add (Int.toNat class_ * 1)) = false ∧ letW (w_10.setCell (t72p.add (Int.toNat class_ * 1)) (.slice t71A t71n t71c)) fun w_11 => ref21_Queue_Put.J2 R w_11)))

@[reducible] def ref21_Queue_Put.vc (R : Value → World → Prop) (q : Option Addr) (class_ : Int) (bA : Option Addr) (bn : Nat) (bc : Nat) (w : World) : Prop :=
  ifP (decide ((class_ : Int) < 0)) (ref21_Queue_Put.J0 R q class_ bA bn bc true w) (∃ t14p : Addr, q = some t14p ∧ ∃ (t16A : Option Addr) (t16n t16c : Nat), w.cell? t14p = some (.slice t16A t16n t16c) ∧ ref21_Queue_Put.J0 R q class_ bA bn bc (decide ((class_ : Int) ≥ ((t16n : Nat) : Int))) w)

theorem ref21_Queue_Put.eq (R : Value → World → Prop) (q : Option Addr) (class_ : Int) (bA : Option Addr) (bn : Nat) (bc : Nat) (w : World) : fnVC Try.prog none ref21_Queue_Put.live Try.f33 R [(.pointer q), (.int .i64 class_), (.slice bA bn bc)] w = ref21_Queue_Put.vc R q class_ bA bn bc w := by kernel_rfl
set_option maxHeartbeats 4000000 in
theorem ref21_Queue_Put.ok {R : Value → World → Prop} {q : Option Addr} {class_ : Int} {bA : Option Addr} {bn : Nat} {bc : Nat} {w : World} (h : ref21_Queue_Put.vc R q class_ bA bn bc w) : Run Try.prog 33 #[(.pointer q), (.int .i64 class_), (.slice bA bn bc)] w R := by
  have h2 := Eq.mpr (ref21_Queue_Put.eq R q class_ bA bn bc w) h
  exact fn_sound Try.mixed Try.func33 (by kernel_rfl) h2

/-! ### riddle/riddlelaw0.KeptBytes: function 34 -/
noncomputable def law0_KeptBytes.body : Code := bodyOf Try.f34
def law0_KeptBytes.live : Nat → List Nat
  | _ => []
def law0_KeptBytes.J0 (R : Value → World → Prop) (fullA : Option Addr) (fulln : Nat) (fullc : Nat) (ok_ : Bool) (w : World) : Prop :=
  Run Try.prog 26 #[(.slice fullA fulln fullc)] w fun v w_2 => v = (.tuple #[]) ∧ R (.bool ok_) w_2

@[reducible] def law0_KeptBytes.vc (R : Value → World → Prop) (lentA : Option Addr) (lentn : Nat) (lentc : Nat) (aA : Option Addr) (an : Nat) (ac : Nat) (w : World) : Prop :=
  (0 : Int) ≤ 0 ∧ (0 : Int) ≤ IntKind.i64.wrap (((lentn : Nat) : Int) + 3) ∧ (IntKind.i64.wrap (((lentn : Nat) : Int) + 3) : Int) ≤ ((lentc : Nat) : Int) ∧ Run Try.prog 19 #[(.slice lentA lentn lentc), (.slice aA an ac)] w fun v w_2 => ∃ t14 : Bool, v = (.bool t14) ∧ ifP t14 ((0 : Int) ≤ ((an : Nat) : Int) ∧ (((an : Nat) : Int) : Int) ≤ (((Int.toNat (IntKind.i64.wrap (((lentn : Nat) : Int) + 3))) - 0 : Nat) : Int) ∧ ((((Int.toNat (IntKind.i64.wrap (((lentn : Nat) : Int) + 3))) - 0 : Nat) : Int) : Int) ≤ ((lentc - 0 : Nat) : Int) ∧ letW (w_2.alloc (.cells #[(.int .u8 201), (.int .u8 201), (.int .u8 201)] 5)) fun w_3 => Run Try.prog 19 #[(.slice (subA (subA lentA lentc 0 1) (lentc - 0) (Int.toNat ((an : Nat) : Int)) 1) (((Int.toNat (IntKind.i64.wrap (((lentn : Nat) : Int) + 3))) - 0) - (Int.toNat ((an : Nat) : Int))) ((lentc - 0) - (Int.toNat ((an : Nat) : Int)))), (.slice (some (newA w_2)) 3 3)] w_3 fun v_2 w_4 => ∃ t21 : Bool, v_2 = (.bool t21) ∧ law0_KeptBytes.J0 R (subA lentA lentc 0 1) ((Int.toNat (IntKind.i64.wrap (((lentn : Nat) : Int) + 3))) - 0) (lentc - 0) t21 w_4) (law0_KeptBytes.J0 R (subA lentA lentc 0 1) ((Int.toNat (IntKind.i64.wrap (((lentn : Nat) : Int) + 3))) - 0) (lentc - 0) false w_2)

theorem law0_KeptBytes.eq (R : Value → World → Prop) (lentA : Option Addr) (lentn : Nat) (lentc : Nat) (aA : Option Addr) (an : Nat) (ac : Nat) (w : World) : fnVC Try.prog none law0_KeptBytes.live Try.f34 R [(.slice lentA lentn lentc), (.slice aA an ac)] w = law0_KeptBytes.vc R lentA lentn lentc aA an ac w := by kernel_rfl
set_option maxHeartbeats 4000000 in
theorem law0_KeptBytes.ok {R : Value → World → Prop} {lentA : Option Addr} {lentn : Nat} {lentc : Nat} {aA : Option Addr} {an : Nat} {ac : Nat} {w : World} (h : law0_KeptBytes.vc R lentA lentn lentc aA an ac w) : Run Try.prog 34 #[(.slice lentA lentn lentc), (.slice aA an ac)] w R := by
  have h2 := Eq.mpr (law0_KeptBytes.eq R lentA lentn lentc aA an ac w) h
  exact fn_sound Try.mixed Try.func34 (by kernel_rfl) h2

/-! ### riddle/riddlelaw21.told: function 13 -/
noncomputable def law21_told.body : Code := bodyOf Try.f13
def law21_told.live : Nat → List Nat
  | _ => []
def law21_told.J0 (R : Value → World → Prop) (bA : Option Addr) (bn : Nat) (bc : Nat) (same : Bool) (w : World) : Prop :=
  Run Try.prog 26 #[(.slice bA bn bc)] w fun v w_2 => v = (.tuple #[]) ∧ R (.bool same) w_2

def law21_told.J1 (R : Value → World → Prop) (t6 : Bool) (w : World) : Prop :=
  R (.bool t6) w

def law21_told.J2 (R : Value → World → Prop) (t6 : Bool) (w : World) : Prop :=
  R (.bool t6) w

def law21_told.J3 (R : Value → World → Prop) (t6 : Bool) (w : World) : Prop :=
  R (.bool t6) w

@[reducible] def law21_told.vc (R : Value → World → Prop) (q : Option Addr) (w : Option Addr) (a_0 : Int) (a_1 : Int) (a_2A : Option Addr) (a_2n : Nat) (a_2c : Nat) (w_2 : World) : Prop :=
  letW (w_2.alloc (.cells #[(.int .i64 a_0), (.int .i64 a_1), (.slice a_2A a_2n a_2c)] 37)) fun w_3 => ∃ t29 : Int, w_3.cell? (newA w_2) = some (.int .i64 t29) ∧ ifP ((t29 : Int) == 0)
    (Run Try.prog 18 #[(.pointer q)] w_3 fun v w_4 => ∃ t340 : Int, ∃ (t341A : Option Addr) (t341n t341c : Nat), ∃ t342 : Bool, v = (.tuple #[(.int .i64 t340), (.slice t341A t341n t341c), (.bool t342)]) ∧ Run Try.prog 25 #[(.pointer w)] w_4 fun v_2 w_5 => ∃ t400 : Int, ∃ (t401A : Option Addr) (t401n t401c : Nat), ∃ t402 : Bool, v_2 = (.tuple #[(.int .i64 t400), (.slice t401A t401n t401c), (.bool t402)]) ∧ ifP ((t340 : Int) == t400) (ifP (t342 == t402) (Run Try.prog 19 #[(.slice t341A t341n t341c), (.slice t401A t401n t401c)] w_5 fun v_3 w_6 => ∃ t55 : Bool, v_3 = (.bool t55) ∧ law21_told.J0 R t341A t341n t341c t55 w_6) (law21_told.J0 R t341A t341n t341c false w_5)) (law21_told.J0 R t341A t341n t341c false w_5))
    (ifP ((t29 : Int) == 1)
    (Run Try.prog 17 #[(.pointer q)] w_3 fun v_4 w_7 => ∃ (t63A : Option Addr) (t63n t63c : Nat), v_4 = (.slice t63A t63n t63c) ∧ Run Try.prog 27 #[(.pointer w)] w_7 fun v_5 w_8 => ∃ (t65A : Option Addr) (t65n t65c : Nat), v_5 = (.slice t65A t65n t65c) ∧ Run Try.prog 28 #[(.slice t63A t63n t63c), (.slice t65A t65n t65c)] w_8 fun v_6 w_9 => ∃ t68 : Bool, v_6 = (.bool t68) ∧ Run Try.prog 29 #[(.slice t63A t63n t63c)] w_9 fun v_7 w_10 => v_7 = (.tuple #[]) ∧ R (.bool t68) w_10)
    (ifP ((t29 : Int) == 2)
    (Run Try.prog 21 #[(.pointer q)] w_3 fun v_8 w_11 => ∃ (t75A : Option Addr) (t75n t75c : Nat), v_8 = (.slice t75A t75n t75c) ∧ Run Try.prog 21 #[(.pointer q)] w_11 fun v_9 w_12 => ∃ (t77A : Option Addr) (t77n t77c : Nat), v_9 = (.slice t77A t77n t77c) ∧ Run Try.prog 30 #[(.pointer w)] w_12 fun v_10 w_13 => ∃ (t80A : Option Addr) (t80n t80c : Nat), v_10 = (.slice t80A t80n t80c) ∧ Run Try.prog 20 #[(.slice t75A t75n t75c), (.slice t80A t80n t80c)] w_13 fun v_11 w_14 => ∃ t81 : Bool, v_11 = (.bool t81) ∧ Run Try.prog 22 #[(.slice t75A t75n t75c)] w_14 fun v_12 w_15 => v_12 = (.tuple #[]) ∧ ifP t81 (Run Try.prog 30 #[(.pointer w)] w_15 fun v_13 w_16 => ∃ (t88A : Option Addr) (t88n t88c : Nat), v_13 = (.slice t88A t88n t88c) ∧ Run Try.prog 20 #[(.slice t77A t77n t77c), (.slice t88A t88n t88c)] w_16 fun v_14 w_17 => ∃ t89 : Bool, v_14 = (.bool t89) ∧ law21_told.J1 R t89 w_17) (law21_told.J1 R false w_15))
    (ifP ((t29 : Int) == 3)
    (Run Try.prog 24 #[(.pointer q)] w_3 fun v_15 w_18 => ∃ (t94A : Option Addr) (t94n t94c : Nat), v_15 = (.slice t94A t94n t94c) ∧ Run Try.prog 24 #[(.pointer q)] w_18 fun v_16 w_19 => ∃ (t96A : Option Addr) (t96n t96c : Nat), v_16 = (.slice t96A t96n t96c) ∧ ∃ t99p : Addr, w = some t99p ∧ ∃ (t101A : Option Addr) (t101n t101c : Nat), w_19.cell? (t99p.add 2) = some (.slice t101A t101n t101c) ∧ Run Try.prog 23 #[(.slice t94A t94n t94c), (.slice t101A t101n t101c)] w_19 fun v_17 w_20 => ∃ t102 : Bool, v_17 = (.bool t102) ∧ Run Try.prog 31 #[(.slice t94A t94n t94c)] w_20 fun v_18 w_21 => v_18 = (.tuple #[]) ∧ ifP t102 (∃ t109p : Addr, w = some t109p ∧ ∃ (t111A : Option Addr) (t111n t111c : Nat), w_21.cell? (t109p.add 2) = some (.slice t111A t111n t111c) ∧ Run Try.prog 23 #[(.slice t96A t96n t96c), (.slice t111A t111n t111c)] w_21 fun v_19 w_22 => ∃ t112 : Bool, v_19 = (.bool t112) ∧ law21_told.J2 R t112 w_22) (law21_told.J2 R false w_21))
    (∃ (t115A : Option Addr) (t115n t115c : Nat), w_3.cell? ((newA w_2).add 2) = some (.slice t115A t115n t115c) ∧ Run Try.prog 32 #[(.slice t115A t115n t115c)] w_3 fun v_20 w_23 => ∃ (t116A : Option Addr) (t116n t116c : Nat), v_20 = (.slice t116A t116n t116c) ∧ ∃ t120 : Int, w_23.cell? ((newA w_2).add 1) = some (.int .i64 t120) ∧ Run Try.prog 15 #[(.pointer q), (.int .i64 t120), (.slice t116A t116n t116c)] w_23 fun v_21 w_24 => ∃ t1220 : Bool, ∃ t1221 : Int, v_21 = (.tuple #[(.bool t1220), (.int .i64 t1221)]) ∧ ∃ t128 : Int, w_24.cell? ((newA w_2).add 1) = some (.int .i64 t128) ∧ ∃ (t130A : Option Addr) (t130n t130c : Nat), w_24.cell? ((newA w_2).add 2) = some (.slice t130A t130n t130c) ∧ Run Try.prog 33 #[(.pointer w), (.int .i64 t128), (.slice t130A t130n t130c)] w_24 fun v_22 w_25 => ∃ t1310 : Bool, ∃ t1311 : Int, v_22 = (.tuple #[(.bool t1310), (.int .i64 t1311)]) ∧ ∃ (t136A : Option Addr) (t136n t136c : Nat), w_25.cell? ((newA w_2).add 2) = some (.slice t136A t136n t136c) ∧ Run Try.prog 34 #[(.slice t116A t116n t116c), (.slice t136A t136n t136c)] w_25 fun v_23 w_26 => ∃ t137 : Bool, v_23 = (.bool t137) ∧ ifP t137 (ifP (t1220 == t1310) (law21_told.J3 R ((t1221 : Int) == t1311) w_26) (law21_told.J3 R false w_26)) (law21_told.J3 R false w_26)))))

theorem law21_told.eq (R : Value → World → Prop) (q : Option Addr) (w : Option Addr) (a_0 : Int) (a_1 : Int) (a_2A : Option Addr) (a_2n : Nat) (a_2c : Nat) (w_2 : World) : fnVC Try.prog none law21_told.live Try.f13 R [(.pointer q), (.pointer w), (.agg #[(.int .i64 a_0), (.int .i64 a_1), (.slice a_2A a_2n a_2c)])] w_2 = law21_told.vc R q w a_0 a_1 a_2A a_2n a_2c w_2 := by kernel_rfl
set_option maxHeartbeats 4000000 in
theorem law21_told.ok {R : Value → World → Prop} {q : Option Addr} {w : Option Addr} {a_0 : Int} {a_1 : Int} {a_2A : Option Addr} {a_2n : Nat} {a_2c : Nat} {w_2 : World} (h : law21_told.vc R q w a_0 a_1 a_2A a_2n a_2c w_2) : Run Try.prog 13 #[(.pointer q), (.pointer w), (.agg #[(.int .i64 a_0), (.int .i64 a_1), (.slice a_2A a_2n a_2c)])] w_2 R := by
  have h2 := Eq.mpr (law21_told.eq R q w a_0 a_1 a_2A a_2n a_2c w_2) h
  exact fn_sound Try.mixed Try.func13 (by kernel_rfl) h2

/-! ### riddle/riddlelaw21.QueuePlays: function 3 -/
noncomputable def law21_QueuePlays.body : Code := bodyOf Try.f3
def law21_QueuePlays.live : Nat → List Nat
  | 0 => [1, 5, 8, 10, 12, 14]
  | _ => []
noncomputable def law21_QueuePlays.c0 : Code := sub law21_QueuePlays.body [1, 1, 1, 1, 1, 1, 1, 1, 1, 0, 1, 0, 0]
def law21_QueuePlays.K0 (R : Value → World → Prop) : Ex → St → World → Prop := (blockK 0 (thenK (fun st w => code Try.prog none law21_QueuePlays.live 0 (sub law21_QueuePlays.body [1, 1, 1, 1, 1, 1, 1, 1, 1, 1]) (retK Try.prog Try.f3 R) st w) (retK Try.prog Try.f3 R)))
def law21_QueuePlays.L0 (R : Value → World → Prop) (actsA : Option Addr) (actsn : Nat) (actsc : Nat) (w : Option Addr) (q : Option Addr) (p : Option Addr) (v : Option Addr) (i : Int) (w_2 : World) : Prop :=
  loopVC (fun K => code Try.prog none law21_QueuePlays.live 0 law21_QueuePlays.c0 K) (law21_QueuePlays.live 0) (law21_QueuePlays.K0 R) [undef, (.slice actsA actsn actsc), undef, undef, undef, (.pointer w), undef, undef, (.pointer q), undef, (.pointer p), undef, (.pointer v), undef, (.int .i64 i), undef, undef, undef, undef, undef, undef, undef, undef, undef, undef, undef, undef, undef, undef, undef, undef, undef, undef, undef, undef, undef, undef, undef, undef, undef, undef, undef, undef, undef, undef, undef, undef, undef, undef, undef, undef, undef, undef, undef, undef, undef, undef, undef, undef, undef, undef, undef, undef, undef, undef, undef, undef, undef, undef, undef, undef, undef, undef, undef, undef, undef, undef, undef, undef, undef, undef, undef, undef, undef, undef, undef, undef, undef, undef, undef, undef, undef, undef, undef, undef, undef, undef, undef, undef, undef, undef, undef, undef, undef, undef, undef, undef, undef, undef, undef, undef, undef, undef] w_2
def law21_QueuePlays.J1 (R : Value → World → Prop) (actsA : Option Addr) (actsn : Nat) (actsc : Nat) (w : Option Addr) (q : Option Addr) (p : Option Addr) (v : Option Addr) (i : Int) (t87 : Bool) (w_2 : World) : Prop :=
  ifP t87
    (R (.bool false) w_2)
    (law21_QueuePlays.L0 R actsA actsn actsc w q p v (IntKind.i64.wrap (i + 1)) w_2)

def law21_QueuePlays.J2 (R : Value → World → Prop) (t4 : Bool) (w : World) : Prop :=
  R (.bool t4) w

@[reducible] def law21_QueuePlays.B0 (R : Value → World → Prop) (actsA : Option Addr) (actsn : Nat) (actsc : Nat) (w : Option Addr) (q : Option Addr) (p : Option Addr) (v : Option Addr) (i : Int) (w_2 : World) : Prop :=
  ifP (decide ((i : Int) < ((actsn : Nat) : Int)))
    (0 ≤ (i : Int) ∧ (i : Int) < ((actsn : Nat) : Int) ∧ ∃ t69p : Addr, actsA = some t69p ∧ ∃ t70_0 : Int, w_2.cell? (t69p.add (Int.toNat i * 3)) = some (.int .i64 t70_0) ∧ ∃ t70_1 : Int, w_2.cell? ((t69p.add (Int.toNat i * 3)).add 1) = some (.int .i64 t70_1) ∧ ∃ (t70_2A : Option Addr) (t70_2n t70_2c : Nat), w_2.cell? ((t69p.add (Int.toNat i * 3)).add 2) = some (.slice t70_2A t70_2n t70_2c) ∧ Run Try.prog 13 #[(.pointer q), (.pointer w), (.agg #[(.int .i64 t70_0), (.int .i64 t70_1), (.slice t70_2A t70_2n t70_2c)])] w_2 fun v_2 w_3 => ∃ t71 : Bool, v_2 = (.bool t71) ∧ ifP (!t71) (law21_QueuePlays.J1 R actsA actsn actsc w q p v i true w_3) (ifP ((Int.tmod i 3 : Int) == 0) (0 ≤ (i : Int) ∧ (i : Int) < ((actsn : Nat) : Int) ∧ ∃ t82p : Addr, actsA = some t82p ∧ ∃ t83_0 : Int, w_3.cell? (t82p.add (Int.toNat i * 3)) = some (.int .i64 t83_0) ∧ ∃ t83_1 : Int, w_3.cell? ((t82p.add (Int.toNat i * 3)).add 1) = some (.int .i64 t83_1) ∧ ∃ (t83_2A : Option Addr) (t83_2n t83_2c : Nat), w_3.cell? ((t82p.add (Int.toNat i * 3)).add 2) = some (.slice t83_2A t83_2n t83_2c) ∧ Run Try.prog 13 #[(.pointer p), (.pointer v), (.agg #[(.int .i64 t83_0), (.int .i64 t83_1), (.slice t83_2A t83_2n t83_2c)])] w_3 fun v_3 w_4 => ∃ t84 : Bool, v_3 = (.bool t84) ∧ law21_QueuePlays.J1 R actsA actsn actsc w q p v i (!t84) w_4) (law21_QueuePlays.J1 R actsA actsn actsc w q p v i false w_3)))
    (Run Try.prog 13 #[(.pointer q), (.pointer w), (.agg #[(.int .i64 2), (.int .i64 0), (.slice none 0 0)])] w_2 fun v_4 w_5 => ∃ t91 : Bool, v_4 = (.bool t91) ∧ ifP t91 (Run Try.prog 13 #[(.pointer q), (.pointer w), (.agg #[(.int .i64 3), (.int .i64 0), (.slice none 0 0)])] w_5 fun v_5 w_6 => ∃ t96 : Bool, v_5 = (.bool t96) ∧ ifP t96 (Run Try.prog 13 #[(.pointer q), (.pointer w), (.agg #[(.int .i64 1), (.int .i64 0), (.slice none 0 0)])] w_6 fun v_6 w_7 => ∃ t102 : Bool, v_6 = (.bool t102) ∧ ifP t102 (Run Try.prog 13 #[(.pointer p), (.pointer v), (.agg #[(.int .i64 1), (.int .i64 0), (.slice none 0 0)])] w_7 fun v_7 w_8 => ∃ t108 : Bool, v_7 = (.bool t108) ∧ ifP t108 (Run Try.prog 11 #[] w_8 fun v_8 w_9 => ∃ t111 : Bool, v_8 = (.bool t111) ∧ law21_QueuePlays.J2 R t111 w_9) (law21_QueuePlays.J2 R false w_8)) (law21_QueuePlays.J2 R false w_7)) (law21_QueuePlays.J2 R false w_6)) (law21_QueuePlays.J2 R false w_5))

def law21_QueuePlays.J0 (R : Value → World → Prop) (depthsA : Option Addr) (depthsn : Nat) (depthsc : Nat) (actsA : Option Addr) (actsn : Nat) (actsc : Nat) (w : Option Addr) (code_ : Int) (q : Option Addr) (t42 : Bool) (w_2 : World) : Prop :=
  ifP t42
    (R (.bool false) w_2)
    (ifP ((code_ : Int) != 0)
    (Run Try.prog 11 #[] w_2 fun v w_3 => ∃ t45 : Bool, v = (.bool t45) ∧ R (.bool t45) w_3)
    (Run Try.prog 12 #[(.slice depthsA depthsn depthsc)] w_2 fun v_2 w_4 => ∃ (t48A : Option Addr) (t48n t48c : Nat), v_2 = (.slice t48A t48n t48c) ∧ Run Try.prog 9 #[(.slice t48A t48n t48c)] w_4 fun v_3 w_5 => ∃ t490 : Option Addr, ∃ t491 : Int, v_3 = (.tuple #[(.pointer t490), (.int .i64 t491)]) ∧ Run Try.prog 7 #[(.slice depthsA depthsn depthsc)] w_5 fun v_4 w_6 => ∃ t540 : Option Addr, ∃ t541 : Int, v_4 = (.tuple #[(.pointer t540), (.int .i64 t541)]) ∧ ifP (Option.isNone t490)
    (R (.bool false) w_6)
    (law21_QueuePlays.L0 R actsA actsn actsc w q t490 t540 0 w_6)))

@[reducible] def law21_QueuePlays.vc (R : Value → World → Prop) (depthsA : Option Addr) (depthsn : Nat) (depthsc : Nat) (actsA : Option Addr) (actsn : Nat) (actsc : Nat) (w : World) : Prop :=
  Run Try.prog 7 #[(.slice depthsA depthsn depthsc)] w fun v w_2 => ∃ t170 : Option Addr, ∃ t171 : Int, v = (.tuple #[(.pointer t170), (.int .i64 t171)]) ∧ Run Try.prog 8 #[(.slice depthsA depthsn depthsc)] w_2 fun v_2 w_3 => ∃ (t21A : Option Addr) (t21n t21c : Nat), v_2 = (.slice t21A t21n t21c) ∧ Run Try.prog 9 #[(.slice t21A t21n t21c)] w_3 fun v_3 w_4 => ∃ t240 : Option Addr, ∃ t241 : Int, v_3 = (.tuple #[(.pointer t240), (.int .i64 t241)]) ∧ Run Try.prog 10 #[(.slice t21A t21n t21c), (.slice depthsA depthsn depthsc)] w_4 fun v_4 w_5 => ∃ t29 : Bool, v_4 = (.bool t29) ∧ ifP (!t29) (law21_QueuePlays.J0 R depthsA depthsn depthsc actsA actsn actsc t170 t171 t240 true w_5) (ifP ((t241 : Int) != t171) (law21_QueuePlays.J0 R depthsA depthsn depthsc actsA actsn actsc t170 t171 t240 true w_5) (law21_QueuePlays.J0 R depthsA depthsn depthsc actsA actsn actsc t170 t171 t240 (!((Option.isNone t240) == ((t171 : Int) != 0))) w_5))

theorem law21_QueuePlays.B0_eq (R : Value → World → Prop) (actsA : Option Addr) (actsn : Nat) (actsc : Nat) (w : Option Addr) (q : Option Addr) (p : Option Addr) (v : Option Addr) (i : Int) (w_2 : World) (ts : Nat → Value) :
    code Try.prog none law21_QueuePlays.live 0 law21_QueuePlays.c0 (thenK (fun st w => loopVC (fun K => code Try.prog none law21_QueuePlays.live 0 law21_QueuePlays.c0 K) (law21_QueuePlays.live 0) (law21_QueuePlays.K0 R) (clearFrom (law21_QueuePlays.live 0) 0 st) w) (law21_QueuePlays.K0 R)) (mergeFrom (law21_QueuePlays.live 0) ts 0 (clearFrom (law21_QueuePlays.live 0) 0 [undef, (.slice actsA actsn actsc), undef, undef, undef, (.pointer w), undef, undef, (.pointer q), undef, (.pointer p), undef, (.pointer v), undef, (.int .i64 i), undef, undef, undef, undef, undef, undef, undef, undef, undef, undef, undef, undef, undef, undef, undef, undef, undef, undef, undef, undef, undef, undef, undef, undef, undef, undef, undef, undef, undef, undef, undef, undef, undef, undef, undef, undef, undef, undef, undef, undef, undef, undef, undef, undef, undef, undef, undef, undef, undef, undef, undef, undef, undef, undef, undef, undef, undef, undef, undef, undef, undef, undef, undef, undef, undef, undef, undef, undef, undef, undef, undef, undef, undef, undef, undef, undef, undef, undef, undef, undef, undef, undef, undef, undef, undef, undef, undef, undef, undef, undef, undef, undef, undef, undef, undef, undef, undef, undef])) w_2 = law21_QueuePlays.B0 R actsA actsn actsc w q p v i w_2 := by kernel_rfl
theorem law21_QueuePlays.L0_step {R : Value → World → Prop} {actsA : Option Addr} {actsn : Nat} {actsc : Nat} {w : Option Addr} {q : Option Addr} {p : Option Addr} {v : Option Addr} {i : Int} {w_2 : World} (h : law21_QueuePlays.B0 R actsA actsn actsc w q p v i w_2) : law21_QueuePlays.L0 R actsA actsn actsc w q p v i w_2 :=
  loop_step (live := law21_QueuePlays.live) (b := 0) (x := law21_QueuePlays.c0) fun ts => Eq.mpr (law21_QueuePlays.B0_eq R actsA actsn actsc w q p v i w_2 ts) h
theorem law21_QueuePlays.eq (R : Value → World → Prop) (depthsA : Option Addr) (depthsn : Nat) (depthsc : Nat) (actsA : Option Addr) (actsn : Nat) (actsc : Nat) (w : World) : fnVC Try.prog none law21_QueuePlays.live Try.f3 R [(.slice depthsA depthsn depthsc), (.slice actsA actsn actsc)] w = law21_QueuePlays.vc R depthsA depthsn depthsc actsA actsn actsc w := by kernel_rfl
set_option maxHeartbeats 4000000 in
theorem law21_QueuePlays.ok {R : Value → World → Prop} {depthsA : Option Addr} {depthsn : Nat} {depthsc : Nat} {actsA : Option Addr} {actsn : Nat} {actsc : Nat} {w : World} (h : law21_QueuePlays.vc R depthsA depthsn depthsc actsA actsn actsc w) : Run Try.prog 3 #[(.slice depthsA depthsn depthsc), (.slice actsA actsn actsc)] w R := by
  have h2 := Eq.mpr (law21_QueuePlays.eq R depthsA depthsn depthsc actsA actsn actsc w) h
  exact fn_sound Try.mixed Try.func3 (by kernel_rfl) h2

/-! ### riddle/riddlelaw0.Low: function 14 -/
noncomputable def law0_Low.body : Code := bodyOf Try.f14
def law0_Low.live : Nat → List Nat
  | _ => []
@[reducible] def law0_Low.vc (R : Value → World → Prop) (x : Int) (w : World) : Prop :=
  R (.int .i64 (andI .i64 x 9223372036854775807)) w

theorem law0_Low.eq (R : Value → World → Prop) (x : Int) (w : World) : fnVC Try.prog none law0_Low.live Try.f14 R [(.int .i64 x)] w = law0_Low.vc R x w := by kernel_rfl
set_option maxHeartbeats 4000000 in
theorem law0_Low.ok {R : Value → World → Prop} {x : Int} {w : World} (h : law0_Low.vc R x w) : Run Try.prog 14 #[(.int .i64 x)] w R := by
  have h2 := Eq.mpr (law0_Low.eq R x w) h
  exact fn_sound Try.mixed Try.func14 (by kernel_rfl) h2

/-! ### riddle/riddlelaw21.first: function 16 -/
noncomputable def law21_first.body : Code := bodyOf Try.f16
def law21_first.live : Nat → List Nat
  | 0 => [1, 5, 6, 7, 8]
  | _ => []
noncomputable def law21_first.c0 : Code := sub law21_first.body [1, 1, 0, 1, 0, 0]
def law21_first.K0 (R : Value → World → Prop) : Ex → St → World → Prop := (blockK 0 (thenK (fun st w => code Try.prog none law21_first.live 0 (sub law21_first.body [1, 1, 1]) (retK Try.prog Try.f16 R) st w) (retK Try.prog Try.f16 R)))
def law21_first.L0 (R : Value → World → Prop) (waitsA : Option Addr) (waitsn : Nat) (waitsc : Nat) (c : Int) (bA : Option Addr) (bn : Nat) (bc : Nat) (ok_ : Bool) (i : Int) (w : World) : Prop :=
  loopVC (fun K => code Try.prog none law21_first.live 0 law21_first.c0 K) (law21_first.live 0) (law21_first.K0 R) [undef, (.slice waitsA waitsn waitsc), undef, undef, undef, (.int .i64 c), (.slice bA bn bc), (.bool ok_), (.int .i64 i), undef, undef, undef, undef, undef, undef, undef, undef, undef, undef, undef, undef, undef, undef, undef, undef, undef, undef, undef, undef, undef, undef, undef, undef, undef, undef, undef, undef, undef, undef, undef, undef, undef, undef, undef, undef, undef, undef, undef, undef, undef, undef, undef, undef, undef, undef, undef, undef, undef, undef, undef, undef, undef, undef, undef, undef, undef, undef, undef, undef, undef, undef, undef] w
def law21_first.J0 (R : Value → World → Prop) (t4 : Bool) (w : World) : Prop :=
  R (.bool t4) w

def law21_first.J1 (R : Value → World → Prop) (t4 : Bool) (w : World) : Prop :=
  R (.bool t4) w

@[reducible] def law21_first.B0 (R : Value → World → Prop) (waitsA : Option Addr) (waitsn : Nat) (waitsc : Nat) (c : Int) (bA : Option Addr) (bn : Nat) (bc : Nat) (ok_ : Bool) (i : Int) (w : World) : Prop :=
  ifP (decide ((i : Int) < ((waitsn : Nat) : Int)))
    (0 ≤ (i : Int) ∧ (i : Int) < ((waitsn : Nat) : Int) ∧ ∃ t24p : Addr, waitsA = some t24p ∧ ∃ (t25A : Option Addr) (t25n t25c : Nat), w.cell? (t24p.add (Int.toNat i * 1)) = some (.slice t25A t25n t25c) ∧ ifP (decide ((((t25n : Nat) : Int) : Int) > 0))
    (0 ≤ (i : Int) ∧ (i : Int) < ((waitsn : Nat) : Int) ∧ ∃ t30p : Addr, waitsA = some t30p ∧ ∃ (t31A : Option Addr) (t31n t31c : Nat), w.cell? (t30p.add (Int.toNat i * 1)) = some (.slice t31A t31n t31c) ∧ 0 ≤ (0 : Int) ∧ (0 : Int) < ((t31n : Nat) : Int) ∧ ∃ t32p : Addr, t31A = some t32p ∧ ∃ t33 : Int, w.cell? (t32p.add (Int.toNat 0 * 1)) = some (.int .i64 t33) ∧ 0 ≤ (i : Int) ∧ (i : Int) < ((waitsn : Nat) : Int) ∧ ∃ t38p : Addr, waitsA = some t38p ∧ ∃ (t39A : Option Addr) (t39n t39c : Nat), w.cell? (t38p.add (Int.toNat i * 1)) = some (.slice t39A t39n t39c) ∧ (0 : Int) ≤ 1 ∧ (1 : Int) ≤ ((t39n : Nat) : Int) ∧ (((t39n : Nat) : Int) : Int) ≤ ((t39c : Nat) : Int) ∧ 0 ≤ (i : Int) ∧ (i : Int) < ((waitsn : Nat) : Int) ∧ ∃ t41p : Addr, waitsA = some t41p ∧ (∃ u : Value, w.cell? (t41p.add (Int.toNat i * 1)) = some u) ∧ w.frozen? (t41p.add (Int.toNat i * 1)) = false ∧ letW (w.setCell (t41p.add (Int.toNat i * 1)) (.slice (subA t39A t39c 1 1) (t39n - 1) (t39c - 1))) fun w_2 => ifP ok_ (ifP ((c : Int) == i) (ifP ((((bn : Nat) : Int) : Int) == 1) (0 ≤ (0 : Int) ∧ (0 : Int) < ((bn : Nat) : Int) ∧ ∃ t55p : Addr, bA = some t55p ∧ ∃ t56 : Int, w_2.cell? (t55p.add (Int.toNat 0 * 1)) = some (.int .u8 t56) ∧ law21_first.J0 R ((IntKind.i64.wrap t56 : Int) == t33) w_2) (law21_first.J0 R false w_2)) (law21_first.J0 R false w_2)) (law21_first.J0 R false w_2))
    (law21_first.L0 R waitsA waitsn waitsc c bA bn bc ok_ (IntKind.i64.wrap (i + 1)) w))
    (ifP (!ok_) (ifP ((c : Int) == 0) (law21_first.J1 R ((((bn : Nat) : Int) : Int) == 0) w) (law21_first.J1 R false w)) (law21_first.J1 R false w))

@[reducible] def law21_first.vc (R : Value → World → Prop) (q : Option Addr) (waitsA : Option Addr) (waitsn : Nat) (waitsc : Nat) (w : World) : Prop :=
  Run Try.prog 18 #[(.pointer q)] w fun v w_2 => ∃ t120 : Int, ∃ (t121A : Option Addr) (t121n t121c : Nat), ∃ t122 : Bool, v = (.tuple #[(.int .i64 t120), (.slice t121A t121n t121c), (.bool t122)]) ∧ law21_first.L0 R waitsA waitsn waitsc t120 t121A t121n t121c t122 0 w_2

theorem law21_first.B0_eq (R : Value → World → Prop) (waitsA : Option Addr) (waitsn : Nat) (waitsc : Nat) (c : Int) (bA : Option Addr) (bn : Nat) (bc : Nat) (ok_ : Bool) (i : Int) (w : World) (ts : Nat → Value) :
    code Try.prog none law21_first.live 0 law21_first.c0 (thenK (fun st w => loopVC (fun K => code Try.prog none law21_first.live 0 law21_first.c0 K) (law21_first.live 0) (law21_first.K0 R) (clearFrom (law21_first.live 0) 0 st) w) (law21_first.K0 R)) (mergeFrom (law21_first.live 0) ts 0 (clearFrom (law21_first.live 0) 0 [undef, (.slice waitsA waitsn waitsc), undef, undef, undef, (.int .i64 c), (.slice bA bn bc), (.bool ok_), (.int .i64 i), undef, undef, undef, undef, undef, undef, undef, undef, undef, undef, undef, undef, undef, undef, undef, undef, undef, undef, undef, undef, undef, undef, undef, undef, undef, undef, undef, undef, undef, undef, undef, undef, undef, undef, undef, undef, undef, undef, undef, undef, undef, undef, undef, undef, undef, undef, undef, undef, undef, undef, undef, undef, undef, undef, undef, undef, undef, undef, undef, undef, undef, undef, undef])) w = law21_first.B0 R waitsA waitsn waitsc c bA bn bc ok_ i w := by kernel_rfl
theorem law21_first.L0_step {R : Value → World → Prop} {waitsA : Option Addr} {waitsn : Nat} {waitsc : Nat} {c : Int} {bA : Option Addr} {bn : Nat} {bc : Nat} {ok_ : Bool} {i : Int} {w : World} (h : law21_first.B0 R waitsA waitsn waitsc c bA bn bc ok_ i w) : law21_first.L0 R waitsA waitsn waitsc c bA bn bc ok_ i w :=
  loop_step (live := law21_first.live) (b := 0) (x := law21_first.c0) fun ts => Eq.mpr (law21_first.B0_eq R waitsA waitsn waitsc c bA bn bc ok_ i w ts) h
theorem law21_first.eq (R : Value → World → Prop) (q : Option Addr) (waitsA : Option Addr) (waitsn : Nat) (waitsc : Nat) (w : World) : fnVC Try.prog none law21_first.live Try.f16 R [(.pointer q), (.slice waitsA waitsn waitsc)] w = law21_first.vc R q waitsA waitsn waitsc w := by kernel_rfl
set_option maxHeartbeats 4000000 in
theorem law21_first.ok {R : Value → World → Prop} {q : Option Addr} {waitsA : Option Addr} {waitsn : Nat} {waitsc : Nat} {w : World} (h : law21_first.vc R q waitsA waitsn waitsc w) : Run Try.prog 16 #[(.pointer q), (.slice waitsA waitsn waitsc)] w R := by
  have h2 := Eq.mpr (law21_first.eq R q waitsA waitsn waitsc w) h
  exact fn_sound Try.mixed Try.func16 (by kernel_rfl) h2

/-! ### riddle/riddlelaw21.QueueOrder: function 4 -/
noncomputable def law21_QueueOrder.body : Code := bodyOf Try.f4
def law21_QueueOrder.live : Nat → List Nat
  | 0 => [0, 1, 2, 7, 9, 10]
  | 2 => [0, 1, 2, 7, 9, 11]
  | 4 => [1, 7, 9, 15]
  | _ => []
noncomputable def law21_QueueOrder.c0 : Code := sub law21_QueueOrder.body [1, 1, 1, 1, 0, 1, 0, 0]
noncomputable def law21_QueueOrder.c2 : Code := sub law21_QueueOrder.body [1, 1, 1, 1, 1, 0, 1, 0, 0]
noncomputable def law21_QueueOrder.c4 : Code := sub law21_QueueOrder.body [1, 1, 1, 1, 1, 1, 0, 1, 0, 0]
def law21_QueueOrder.K0 (R : Value → World → Prop) : Ex → St → World → Prop := (blockK 0 (thenK (fun st w => code Try.prog none law21_QueueOrder.live 0 (sub law21_QueueOrder.body [1, 1, 1, 1, 1]) (retK Try.prog Try.f4 R) st w) (retK Try.prog Try.f4 R)))
def law21_QueueOrder.L0 (R : Value → World → Prop) (depthsA : Option Addr) (depthsn : Nat) (depthsc : Nat) (putsA : Option Addr) (putsn : Nat) (putsc : Nat) (takesA : Option Addr) (takesn : Nat) (takesc : Nat) (q : Option Addr) (waitsA : Option Addr) (waitsn : Nat) (waitsc : Nat) (i : Int) (w : World) : Prop :=
  loopVC (fun K => code Try.prog none law21_QueueOrder.live 0 law21_QueueOrder.c0 K) (law21_QueueOrder.live 0) (law21_QueueOrder.K0 R) [(.slice depthsA depthsn depthsc), (.slice putsA putsn putsc), (.slice takesA takesn takesc), undef, undef, undef, undef, (.pointer q), undef, (.slice waitsA waitsn waitsc), (.int .i64 i), undef, undef, undef, undef, undef, undef, undef, undef, undef, undef, undef, undef, undef, undef, undef, undef, undef, undef, undef, undef, undef, undef, undef, undef, undef, undef, undef, undef, undef, undef, undef, undef, undef, undef, undef, undef, undef, undef, undef, undef, undef, undef, undef, undef, undef, undef, undef, undef, undef, undef, undef, undef, undef, undef, undef, undef, undef, undef, undef, undef, undef, undef, undef, undef, undef, undef, undef, undef, undef, undef, undef, undef, undef, undef, undef, undef, undef, undef, undef, undef, undef, undef, undef, undef, undef, undef, undef, undef, undef, undef, undef, undef, undef, undef, undef, undef, undef, undef, undef, undef, undef, undef, undef, undef, undef, undef, undef, undef, undef, undef, undef, undef, undef, undef, undef, undef, undef, undef, undef, undef, undef, undef, undef, undef, undef, undef, undef, undef, undef, undef, undef] w
def law21_QueueOrder.K2 (R : Value → World → Prop) : Ex → St → World → Prop := (blockK 2 (thenK (fun st w => code Try.prog none law21_QueueOrder.live 0 (sub law21_QueueOrder.body [1, 1, 1, 1, 1, 1]) (retK Try.prog Try.f4 R) st w) (retK Try.prog Try.f4 R)))
def law21_QueueOrder.L2 (R : Value → World → Prop) (depthsA : Option Addr) (depthsn : Nat) (depthsc : Nat) (putsA : Option Addr) (putsn : Nat) (putsc : Nat) (takesA : Option Addr) (takesn : Nat) (takesc : Nat) (q : Option Addr) (waitsA : Option Addr) (waitsn : Nat) (waitsc : Nat) (i : Int) (w : World) : Prop :=
  loopVC (fun K => code Try.prog none law21_QueueOrder.live 2 law21_QueueOrder.c2 K) (law21_QueueOrder.live 2) (law21_QueueOrder.K2 R) [(.slice depthsA depthsn depthsc), (.slice putsA putsn putsc), (.slice takesA takesn takesc), undef, undef, undef, undef, (.pointer q), undef, (.slice waitsA waitsn waitsc), undef, (.int .i64 i), undef, undef, undef, undef, undef, undef, undef, undef, undef, undef, undef, undef, undef, undef, undef, undef, undef, undef, undef, undef, undef, undef, undef, undef, undef, undef, undef, undef, undef, undef, undef, undef, undef, undef, undef, undef, undef, undef, undef, undef, undef, undef, undef, undef, undef, undef, undef, undef, undef, undef, undef, undef, undef, undef, undef, undef, undef, undef, undef, undef, undef, undef, undef, undef, undef, undef, undef, undef, undef, undef, undef, undef, undef, undef, undef, undef, undef, undef, undef, undef, undef, undef, undef, undef, undef, undef, undef, undef, undef, undef, undef, undef, undef, undef, undef, undef, undef, undef, undef, undef, undef, undef, undef, undef, undef, undef, undef, undef, undef, undef, undef, undef, undef, undef, undef, undef, undef, undef, undef, undef, undef, undef, undef, undef, undef, undef, undef, undef, undef, undef] w
def law21_QueueOrder.K4 (R : Value → World → Prop) : Ex → St → World → Prop := (blockK 4 (thenK (fun st w => code Try.prog none law21_QueueOrder.live 0 (sub law21_QueueOrder.body [1, 1, 1, 1, 1, 1, 1]) (retK Try.prog Try.f4 R) st w) (retK Try.prog Try.f4 R)))
def law21_QueueOrder.L4 (R : Value → World → Prop) (putsA : Option Addr) (putsn : Nat) (putsc : Nat) (q : Option Addr) (waitsA : Option Addr) (waitsn : Nat) (waitsc : Nat) (i : Int) (w : World) : Prop :=
  loopVC (fun K => code Try.prog none law21_QueueOrder.live 4 law21_QueueOrder.c4 K) (law21_QueueOrder.live 4) (law21_QueueOrder.K4 R) [undef, (.slice putsA putsn putsc), undef, undef, undef, undef, undef, (.pointer q), undef, (.slice waitsA waitsn waitsc), undef, undef, undef, undef, undef, (.int .i64 i), undef, undef, undef, undef, undef, undef, undef, undef, undef, undef, undef, undef, undef, undef, undef, undef, undef, undef, undef, undef, undef, undef, undef, undef, undef, undef, undef, undef, undef, undef, undef, undef, undef, undef, undef, undef, undef, undef, undef, undef, undef, undef, undef, undef, undef, undef, undef, undef, undef, undef, undef, undef, undef, undef, undef, undef, undef, undef, undef, undef, undef, undef, undef, undef, undef, undef, undef, undef, undef, undef, undef, undef, undef, undef, undef, undef, undef, undef, undef, undef, undef, undef, undef, undef, undef, undef, undef, undef, undef, undef, undef, undef, undef, undef, undef, undef, undef, undef, undef, undef, undef, undef, undef, undef, undef, undef, undef, undef, undef, undef, undef, undef, undef, undef, undef, undef, undef, undef, undef, undef, undef, undef, undef, undef, undef, undef] w
def law21_QueueOrder.J1 (R : Value → World → Prop) (t6 : Bool) (w : World) : Prop :=
  R (.bool t6) w

def law21_QueueOrder.J4 (R : Value → World → Prop) (depthsA : Option Addr) (depthsn : Nat) (depthsc : Nat) (putsA : Option Addr) (putsn : Nat) (putsc : Nat) (takesA : Option Addr) (takesn : Nat) (takesc : Nat) (q : Option Addr) (waitsA : Option Addr) (waitsn : Nat) (waitsc : Nat) (i : Int) (t124 : Bool) (w : World) : Prop :=
  ifP t124
    (R (.bool false) w)
    (law21_QueueOrder.L2 R depthsA depthsn depthsc putsA putsn putsc takesA takesn takesc q waitsA waitsn waitsc (IntKind.i64.wrap (i + 1)) w)

def law21_QueueOrder.J3 (R : Value → World → Prop) (depthsA : Option Addr) (depthsn : Nat) (depthsc : Nat) (putsA : Option Addr) (putsn : Nat) (putsc : Nat) (takesA : Option Addr) (takesn : Nat) (takesc : Nat) (q : Option Addr) (waitsA : Option Addr) (waitsn : Nat) (waitsc : Nat) (i : Int) (w : World) : Prop :=
  ifP (decide ((i : Int) < ((takesn : Nat) : Int))) (0 ≤ (i : Int) ∧ (i : Int) < ((takesn : Nat) : Int) ∧ ∃ t116p : Addr, takesA = some t116p ∧ ∃ t117 : Bool, w.cell? (t116p.add (Int.toNat i * 1)) = some (.bool t117) ∧ ifP t117 (Run Try.prog 16 #[(.pointer q), (.slice waitsA waitsn waitsc)] w fun v w_2 => ∃ t122 : Bool, v = (.bool t122) ∧ law21_QueueOrder.J4 R depthsA depthsn depthsc putsA putsn putsc takesA takesn takesc q waitsA waitsn waitsc i (!t122) w_2) (law21_QueueOrder.J4 R depthsA depthsn depthsc putsA putsn putsc takesA takesn takesc q waitsA waitsn waitsc i false w)) (law21_QueueOrder.J4 R depthsA depthsn depthsc putsA putsn putsc takesA takesn takesc q waitsA waitsn waitsc i false w)

def law21_QueueOrder.J2 (R : Value → World → Prop) (depthsA : Option Addr) (depthsn : Nat) (depthsc : Nat) (putsA : Option Addr) (putsn : Nat) (putsc : Nat) (takesA : Option Addr) (takesn : Nat) (takesc : Nat) (q : Option Addr) (waitsA : Option Addr) (waitsn : Nat) (waitsc : Nat) (i : Int) (c : Int) (ok_ : Bool) (t97 : Bool) (w : World) : Prop :=
  ifP t97
    (R (.bool false) w)
    (ifP ok_
    (0 ≤ (c : Int) ∧ (c : Int) < ((waitsn : Nat) : Int) ∧ ∃ t103p : Addr, waitsA = some t103p ∧ ∃ (t104A : Option Addr) (t104n t104c : Nat), w.cell? (t103p.add (Int.toNat c * 1)) = some (.slice t104A t104n t104c) ∧ letW (w.alloc (.cells #[(.int .i64 i)] 3)) fun w_2 => ∃ (v : Value) (w_3 : World), (Builtin.append_ #[22, 22] 22 #[(.slice t104A t104n t104c), (.slice (some (newA w)) 1 1)]).run Try.prog w_2 = .ok v w_3 ∧ ∃ (t107A : Option Addr) (t107n t107c : Nat), v = (.slice t107A t107n t107c) ∧ 0 ≤ (c : Int) ∧ (c : Int) < ((waitsn : Nat) : Int) ∧ ∃ t108p : Addr, waitsA = some t108p ∧ (∃ u : Value, w_3.cell? (t108p.add (Int.toNat c * 1)) = some u) ∧ w_3.frozen? (t108p.add (Int.toNat c * 1)) = false ∧ letW (w_3.setCell (t108p.add (Int.toNat c * 1)) (.slice t107A t107n t107c)) fun w_4 => law21_QueueOrder.J3 R depthsA depthsn depthsc putsA putsn putsc takesA takesn takesc q waitsA waitsn waitsc i w_4)
    (law21_QueueOrder.J3 R depthsA depthsn depthsc putsA putsn putsc takesA takesn takesc q waitsA waitsn waitsc i w))

def law21_QueueOrder.J5 (R : Value → World → Prop) (t6 : Bool) (w : World) : Prop :=
  R (.bool t6) w

@[reducible] def law21_QueueOrder.B4 (R : Value → World → Prop) (putsA : Option Addr) (putsn : Nat) (putsc : Nat) (q : Option Addr) (waitsA : Option Addr) (waitsn : Nat) (waitsc : Nat) (i : Int) (w : World) : Prop :=
  ifP (decide ((i : Int) ≤ ((putsn : Nat) : Int)))
    (Run Try.prog 16 #[(.pointer q), (.slice waitsA waitsn waitsc)] w fun v w_2 => ∃ t133 : Bool, v = (.bool t133) ∧ ifP (!t133)
    (R (.bool false) w_2)
    (law21_QueueOrder.L4 R putsA putsn putsc q waitsA waitsn waitsc (IntKind.i64.wrap (i + 1)) w_2))
    (Run Try.prog 17 #[(.pointer q)] w fun v_2 w_3 => ∃ (t136A : Option Addr) (t136n t136c : Nat), v_2 = (.slice t136A t136n t136c) ∧ ifP ((((t136n : Nat) : Int) : Int) == 0) (Run Try.prog 11 #[] w_3 fun v_3 w_4 => ∃ t140 : Bool, v_3 = (.bool t140) ∧ law21_QueueOrder.J5 R t140 w_4) (law21_QueueOrder.J5 R false w_3))

@[reducible] def law21_QueueOrder.B2 (R : Value → World → Prop) (depthsA : Option Addr) (depthsn : Nat) (depthsc : Nat) (putsA : Option Addr) (putsn : Nat) (putsc : Nat) (takesA : Option Addr) (takesn : Nat) (takesc : Nat) (q : Option Addr) (waitsA : Option Addr) (waitsn : Nat) (waitsc : Nat) (i : Int) (w : World) : Prop :=
  ifP (decide ((i : Int) < ((putsn : Nat) : Int)))
    (0 ≤ (i : Int) ∧ (i : Int) < ((putsn : Nat) : Int) ∧ ∃ t67p : Addr, putsA = some t67p ∧ ∃ t68 : Int, w.cell? (t67p.add (Int.toNat i * 1)) = some (.int .i64 t68) ∧ Run Try.prog 14 #[(.int .i64 t68)] w fun v w_2 => ∃ t69 : Int, v = (.int .i64 t69) ∧ ((depthsn : Nat) : Int) ≠ 0 ∧ letW (w_2.alloc (.cells #[(.int .u8 (IntKind.u8.wrap i))] 5)) fun w_3 => Run Try.prog 15 #[(.pointer q), (.int .i64 (Int.tmod t69 ((depthsn : Nat) : Int))), (.slice (some (newA w_2)) 1 1)] w_3 fun v_2 w_4 => ∃ t790 : Bool, ∃ t791 : Int, v_2 = (.tuple #[(.bool t790), (.int .i64 t791)]) ∧ letW w_4.drew fun w_5 => ifP ((t791 : Int) != 0) (law21_QueueOrder.J2 R depthsA depthsn depthsc putsA putsn putsc takesA takesn takesc q waitsA waitsn waitsc i (Int.tmod t69 ((depthsn : Nat) : Int)) t790 true w_5) (0 ≤ (Int.tmod t69 ((depthsn : Nat) : Int) : Int) ∧ (Int.tmod t69 ((depthsn : Nat) : Int) : Int) < ((waitsn : Nat) : Int) ∧ ∃ t88p : Addr, waitsA = some t88p ∧ ∃ (t89A : Option Addr) (t89n t89c : Nat), w_5.cell? (t88p.add (Int.toNat (Int.tmod t69 ((depthsn : Nat) : Int)) * 1)) = some (.slice t89A t89n t89c) ∧ 0 ≤ (Int.tmod t69 ((depthsn : Nat) : Int) : Int) ∧ (Int.tmod t69 ((depthsn : Nat) : Int) : Int) < ((depthsn : Nat) : Int) ∧ ∃ t93p : Addr, depthsA = some t93p ∧ ∃ t94 : Int, w_5.cell? (t93p.add (Int.toNat (Int.tmod t69 ((depthsn : Nat) : Int)) * 1)) = some (.int .i64 t94) ∧ law21_QueueOrder.J2 R depthsA depthsn depthsc putsA putsn putsc takesA takesn takesc q waitsA waitsn waitsc i (Int.tmod t69 ((depthsn : Nat) : Int)) t790 (!(t790 == (decide ((((t89n : Nat) : Int) : Int) < t94)))) w_5))
    (law21_QueueOrder.L4 R putsA putsn putsc q waitsA waitsn waitsc 0 w)

@[reducible] def law21_QueueOrder.B0 (R : Value → World → Prop) (depthsA : Option Addr) (depthsn : Nat) (depthsc : Nat) (putsA : Option Addr) (putsn : Nat) (putsc : Nat) (takesA : Option Addr) (takesn : Nat) (takesc : Nat) (q : Option Addr) (waitsA : Option Addr) (waitsn : Nat) (waitsc : Nat) (i : Int) (w : World) : Prop :=
  ifP (decide ((i : Int) < ((depthsn : Nat) : Int)))
    (letW (w.alloc (.cells #[(.slice none 0 0)] 22)) fun w_2 => ∃ (v : Value) (w_3 : World), (Builtin.append_ #[40, 40] 40 #[(.slice waitsA waitsn waitsc), (.slice (some (newA w)) 1 1)]).run Try.prog w_2 = .ok v w_3 ∧ ∃ (t58A : Option Addr) (t58n t58c : Nat), v = (.slice t58A t58n t58c) ∧ law21_QueueOrder.L0 R depthsA depthsn depthsc putsA putsn putsc takesA takesn takesc q t58A t58n t58c (IntKind.i64.wrap (i + 1)) w_3)
    (law21_QueueOrder.L2 R depthsA depthsn depthsc putsA putsn putsc takesA takesn takesc q waitsA waitsn waitsc 0 w)

def law21_QueueOrder.J0 (R : Value → World → Prop) (depthsA : Option Addr) (depthsn : Nat) (depthsc : Nat) (putsA : Option Addr) (putsn : Nat) (putsc : Nat) (takesA : Option Addr) (takesn : Nat) (takesc : Nat) (q : Option Addr) (e : Int) (t32 : Bool) (w : World) : Prop :=
  ifP t32
    (ifP ((e : Int) != 0) (ifP (Option.isNone q) (Run Try.prog 11 #[] w fun v w_2 => ∃ t40 : Bool, v = (.bool t40) ∧ ifP t40 (law21_QueueOrder.J1 R true w_2) (ifP (decide ((((putsn : Nat) : Int) : Int) > 250)) (Run Try.prog 11 #[] w_2 fun v_2 w_3 => ∃ t47 : Bool, v_2 = (.bool t47) ∧ law21_QueueOrder.J1 R t47 w_3) (law21_QueueOrder.J1 R false w_2))) (ifP (decide ((((putsn : Nat) : Int) : Int) > 250)) (Run Try.prog 11 #[] w fun v_3 w_4 => ∃ t47_2 : Bool, v_3 = (.bool t47_2) ∧ law21_QueueOrder.J1 R t47_2 w_4) (law21_QueueOrder.J1 R false w))) (ifP (decide ((((putsn : Nat) : Int) : Int) > 250)) (Run Try.prog 11 #[] w fun v_4 w_5 => ∃ t47_3 : Bool, v_4 = (.bool t47_3) ∧ law21_QueueOrder.J1 R t47_3 w_5) (law21_QueueOrder.J1 R false w)))
    (law21_QueueOrder.L0 R depthsA depthsn depthsc putsA putsn putsc takesA takesn takesc q none 0 0 0 w)

@[reducible] def law21_QueueOrder.vc (R : Value → World → Prop) (depthsA : Option Addr) (depthsn : Nat) (depthsc : Nat) (putsA : Option Addr) (putsn : Nat) (putsc : Nat) (takesA : Option Addr) (takesn : Nat) (takesc : Nat) (w : World) : Prop :=
  Run Try.prog 12 #[(.slice depthsA depthsn depthsc)] w fun v w_2 => ∃ (t18A : Option Addr) (t18n t18c : Nat), v = (.slice t18A t18n t18c) ∧ Run Try.prog 9 #[(.slice t18A t18n t18c)] w_2 fun v_2 w_3 => ∃ t190 : Option Addr, ∃ t191 : Int, v_2 = (.tuple #[(.pointer t190), (.int .i64 t191)]) ∧ ifP ((t191 : Int) != 0) (law21_QueueOrder.J0 R depthsA depthsn depthsc putsA putsn putsc takesA takesn takesc t190 t191 true w_3) (ifP (Option.isNone t190) (law21_QueueOrder.J0 R depthsA depthsn depthsc putsA putsn putsc takesA takesn takesc t190 t191 true w_3) (law21_QueueOrder.J0 R depthsA depthsn depthsc putsA putsn putsc takesA takesn takesc t190 t191 (decide ((((putsn : Nat) : Int) : Int) > 250)) w_3))

theorem law21_QueueOrder.B0_eq (R : Value → World → Prop) (depthsA : Option Addr) (depthsn : Nat) (depthsc : Nat) (putsA : Option Addr) (putsn : Nat) (putsc : Nat) (takesA : Option Addr) (takesn : Nat) (takesc : Nat) (q : Option Addr) (waitsA : Option Addr) (waitsn : Nat) (waitsc : Nat) (i : Int) (w : World) (ts : Nat → Value) :
    code Try.prog none law21_QueueOrder.live 0 law21_QueueOrder.c0 (thenK (fun st w => loopVC (fun K => code Try.prog none law21_QueueOrder.live 0 law21_QueueOrder.c0 K) (law21_QueueOrder.live 0) (law21_QueueOrder.K0 R) (clearFrom (law21_QueueOrder.live 0) 0 st) w) (law21_QueueOrder.K0 R)) (mergeFrom (law21_QueueOrder.live 0) ts 0 (clearFrom (law21_QueueOrder.live 0) 0 [(.slice depthsA depthsn depthsc), (.slice putsA putsn putsc), (.slice takesA takesn takesc), undef, undef, undef, undef, (.pointer q), undef, (.slice waitsA waitsn waitsc), (.int .i64 i), undef, undef, undef, undef, undef, undef, undef, undef, undef, undef, undef, undef, undef, undef, undef, undef, undef, undef, undef, undef, undef, undef, undef, undef, undef, undef, undef, undef, undef, undef, undef, undef, undef, undef, undef, undef, undef, undef, undef, undef, undef, undef, undef, undef, undef, undef, undef, undef, undef, undef, undef, undef, undef, undef, undef, undef, undef, undef, undef, undef, undef, undef, undef, undef, undef, undef, undef, undef, undef, undef, undef, undef, undef, undef, undef, undef, undef, undef, undef, undef, undef, undef, undef, undef, undef, undef, undef, undef, undef, undef, undef, undef, undef, undef, undef, undef, undef, undef, undef, undef, undef, undef, undef, undef, undef, undef, undef, undef, undef, undef, undef, undef, undef, undef, undef, undef, undef, undef, undef, undef, undef, undef, undef, undef, undef, undef, undef, undef, undef, undef, undef])) w = law21_QueueOrder.B0 R depthsA depthsn depthsc putsA putsn putsc takesA takesn takesc q waitsA waitsn waitsc i w := by kernel_rfl
theorem law21_QueueOrder.L0_step {R : Value → World → Prop} {depthsA : Option Addr} {depthsn : Nat} {depthsc : Nat} {putsA : Option Addr} {putsn : Nat} {putsc : Nat} {takesA : Option Addr} {takesn : Nat} {takesc : Nat} {q : Option Addr} {waitsA : Option Addr} {waitsn : Nat} {waitsc : Nat} {i : Int} {w : World} (h : law21_QueueOrder.B0 R depthsA depthsn depthsc putsA putsn putsc takesA takesn takesc q waitsA waitsn waitsc i w) : law21_QueueOrder.L0 R depthsA depthsn depthsc putsA putsn putsc takesA takesn takesc q waitsA waitsn waitsc i w :=
  loop_step (live := law21_QueueOrder.live) (b := 0) (x := law21_QueueOrder.c0) fun ts => Eq.mpr (law21_QueueOrder.B0_eq R depthsA depthsn depthsc putsA putsn putsc takesA takesn takesc q waitsA waitsn waitsc i w ts) h
theorem law21_QueueOrder.B2_eq (R : Value → World → Prop) (depthsA : Option Addr) (depthsn : Nat) (depthsc : Nat) (putsA : Option Addr) (putsn : Nat) (putsc : Nat) (takesA : Option Addr) (takesn : Nat) (takesc : Nat) (q : Option Addr) (waitsA : Option Addr) (waitsn : Nat) (waitsc : Nat) (i : Int) (w : World) (ts : Nat → Value) :
    code Try.prog none law21_QueueOrder.live 2 law21_QueueOrder.c2 (thenK (fun st w => loopVC (fun K => code Try.prog none law21_QueueOrder.live 2 law21_QueueOrder.c2 K) (law21_QueueOrder.live 2) (law21_QueueOrder.K2 R) (clearFrom (law21_QueueOrder.live 2) 0 st) w) (law21_QueueOrder.K2 R)) (mergeFrom (law21_QueueOrder.live 2) ts 0 (clearFrom (law21_QueueOrder.live 2) 0 [(.slice depthsA depthsn depthsc), (.slice putsA putsn putsc), (.slice takesA takesn takesc), undef, undef, undef, undef, (.pointer q), undef, (.slice waitsA waitsn waitsc), undef, (.int .i64 i), undef, undef, undef, undef, undef, undef, undef, undef, undef, undef, undef, undef, undef, undef, undef, undef, undef, undef, undef, undef, undef, undef, undef, undef, undef, undef, undef, undef, undef, undef, undef, undef, undef, undef, undef, undef, undef, undef, undef, undef, undef, undef, undef, undef, undef, undef, undef, undef, undef, undef, undef, undef, undef, undef, undef, undef, undef, undef, undef, undef, undef, undef, undef, undef, undef, undef, undef, undef, undef, undef, undef, undef, undef, undef, undef, undef, undef, undef, undef, undef, undef, undef, undef, undef, undef, undef, undef, undef, undef, undef, undef, undef, undef, undef, undef, undef, undef, undef, undef, undef, undef, undef, undef, undef, undef, undef, undef, undef, undef, undef, undef, undef, undef, undef, undef, undef, undef, undef, undef, undef, undef, undef, undef, undef, undef, undef, undef, undef, undef, undef])) w = law21_QueueOrder.B2 R depthsA depthsn depthsc putsA putsn putsc takesA takesn takesc q waitsA waitsn waitsc i w := by kernel_rfl
theorem law21_QueueOrder.L2_step {R : Value → World → Prop} {depthsA : Option Addr} {depthsn : Nat} {depthsc : Nat} {putsA : Option Addr} {putsn : Nat} {putsc : Nat} {takesA : Option Addr} {takesn : Nat} {takesc : Nat} {q : Option Addr} {waitsA : Option Addr} {waitsn : Nat} {waitsc : Nat} {i : Int} {w : World} (h : law21_QueueOrder.B2 R depthsA depthsn depthsc putsA putsn putsc takesA takesn takesc q waitsA waitsn waitsc i w) : law21_QueueOrder.L2 R depthsA depthsn depthsc putsA putsn putsc takesA takesn takesc q waitsA waitsn waitsc i w :=
  loop_step (live := law21_QueueOrder.live) (b := 2) (x := law21_QueueOrder.c2) fun ts => Eq.mpr (law21_QueueOrder.B2_eq R depthsA depthsn depthsc putsA putsn putsc takesA takesn takesc q waitsA waitsn waitsc i w ts) h
theorem law21_QueueOrder.B4_eq (R : Value → World → Prop) (putsA : Option Addr) (putsn : Nat) (putsc : Nat) (q : Option Addr) (waitsA : Option Addr) (waitsn : Nat) (waitsc : Nat) (i : Int) (w : World) (ts : Nat → Value) :
    code Try.prog none law21_QueueOrder.live 4 law21_QueueOrder.c4 (thenK (fun st w => loopVC (fun K => code Try.prog none law21_QueueOrder.live 4 law21_QueueOrder.c4 K) (law21_QueueOrder.live 4) (law21_QueueOrder.K4 R) (clearFrom (law21_QueueOrder.live 4) 0 st) w) (law21_QueueOrder.K4 R)) (mergeFrom (law21_QueueOrder.live 4) ts 0 (clearFrom (law21_QueueOrder.live 4) 0 [undef, (.slice putsA putsn putsc), undef, undef, undef, undef, undef, (.pointer q), undef, (.slice waitsA waitsn waitsc), undef, undef, undef, undef, undef, (.int .i64 i), undef, undef, undef, undef, undef, undef, undef, undef, undef, undef, undef, undef, undef, undef, undef, undef, undef, undef, undef, undef, undef, undef, undef, undef, undef, undef, undef, undef, undef, undef, undef, undef, undef, undef, undef, undef, undef, undef, undef, undef, undef, undef, undef, undef, undef, undef, undef, undef, undef, undef, undef, undef, undef, undef, undef, undef, undef, undef, undef, undef, undef, undef, undef, undef, undef, undef, undef, undef, undef, undef, undef, undef, undef, undef, undef, undef, undef, undef, undef, undef, undef, undef, undef, undef, undef, undef, undef, undef, undef, undef, undef, undef, undef, undef, undef, undef, undef, undef, undef, undef, undef, undef, undef, undef, undef, undef, undef, undef, undef, undef, undef, undef, undef, undef, undef, undef, undef, undef, undef, undef, undef, undef, undef, undef, undef, undef])) w = law21_QueueOrder.B4 R putsA putsn putsc q waitsA waitsn waitsc i w := by kernel_rfl
theorem law21_QueueOrder.L4_step {R : Value → World → Prop} {putsA : Option Addr} {putsn : Nat} {putsc : Nat} {q : Option Addr} {waitsA : Option Addr} {waitsn : Nat} {waitsc : Nat} {i : Int} {w : World} (h : law21_QueueOrder.B4 R putsA putsn putsc q waitsA waitsn waitsc i w) : law21_QueueOrder.L4 R putsA putsn putsc q waitsA waitsn waitsc i w :=
  loop_step (live := law21_QueueOrder.live) (b := 4) (x := law21_QueueOrder.c4) fun ts => Eq.mpr (law21_QueueOrder.B4_eq R putsA putsn putsc q waitsA waitsn waitsc i w ts) h
theorem law21_QueueOrder.eq (R : Value → World → Prop) (depthsA : Option Addr) (depthsn : Nat) (depthsc : Nat) (putsA : Option Addr) (putsn : Nat) (putsc : Nat) (takesA : Option Addr) (takesn : Nat) (takesc : Nat) (w : World) : fnVC Try.prog none law21_QueueOrder.live Try.f4 R [(.slice depthsA depthsn depthsc), (.slice putsA putsn putsc), (.slice takesA takesn takesc)] w = law21_QueueOrder.vc R depthsA depthsn depthsc putsA putsn putsc takesA takesn takesc w := by kernel_rfl
set_option maxHeartbeats 4000000 in
theorem law21_QueueOrder.ok {R : Value → World → Prop} {depthsA : Option Addr} {depthsn : Nat} {depthsc : Nat} {putsA : Option Addr} {putsn : Nat} {putsc : Nat} {takesA : Option Addr} {takesn : Nat} {takesc : Nat} {w : World} (h : law21_QueueOrder.vc R depthsA depthsn depthsc putsA putsn putsc takesA takesn takesc w) : Run Try.prog 4 #[(.slice depthsA depthsn depthsc), (.slice putsA putsn putsc), (.slice takesA takesn takesc)] w R := by
  have h2 := Eq.mpr (law21_QueueOrder.eq R depthsA depthsn depthsc putsA putsn putsc takesA takesn takesc w) h
  exact fn_sound Try.mixed Try.func4 (by kernel_rfl) h2

/-! ### riddle/riddlelaw21.QueueDrains: function 5 -/
noncomputable def law21_QueueDrains.body : Code := bodyOf Try.f5
def law21_QueueDrains.live : Nat → List Nat
  | 0 => [0, 1, 5, 7, 9]
  | 2 => [0, 1, 5, 7, 9, 10]
  | 4 => [0, 1, 5, 7, 9, 16, 17]
  | _ => []
noncomputable def law21_QueueDrains.c0 : Code := sub law21_QueueDrains.body [1, 1, 1, 1, 0, 1, 0, 0]
noncomputable def law21_QueueDrains.c2 : Code := sub law21_QueueDrains.body [1, 1, 1, 1, 0, 1, 0, 0, 1, 0, 0, 0, 1, 0, 0]
noncomputable def law21_QueueDrains.c4 : Code := sub law21_QueueDrains.body [1, 1, 1, 1, 0, 1, 0, 0, 1, 0, 0, 1, 1, 0, 1, 0, 0]
def law21_QueueDrains.K0 (R : Value → World → Prop) : Ex → St → World → Prop := (blockK 0 (thenK (fun st w => code Try.prog none law21_QueueDrains.live 0 (sub law21_QueueDrains.body [1, 1, 1, 1, 1]) (retK Try.prog Try.f5 R) st w) (retK Try.prog Try.f5 R)))
def law21_QueueDrains.L0 (R : Value → World → Prop) (depthsA : Option Addr) (depthsn : Nat) (depthsc : Nat) (putsA : Option Addr) (putsn : Nat) (putsc : Nat) (p : Option Addr) (q : Option Addr) (round : Int) (w : World) : Prop :=
  loopVC (fun K => code Try.prog none law21_QueueDrains.live 0 law21_QueueDrains.c0 K) (law21_QueueDrains.live 0) (law21_QueueDrains.K0 R) [(.slice depthsA depthsn depthsc), (.slice putsA putsn putsc), undef, undef, undef, (.pointer p), undef, (.pointer q), undef, (.int .i64 round), undef, undef, undef, undef, undef, undef, undef, undef, undef, undef, undef, undef, undef, undef, undef, undef, undef, undef, undef, undef, undef, undef, undef, undef, undef, undef, undef, undef, undef, undef, undef, undef, undef, undef, undef, undef, undef, undef, undef, undef, undef, undef, undef, undef, undef, undef, undef, undef, undef, undef, undef, undef, undef, undef, undef, undef, undef, undef, undef, undef, undef, undef, undef, undef, undef, undef, undef, undef, undef, undef, undef, undef, undef, undef, undef, undef, undef, undef, undef, undef, undef, undef, undef, undef, undef, undef, undef, undef, undef, undef, undef, undef, undef, undef, undef, undef, undef, undef, undef, undef, undef, undef, undef, undef, undef, undef, undef, undef, undef, undef, undef, undef, undef, undef, undef, undef, undef, undef, undef, undef, undef, undef, undef, undef, undef, undef, undef, undef, undef, undef, undef, undef, undef, undef, undef, undef, undef, undef, undef, undef, undef, undef, undef, undef, undef, undef, undef, undef] w
def law21_QueueDrains.K2 (R : Value → World → Prop) : Ex → St → World → Prop := (blockK 2 (thenK (fun st w => code Try.prog none law21_QueueDrains.live 1 (sub law21_QueueDrains.body [1, 1, 1, 1, 0, 1, 0, 0, 1, 0, 0, 1]) (blockK 1 (thenK (fun st w => code Try.prog none law21_QueueDrains.live 0 (sub law21_QueueDrains.body [1, 1, 1, 1, 0, 1, 0, 0, 1, 1]) (thenK (fun st w => loopVC (fun K => code Try.prog none law21_QueueDrains.live 0 law21_QueueDrains.c0 K) (law21_QueueDrains.live 0) (law21_QueueDrains.K0 R) (clearFrom (law21_QueueDrains.live 0) 0 st) w) (law21_QueueDrains.K0 R)) st w) (thenK (fun st w => loopVC (fun K => code Try.prog none law21_QueueDrains.live 0 law21_QueueDrains.c0 K) (law21_QueueDrains.live 0) (law21_QueueDrains.K0 R) (clearFrom (law21_QueueDrains.live 0) 0 st) w) (law21_QueueDrains.K0 R)))) st w) (blockK 1 (thenK (fun st w => code Try.prog none law21_QueueDrains.live 0 (sub law21_QueueDrains.body [1, 1, 1, 1, 0, 1, 0, 0, 1, 1]) (thenK (fun st w => loopVC (fun K => code Try.prog none law21_QueueDrains.live 0 law21_QueueDrains.c0 K) (law21_QueueDrains.live 0) (law21_QueueDrains.K0 R) (clearFrom (law21_QueueDrains.live 0) 0 st) w) (law21_QueueDrains.K0 R)) st w) (thenK (fun st w => loopVC (fun K => code Try.prog none law21_QueueDrains.live 0 law21_QueueDrains.c0 K) (law21_QueueDrains.live 0) (law21_QueueDrains.K0 R) (clearFrom (law21_QueueDrains.live 0) 0 st) w) (law21_QueueDrains.K0 R))))))
def law21_QueueDrains.L2 (R : Value → World → Prop) (depthsA : Option Addr) (depthsn : Nat) (depthsc : Nat) (putsA : Option Addr) (putsn : Nat) (putsc : Nat) (p : Option Addr) (q : Option Addr) (round : Int) (i : Int) (w : World) : Prop :=
  loopVC (fun K => code Try.prog none law21_QueueDrains.live 2 law21_QueueDrains.c2 K) (law21_QueueDrains.live 2) (law21_QueueDrains.K2 R) [(.slice depthsA depthsn depthsc), (.slice putsA putsn putsc), undef, undef, undef, (.pointer p), undef, (.pointer q), undef, (.int .i64 round), (.int .i64 i), undef, undef, undef, undef, undef, undef, undef, undef, undef, undef, undef, undef, undef, undef, undef, undef, undef, undef, undef, undef, undef, undef, undef, undef, undef, undef, undef, undef, undef, undef, undef, undef, undef, undef, undef, undef, undef, undef, undef, undef, undef, undef, undef, undef, undef, undef, undef, undef, undef, undef, undef, undef, undef, undef, undef, undef, undef, undef, undef, undef, undef, undef, undef, undef, undef, undef, undef, undef, undef, undef, undef, undef, undef, undef, undef, undef, undef, undef, undef, undef, undef, undef, undef, undef, undef, undef, undef, undef, undef, undef, undef, undef, undef, undef, undef, undef, undef, undef, undef, undef, undef, undef, undef, undef, undef, undef, undef, undef, undef, undef, undef, undef, undef, undef, undef, undef, undef, undef, undef, undef, undef, undef, undef, undef, undef, undef, undef, undef, undef, undef, undef, undef, undef, undef, undef, undef, undef, undef, undef, undef, undef, undef, undef, undef, undef, undef, undef] w
def law21_QueueDrains.K4 (R : Value → World → Prop) : Ex → St → World → Prop := (blockK 4 (thenK (fun st w => code Try.prog none law21_QueueDrains.live 1 (sub law21_QueueDrains.body [1, 1, 1, 1, 0, 1, 0, 0, 1, 0, 0, 1, 1, 1]) (blockK 1 (thenK (fun st w => code Try.prog none law21_QueueDrains.live 0 (sub law21_QueueDrains.body [1, 1, 1, 1, 0, 1, 0, 0, 1, 1]) (thenK (fun st w => loopVC (fun K => code Try.prog none law21_QueueDrains.live 0 law21_QueueDrains.c0 K) (law21_QueueDrains.live 0) (law21_QueueDrains.K0 R) (clearFrom (law21_QueueDrains.live 0) 0 st) w) (law21_QueueDrains.K0 R)) st w) (thenK (fun st w => loopVC (fun K => code Try.prog none law21_QueueDrains.live 0 law21_QueueDrains.c0 K) (law21_QueueDrains.live 0) (law21_QueueDrains.K0 R) (clearFrom (law21_QueueDrains.live 0) 0 st) w) (law21_QueueDrains.K0 R)))) st w) (blockK 1 (thenK (fun st w => code Try.prog none law21_QueueDrains.live 0 (sub law21_QueueDrains.body [1, 1, 1, 1, 0, 1, 0, 0, 1, 1]) (thenK (fun st w => loopVC (fun K => code Try.prog none law21_QueueDrains.live 0 law21_QueueDrains.c0 K) (law21_QueueDrains.live 0) (law21_QueueDrains.K0 R) (clearFrom (law21_QueueDrains.live 0) 0 st) w) (law21_QueueDrains.K0 R)) st w) (thenK (fun st w => loopVC (fun K => code Try.prog none law21_QueueDrains.live 0 law21_QueueDrains.c0 K) (law21_QueueDrains.live 0) (law21_QueueDrains.K0 R) (clearFrom (law21_QueueDrains.live 0) 0 st) w) (law21_QueueDrains.K0 R))))))
def law21_QueueDrains.L4 (R : Value → World → Prop) (depthsA : Option Addr) (depthsn : Nat) (depthsc : Nat) (putsA : Option Addr) (putsn : Nat) (putsc : Nat) (p : Option Addr) (q : Option Addr) (round : Int) (allA : Option Addr) (alln : Nat) (allc : Nat) (i : Int) (w : World) : Prop :=
  loopVC (fun K => code Try.prog none law21_QueueDrains.live 4 law21_QueueDrains.c4 K) (law21_QueueDrains.live 4) (law21_QueueDrains.K4 R) [(.slice depthsA depthsn depthsc), (.slice putsA putsn putsc), undef, undef, undef, (.pointer p), undef, (.pointer q), undef, (.int .i64 round), undef, undef, undef, undef, undef, undef, (.slice allA alln allc), (.int .i64 i), undef, undef, undef, undef, undef, undef, undef, undef, undef, undef, undef, undef, undef, undef, undef, undef, undef, undef, undef, undef, undef, undef, undef, undef, undef, undef, undef, undef, undef, undef, undef, undef, undef, undef, undef, undef, undef, undef, undef, undef, undef, undef, undef, undef, undef, undef, undef, undef, undef, undef, undef, undef, undef, undef, undef, undef, undef, undef, undef, undef, undef, undef, undef, undef, undef, undef, undef, undef, undef, undef, undef, undef, undef, undef, undef, undef, undef, undef, undef, undef, undef, undef, undef, undef, undef, undef, undef, undef, undef, undef, undef, undef, undef, undef, undef, undef, undef, undef, undef, undef, undef, undef, undef, undef, undef, undef, undef, undef, undef, undef, undef, undef, undef, undef, undef, undef, undef, undef, undef, undef, undef, undef, undef, undef, undef, undef, undef, undef, undef, undef, undef, undef, undef, undef, undef, undef, undef, undef, undef, undef] w
def law21_QueueDrains.J1 (R : Value → World → Prop) (t4 : Bool) (w : World) : Prop :=
  R (.bool t4) w

def law21_QueueDrains.J2 (R : Value → World → Prop) (depthsA : Option Addr) (depthsn : Nat) (depthsc : Nat) (putsA : Option Addr) (putsn : Nat) (putsc : Nat) (p : Option Addr) (q : Option Addr) (round : Int) (allA : Option Addr) (alln : Nat) (allc : Nat) (i : Int) (t131 : Bool) (w : World) : Prop :=
  ifP t131
    (R (.bool false) w)
    (law21_QueueDrains.L4 R depthsA depthsn depthsc putsA putsn putsc p q round allA alln allc (IntKind.i64.wrap (i + 1)) w)

def law21_QueueDrains.J3 (R : Value → World → Prop) (depthsA : Option Addr) (depthsn : Nat) (depthsc : Nat) (putsA : Option Addr) (putsn : Nat) (putsc : Nat) (p : Option Addr) (q : Option Addr) (round : Int) (t156 : Bool) (w : World) : Prop :=
  ifP t156
    (R (.bool false) w)
    (law21_QueueDrains.L0 R depthsA depthsn depthsc putsA putsn putsc p q (IntKind.i64.wrap (round + 1)) w)

@[reducible] def law21_QueueDrains.B4 (R : Value → World → Prop) (depthsA : Option Addr) (depthsn : Nat) (depthsc : Nat) (putsA : Option Addr) (putsn : Nat) (putsc : Nat) (p : Option Addr) (q : Option Addr) (round : Int) (allA : Option Addr) (alln : Nat) (allc : Nat) (i : Int) (w : World) : Prop :=
  ifP (decide ((i : Int) < ((alln : Nat) : Int)))
    (Run Try.prog 18 #[(.pointer q)] w fun v w_2 => ∃ t1170 : Int, ∃ (t1171A : Option Addr) (t1171n t1171c : Nat), ∃ t1172 : Bool, v = (.tuple #[(.int .i64 t1170), (.slice t1171A t1171n t1171c), (.bool t1172)]) ∧ ifP (!t1172) (law21_QueueDrains.J2 R depthsA depthsn depthsc putsA putsn putsc p q round allA alln allc i true w_2) (0 ≤ (i : Int) ∧ (i : Int) < ((alln : Nat) : Int) ∧ ∃ t127p : Addr, allA = some t127p ∧ ∃ (t128A : Option Addr) (t128n t128c : Nat), w_2.cell? (t127p.add (Int.toNat i * 1)) = some (.slice t128A t128n t128c) ∧ Run Try.prog 19 #[(.slice t1171A t1171n t1171c), (.slice t128A t128n t128c)] w_2 fun v_2 w_3 => ∃ t129 : Bool, v_2 = (.bool t129) ∧ law21_QueueDrains.J2 R depthsA depthsn depthsc putsA putsn putsc p q round allA alln allc i (!t129) w_3))
    (Run Try.prog 18 #[(.pointer q)] w fun v_3 w_4 => ∃ t1340 : Int, ∃ (t1341A : Option Addr) (t1341n t1341c : Nat), ∃ t1342 : Bool, v_3 = (.tuple #[(.int .i64 t1340), (.slice t1341A t1341n t1341c), (.bool t1342)]) ∧ Run Try.prog 18 #[(.pointer p)] w_4 fun v_4 w_5 => ∃ t1400 : Int, ∃ (t1401A : Option Addr) (t1401n t1401c : Nat), ∃ t1402 : Bool, v_4 = (.tuple #[(.int .i64 t1400), (.slice t1401A t1401n t1401c), (.bool t1402)]) ∧ letW w_5.drew fun w_6 => ifP t1342 ((law21_QueueDrains.J3 R depthsA depthsn depthsc putsA putsn putsc p q round true w_6) ∧ (law21_QueueDrains.J3 R depthsA depthsn depthsc putsA putsn putsc p q round true w_6)) (ifP t1402 ((law21_QueueDrains.J3 R depthsA depthsn depthsc putsA putsn putsc p q round true w_6) ∧ (law21_QueueDrains.J3 R depthsA depthsn depthsc putsA putsn putsc p q round true w_6)) ((Run Try.prog 21 #[(.pointer p)] w_6 fun v_5 w_7 => ∃ (t150A : Option Addr) (t150n t150c : Nat), v_5 = (.slice t150A t150n t150c) ∧ ∃ (v_6 : Value) (w_8 : World), (Instr.makeSlice 22 (.int .i64 ((depthsn : Nat) : Int)) (.int .i64 ((depthsn : Nat) : Int))).run Try.prog w_7 = .ok v_6 w_8 ∧ ∃ (t153A : Option Addr) (t153n t153c : Nat), v_6 = (.slice t153A t153n t153c) ∧ Run Try.prog 20 #[(.slice t150A t150n t150c), (.slice t153A t153n t153c)] w_8 fun v_7 w_9 => ∃ t154 : Bool, v_7 = (.bool t154) ∧ law21_QueueDrains.J3 R depthsA depthsn depthsc putsA putsn putsc p q round (!t154) w_9) ∧ (∃ (v_8 : Value) (w_10 : World), (Instr.makeSlice 22 (.int .i64 ((depthsn : Nat) : Int)) (.int .i64 ((depthsn : Nat) : Int))).run Try.prog w_6 = .ok v_8 w_10 ∧ ∃ (t153A_2 : Option Addr) (t153n_2 t153c_2 : Nat), v_8 = (.slice t153A_2 t153n_2 t153c_2) ∧ Run Try.prog 21 #[(.pointer p)] w_10 fun v_9 w_11 => ∃ (t150A_2 : Option Addr) (t150n_2 t150c_2 : Nat), v_9 = (.slice t150A_2 t150n_2 t150c_2) ∧ Run Try.prog 20 #[(.slice t150A_2 t150n_2 t150c_2), (.slice t153A_2 t153n_2 t153c_2)] w_11 fun v_10 w_12 => ∃ t154_2 : Bool, v_10 = (.bool t154_2) ∧ law21_QueueDrains.J3 R depthsA depthsn depthsc putsA putsn putsc p q round (!t154_2) w_12))))

@[reducible] def law21_QueueDrains.B2 (R : Value → World → Prop) (depthsA : Option Addr) (depthsn : Nat) (depthsc : Nat) (putsA : Option Addr) (putsn : Nat) (putsc : Nat) (p : Option Addr) (q : Option Addr) (round : Int) (i : Int) (w : World) : Prop :=
  ifP (decide ((i : Int) < ((putsn : Nat) : Int)))
    (0 ≤ (i : Int) ∧ (i : Int) < ((putsn : Nat) : Int) ∧ ∃ t76p : Addr, putsA = some t76p ∧ ∃ t77 : Int, w.cell? (t76p.add (Int.toNat i * 1)) = some (.int .i64 t77) ∧ Run Try.prog 14 #[(.int .i64 t77)] w fun v w_2 => ∃ t78 : Int, v = (.int .i64 t78) ∧ ((depthsn : Nat) : Int) ≠ 0 ∧ letW (w_2.alloc (.cells #[(.int .u8 (IntKind.u8.wrap i)), (.int .u8 (IntKind.u8.wrap (Int.tmod t78 ((depthsn : Nat) : Int))))] 5)) fun w_3 => Run Try.prog 15 #[(.pointer p), (.int .i64 (Int.tmod t78 ((depthsn : Nat) : Int))), (.slice (some (newA w_2)) 2 2)] w_3 fun v_2 w_4 => ∃ t900 : Bool, ∃ t901 : Int, v_2 = (.tuple #[(.bool t900), (.int .i64 t901)]) ∧ letW (w_4.alloc (.cells #[(.int .u8 (IntKind.u8.wrap i)), (.int .u8 (IntKind.u8.wrap (Int.tmod t78 ((depthsn : Nat) : Int))))] 5)) fun w_5 => Run Try.prog 15 #[(.pointer q), (.int .i64 (Int.tmod t78 ((depthsn : Nat) : Int))), (.slice (some (newA w_4)) 2 2)] w_5 fun v_3 w_6 => ∃ t1010 : Bool, ∃ t1011 : Int, v_3 = (.tuple #[(.bool t1010), (.int .i64 t1011)]) ∧ ifP (!(t900 == t1010))
    (R (.bool false) w_6)
    (law21_QueueDrains.L2 R depthsA depthsn depthsc putsA putsn putsc p q round (IntKind.i64.wrap (i + 1)) w_6))
    (Run Try.prog 17 #[(.pointer p)] w fun v_4 w_7 => ∃ (t108A : Option Addr) (t108n t108c : Nat), v_4 = (.slice t108A t108n t108c) ∧ law21_QueueDrains.L4 R depthsA depthsn depthsc putsA putsn putsc p q round t108A t108n t108c 0 w_7)

@[reducible] def law21_QueueDrains.B0 (R : Value → World → Prop) (depthsA : Option Addr) (depthsn : Nat) (depthsc : Nat) (putsA : Option Addr) (putsn : Nat) (putsc : Nat) (p : Option Addr) (q : Option Addr) (round : Int) (w : World) : Prop :=
  ifP (decide ((round : Int) < 2))
    (law21_QueueDrains.L2 R depthsA depthsn depthsc putsA putsn putsc p q round 0 w)
    (Run Try.prog 11 #[] w fun v w_2 => ∃ t157 : Bool, v = (.bool t157) ∧ R (.bool t157) w_2)

def law21_QueueDrains.J0 (R : Value → World → Prop) (depthsA : Option Addr) (depthsn : Nat) (depthsc : Nat) (putsA : Option Addr) (putsn : Nat) (putsc : Nat) (p : Option Addr) (e : Int) (q : Option Addr) (f : Int) (t57 : Bool) (w : World) : Prop :=
  ifP t57
    (ifP ((e : Int) == f) (Run Try.prog 11 #[] w fun v w_2 => ∃ t62 : Bool, v = (.bool t62) ∧ law21_QueueDrains.J1 R t62 w_2) (law21_QueueDrains.J1 R false w))
    (law21_QueueDrains.L0 R depthsA depthsn depthsc putsA putsn putsc p q 0 w)

@[reducible] def law21_QueueDrains.vc (R : Value → World → Prop) (depthsA : Option Addr) (depthsn : Nat) (depthsc : Nat) (putsA : Option Addr) (putsn : Nat) (putsc : Nat) (w : World) : Prop :=
  Run Try.prog 12 #[(.slice depthsA depthsn depthsc)] w fun v w_2 => ∃ (t29A : Option Addr) (t29n t29c : Nat), v = (.slice t29A t29n t29c) ∧ Run Try.prog 9 #[(.slice t29A t29n t29c)] w_2 fun v_2 w_3 => ∃ t300 : Option Addr, ∃ t301 : Int, v_2 = (.tuple #[(.pointer t300), (.int .i64 t301)]) ∧ Run Try.prog 12 #[(.slice depthsA depthsn depthsc)] w_3 fun v_3 w_4 => ∃ (t35A : Option Addr) (t35n t35c : Nat), v_3 = (.slice t35A t35n t35c) ∧ Run Try.prog 9 #[(.slice t35A t35n t35c)] w_4 fun v_4 w_5 => ∃ t360 : Option Addr, ∃ t361 : Int, v_4 = (.tuple #[(.pointer t360), (.int .i64 t361)]) ∧ ifP ((t301 : Int) != 0) (law21_QueueDrains.J0 R depthsA depthsn depthsc putsA putsn putsc t300 t301 t360 t361 true w_5) (ifP ((t361 : Int) != 0) (law21_QueueDrains.J0 R depthsA depthsn depthsc putsA putsn putsc t300 t301 t360 t361 true w_5) (ifP (Option.isNone t300) (law21_QueueDrains.J0 R depthsA depthsn depthsc putsA putsn putsc t300 t301 t360 t361 true w_5) (ifP (Option.isNone t360) (law21_QueueDrains.J0 R depthsA depthsn depthsc putsA putsn putsc t300 t301 t360 t361 true w_5) (law21_QueueDrains.J0 R depthsA depthsn depthsc putsA putsn putsc t300 t301 t360 t361 (decide ((((putsn : Nat) : Int) : Int) > 250)) w_5))))

theorem law21_QueueDrains.B0_eq (R : Value → World → Prop) (depthsA : Option Addr) (depthsn : Nat) (depthsc : Nat) (putsA : Option Addr) (putsn : Nat) (putsc : Nat) (p : Option Addr) (q : Option Addr) (round : Int) (w : World) (ts : Nat → Value) :
    code Try.prog none law21_QueueDrains.live 0 law21_QueueDrains.c0 (thenK (fun st w => loopVC (fun K => code Try.prog none law21_QueueDrains.live 0 law21_QueueDrains.c0 K) (law21_QueueDrains.live 0) (law21_QueueDrains.K0 R) (clearFrom (law21_QueueDrains.live 0) 0 st) w) (law21_QueueDrains.K0 R)) (mergeFrom (law21_QueueDrains.live 0) ts 0 (clearFrom (law21_QueueDrains.live 0) 0 [(.slice depthsA depthsn depthsc), (.slice putsA putsn putsc), undef, undef, undef, (.pointer p), undef, (.pointer q), undef, (.int .i64 round), undef, undef, undef, undef, undef, undef, undef, undef, undef, undef, undef, undef, undef, undef, undef, undef, undef, undef, undef, undef, undef, undef, undef, undef, undef, undef, undef, undef, undef, undef, undef, undef, undef, undef, undef, undef, undef, undef, undef, undef, undef, undef, undef, undef, undef, undef, undef, undef, undef, undef, undef, undef, undef, undef, undef, undef, undef, undef, undef, undef, undef, undef, undef, undef, undef, undef, undef, undef, undef, undef, undef, undef, undef, undef, undef, undef, undef, undef, undef, undef, undef, undef, undef, undef, undef, undef, undef, undef, undef, undef, undef, undef, undef, undef, undef, undef, undef, undef, undef, undef, undef, undef, undef, undef, undef, undef, undef, undef, undef, undef, undef, undef, undef, undef, undef, undef, undef, undef, undef, undef, undef, undef, undef, undef, undef, undef, undef, undef, undef, undef, undef, undef, undef, undef, undef, undef, undef, undef, undef, undef, undef, undef, undef, undef, undef, undef, undef, undef])) w = law21_QueueDrains.B0 R depthsA depthsn depthsc putsA putsn putsc p q round w := by kernel_rfl
theorem law21_QueueDrains.L0_step {R : Value → World → Prop} {depthsA : Option Addr} {depthsn : Nat} {depthsc : Nat} {putsA : Option Addr} {putsn : Nat} {putsc : Nat} {p : Option Addr} {q : Option Addr} {round : Int} {w : World} (h : law21_QueueDrains.B0 R depthsA depthsn depthsc putsA putsn putsc p q round w) : law21_QueueDrains.L0 R depthsA depthsn depthsc putsA putsn putsc p q round w :=
  loop_step (live := law21_QueueDrains.live) (b := 0) (x := law21_QueueDrains.c0) fun ts => Eq.mpr (law21_QueueDrains.B0_eq R depthsA depthsn depthsc putsA putsn putsc p q round w ts) h
theorem law21_QueueDrains.B2_eq (R : Value → World → Prop) (depthsA : Option Addr) (depthsn : Nat) (depthsc : Nat) (putsA : Option Addr) (putsn : Nat) (putsc : Nat) (p : Option Addr) (q : Option Addr) (round : Int) (i : Int) (w : World) (ts : Nat → Value) :
    code Try.prog none law21_QueueDrains.live 2 law21_QueueDrains.c2 (thenK (fun st w => loopVC (fun K => code Try.prog none law21_QueueDrains.live 2 law21_QueueDrains.c2 K) (law21_QueueDrains.live 2) (law21_QueueDrains.K2 R) (clearFrom (law21_QueueDrains.live 2) 0 st) w) (law21_QueueDrains.K2 R)) (mergeFrom (law21_QueueDrains.live 2) ts 0 (clearFrom (law21_QueueDrains.live 2) 0 [(.slice depthsA depthsn depthsc), (.slice putsA putsn putsc), undef, undef, undef, (.pointer p), undef, (.pointer q), undef, (.int .i64 round), (.int .i64 i), undef, undef, undef, undef, undef, undef, undef, undef, undef, undef, undef, undef, undef, undef, undef, undef, undef, undef, undef, undef, undef, undef, undef, undef, undef, undef, undef, undef, undef, undef, undef, undef, undef, undef, undef, undef, undef, undef, undef, undef, undef, undef, undef, undef, undef, undef, undef, undef, undef, undef, undef, undef, undef, undef, undef, undef, undef, undef, undef, undef, undef, undef, undef, undef, undef, undef, undef, undef, undef, undef, undef, undef, undef, undef, undef, undef, undef, undef, undef, undef, undef, undef, undef, undef, undef, undef, undef, undef, undef, undef, undef, undef, undef, undef, undef, undef, undef, undef, undef, undef, undef, undef, undef, undef, undef, undef, undef, undef, undef, undef, undef, undef, undef, undef, undef, undef, undef, undef, undef, undef, undef, undef, undef, undef, undef, undef, undef, undef, undef, undef, undef, undef, undef, undef, undef, undef, undef, undef, undef, undef, undef, undef, undef, undef, undef, undef, undef])) w = law21_QueueDrains.B2 R depthsA depthsn depthsc putsA putsn putsc p q round i w := by kernel_rfl
theorem law21_QueueDrains.L2_step {R : Value → World → Prop} {depthsA : Option Addr} {depthsn : Nat} {depthsc : Nat} {putsA : Option Addr} {putsn : Nat} {putsc : Nat} {p : Option Addr} {q : Option Addr} {round : Int} {i : Int} {w : World} (h : law21_QueueDrains.B2 R depthsA depthsn depthsc putsA putsn putsc p q round i w) : law21_QueueDrains.L2 R depthsA depthsn depthsc putsA putsn putsc p q round i w :=
  loop_step (live := law21_QueueDrains.live) (b := 2) (x := law21_QueueDrains.c2) fun ts => Eq.mpr (law21_QueueDrains.B2_eq R depthsA depthsn depthsc putsA putsn putsc p q round i w ts) h
theorem law21_QueueDrains.B4_eq (R : Value → World → Prop) (depthsA : Option Addr) (depthsn : Nat) (depthsc : Nat) (putsA : Option Addr) (putsn : Nat) (putsc : Nat) (p : Option Addr) (q : Option Addr) (round : Int) (allA : Option Addr) (alln : Nat) (allc : Nat) (i : Int) (w : World) (ts : Nat → Value) :
    code Try.prog none law21_QueueDrains.live 4 law21_QueueDrains.c4 (thenK (fun st w => loopVC (fun K => code Try.prog none law21_QueueDrains.live 4 law21_QueueDrains.c4 K) (law21_QueueDrains.live 4) (law21_QueueDrains.K4 R) (clearFrom (law21_QueueDrains.live 4) 0 st) w) (law21_QueueDrains.K4 R)) (mergeFrom (law21_QueueDrains.live 4) ts 0 (clearFrom (law21_QueueDrains.live 4) 0 [(.slice depthsA depthsn depthsc), (.slice putsA putsn putsc), undef, undef, undef, (.pointer p), undef, (.pointer q), undef, (.int .i64 round), undef, undef, undef, undef, undef, undef, (.slice allA alln allc), (.int .i64 i), undef, undef, undef, undef, undef, undef, undef, undef, undef, undef, undef, undef, undef, undef, undef, undef, undef, undef, undef, undef, undef, undef, undef, undef, undef, undef, undef, undef, undef, undef, undef, undef, undef, undef, undef, undef, undef, undef, undef, undef, undef, undef, undef, undef, undef, undef, undef, undef, undef, undef, undef, undef, undef, undef, undef, undef, undef, undef, undef, undef, undef, undef, undef, undef, undef, undef, undef, undef, undef, undef, undef, undef, undef, undef, undef, undef, undef, undef, undef, undef, undef, undef, undef, undef, undef, undef, undef, undef, undef, undef, undef, undef, undef, undef, undef, undef, undef, undef, undef, undef, undef, undef, undef, undef, undef, undef, undef, undef, undef, undef, undef, undef, undef, undef, undef, undef, undef, undef, undef, undef, undef, undef, undef, undef, undef, undef, undef, undef, undef, undef, undef, undef, undef, undef, undef, undef, undef, undef, undef, undef])) w = law21_QueueDrains.B4 R depthsA depthsn depthsc putsA putsn putsc p q round allA alln allc i w := by kernel_rfl
theorem law21_QueueDrains.L4_step {R : Value → World → Prop} {depthsA : Option Addr} {depthsn : Nat} {depthsc : Nat} {putsA : Option Addr} {putsn : Nat} {putsc : Nat} {p : Option Addr} {q : Option Addr} {round : Int} {allA : Option Addr} {alln : Nat} {allc : Nat} {i : Int} {w : World} (h : law21_QueueDrains.B4 R depthsA depthsn depthsc putsA putsn putsc p q round allA alln allc i w) : law21_QueueDrains.L4 R depthsA depthsn depthsc putsA putsn putsc p q round allA alln allc i w :=
  loop_step (live := law21_QueueDrains.live) (b := 4) (x := law21_QueueDrains.c4) fun ts => Eq.mpr (law21_QueueDrains.B4_eq R depthsA depthsn depthsc putsA putsn putsc p q round allA alln allc i w ts) h
theorem law21_QueueDrains.eq (R : Value → World → Prop) (depthsA : Option Addr) (depthsn : Nat) (depthsc : Nat) (putsA : Option Addr) (putsn : Nat) (putsc : Nat) (w : World) : fnVC Try.prog none law21_QueueDrains.live Try.f5 R [(.slice depthsA depthsn depthsc), (.slice putsA putsn putsc)] w = law21_QueueDrains.vc R depthsA depthsn depthsc putsA putsn putsc w := by kernel_rfl
set_option maxHeartbeats 4000000 in
theorem law21_QueueDrains.ok {R : Value → World → Prop} {depthsA : Option Addr} {depthsn : Nat} {depthsc : Nat} {putsA : Option Addr} {putsn : Nat} {putsc : Nat} {w : World} (h : law21_QueueDrains.vc R depthsA depthsn depthsc putsA putsn putsc w) : Run Try.prog 5 #[(.slice depthsA depthsn depthsc), (.slice putsA putsn putsc)] w R := by
  have h2 := Eq.mpr (law21_QueueDrains.eq R depthsA depthsn depthsc putsA putsn putsc w) h
  exact fn_sound Try.mixed Try.func5 (by kernel_rfl) h2

/-! ### riddle/riddlelaw21.QueueRefuses: function 6 -/
noncomputable def law21_QueueRefuses.body : Code := bodyOf Try.f6
def law21_QueueRefuses.live : Nat → List Nat
  | 0 => [10, 11, 12, 13, 14, 15, 16, 17, 19, 20, 21, 22, 23, 24, 25]
  | _ => []
noncomputable def law21_QueueRefuses.c0 : Code := sub law21_QueueRefuses.body [1, 1, 1, 1, 1, 1, 1, 1, 1, 1, 1, 1, 1, 1, 1, 0, 1, 0, 0]
def law21_QueueRefuses.K0 (R : Value → World → Prop) : Ex → St → World → Prop := (blockK 0 (thenK (fun st w => code Try.prog none law21_QueueRefuses.live 0 (sub law21_QueueRefuses.body [1, 1, 1, 1, 1, 1, 1, 1, 1, 1, 1, 1, 1, 1, 1, 1]) (retK Try.prog Try.f6 R) st w) (retK Try.prog Try.f6 R)))
def law21_QueueRefuses.L0 (R : Value → World → Prop) (a : Bool) (f : Int) (b : Bool) (g : Int) (c : Bool) (h_ : Int) (d : Bool) (i : Int) (x : Option Addr) (j : Int) (y : Option Addr) (m : Int) (nA : Option Addr) (nn : Nat) (nc : Nat) (s : Int) (i_2 : Int) (w : World) : Prop :=
  loopVC (fun K => code Try.prog none law21_QueueRefuses.live 0 law21_QueueRefuses.c0 K) (law21_QueueRefuses.live 0) (law21_QueueRefuses.K0 R) [undef, undef, undef, undef, undef, undef, undef, undef, undef, undef, (.bool a), (.int .i64 f), (.bool b), (.int .i64 g), (.bool c), (.int .i64 h_), (.bool d), (.int .i64 i), undef, (.pointer x), (.int .i64 j), (.pointer y), (.int .i64 m), (.slice nA nn nc), (.int .i64 s), (.int .i64 i_2), undef, undef, undef, undef, undef, undef, undef, undef, undef, undef, undef, undef, undef, undef, undef, undef, undef, undef, undef, undef, undef, undef, undef, undef, undef, undef, undef, undef, undef, undef, undef, undef, undef, undef, undef, undef, undef, undef, undef, undef, undef, undef, undef, undef, undef, undef, undef, undef, undef, undef, undef, undef, undef, undef, undef, undef, undef, undef, undef, undef, undef, undef, undef, undef, undef, undef, undef, undef, undef, undef, undef, undef, undef, undef, undef, undef, undef, undef, undef, undef, undef, undef, undef, undef, undef, undef, undef, undef, undef, undef, undef, undef, undef, undef, undef, undef, undef, undef, undef, undef, undef, undef, undef, undef, undef, undef, undef, undef, undef, undef, undef, undef, undef, undef, undef, undef, undef, undef, undef, undef, undef, undef, undef, undef, undef, undef, undef, undef, undef, undef, undef, undef, undef, undef, undef, undef, undef, undef, undef, undef, undef, undef, undef, undef, undef, undef, undef, undef, undef, undef, undef, undef, undef, undef, undef, undef, undef, undef, undef, undef, undef, undef, undef, undef, undef, undef] w
def law21_QueueRefuses.J1 (R : Value → World → Prop) (t6 : Bool) (w : World) : Prop :=
  R (.bool t6) w

def law21_QueueRefuses.J6 (R : Value → World → Prop) (t6 : Bool) (w : World) : Prop :=
  R (.bool t6) w

@[reducible] def law21_QueueRefuses.B0 (R : Value → World → Prop) (a : Bool) (f : Int) (b : Bool) (g : Int) (c : Bool) (h_ : Int) (d : Bool) (i : Int) (x : Option Addr) (j : Int) (y : Option Addr) (m : Int) (nA : Option Addr) (nn : Nat) (nc : Nat) (s : Int) (i_2 : Int) (w : World) : Prop :=
  ifP (decide ((i_2 : Int) < ((nn : Nat) : Int)))
    (0 ≤ (i_2 : Int) ∧ (i_2 : Int) < ((nn : Nat) : Int) ∧ ∃ t137p : Addr, nA = some t137p ∧ ∃ t138 : Int, w.cell? (t137p.add (Int.toNat i_2 * 1)) = some (.int .i64 t138) ∧ law21_QueueRefuses.L0 R a f b g c h_ d i x j y m nA nn nc (IntKind.i64.wrap (s + t138)) (IntKind.i64.wrap (i_2 + 1)) w)
    (ifP (!a) (ifP (!b) (ifP (!c) (ifP d (ifP ((f : Int) == 211) (ifP ((g : Int) == 211) (ifP ((h_ : Int) == 212) (ifP ((i : Int) == 0) (ifP (Option.isNone x) (ifP (Option.isNone y) (ifP ((j : Int) == 210) (ifP ((m : Int) == 210) (ifP ((s : Int) == 1) (Run Try.prog 11 #[] w fun v w_2 => ∃ t190 : Bool, v = (.bool t190) ∧ law21_QueueRefuses.J6 R t190 w_2) (law21_QueueRefuses.J6 R false w)) (law21_QueueRefuses.J6 R false w)) (law21_QueueRefuses.J6 R false w)) (law21_QueueRefuses.J6 R false w)) (law21_QueueRefuses.J6 R false w)) (law21_QueueRefuses.J6 R false w)) (law21_QueueRefuses.J6 R false w)) (law21_QueueRefuses.J6 R false w)) (law21_QueueRefuses.J6 R false w)) (law21_QueueRefuses.J6 R false w)) (law21_QueueRefuses.J6 R false w)) (law21_QueueRefuses.J6 R false w)) (law21_QueueRefuses.J6 R false w))

def law21_QueueRefuses.J5 (R : Value → World → Prop) (q : Option Addr) (a : Bool) (f : Int) (b : Bool) (g : Int) (c : Bool) (h_ : Int) (d : Bool) (i : Int) (badA : Option Addr) (badn : Nat) (badc : Nat) (x : Option Addr) (j : Int) (w : World) : Prop :=
  Run Try.prog 9 #[(.slice badA badn badc)] w fun v w_2 => ∃ t1230 : Option Addr, ∃ t1231 : Int, v = (.tuple #[(.pointer t1230), (.int .i64 t1231)]) ∧ Run Try.prog 21 #[(.pointer q)] w_2 fun v_2 w_3 => ∃ (t127A : Option Addr) (t127n t127c : Nat), v_2 = (.slice t127A t127n t127c) ∧ law21_QueueRefuses.L0 R a f b g c h_ d i x j t1230 t1231 t127A t127n t127c 0 0 w_3

def law21_QueueRefuses.J4 (R : Value → World → Prop) (depthsA : Option Addr) (depthsn : Nat) (depthsc : Nat) (at_ : Int) (by_ : Int) (q : Option Addr) (a : Bool) (f : Int) (b : Bool) (g : Int) (c : Bool) (h_ : Int) (d : Bool) (i : Int) (badA : Option Addr) (badn : Nat) (badc : Nat) (w : World) : Prop :=
  Run Try.prog 9 #[(.slice badA badn badc)] w fun v w_2 => ∃ t1070 : Option Addr, ∃ t1071 : Int, v = (.tuple #[(.pointer t1070), (.int .i64 t1071)]) ∧ letW w_2.drew fun w_3 => Run Try.prog 14 #[(.int .i64 at_)] w_3 fun v_2 w_4 => ∃ t112 : Int, v_2 = (.int .i64 t112) ∧ ((depthsn : Nat) : Int) ≠ 0 ∧ Run Try.prog 14 #[(.int .i64 by_)] w_4 fun v_3 w_5 => ∃ t117 : Int, v_3 = (.int .i64 t117) ∧ 0 ≤ (Int.tmod t112 ((depthsn : Nat) : Int) : Int) ∧ (Int.tmod t112 ((depthsn : Nat) : Int) : Int) < ((badn : Nat) : Int) ∧ ∃ t120p : Addr, badA = some t120p ∧ (∃ u : Value, w_5.cell? (t120p.add (Int.toNat (Int.tmod t112 ((depthsn : Nat) : Int)) * 1)) = some u) ∧ w_5.frozen? (t120p.add (Int.toNat (Int.tmod t112 ((depthsn : Nat) : Int)) * 1)) = false ∧ letW (w_5.setCell (t120p.add (Int.toNat (Int.tmod t112 ((depthsn : Nat) : Int)) * 1)) (.int .i64 (IntKind.i64.wrap (0 - (Int.tmod t117 9))))) fun w_6 => law21_QueueRefuses.J5 R q a f b g c h_ d i badA badn badc t1070 t1071 w_6

def law21_QueueRefuses.J3 (R : Value → World → Prop) (depthsA : Option Addr) (depthsn : Nat) (depthsc : Nat) (at_ : Int) (by_ : Int) (q : Option Addr) (a : Bool) (f : Int) (b : Bool) (g : Int) (c : Bool) (h_ : Int) (d : Bool) (i : Int) (w : World) : Prop :=
  Run Try.prog 12 #[(.slice depthsA depthsn depthsc)] w fun v w_2 => ∃ (t93A : Option Addr) (t93n t93c : Nat), v = (.slice t93A t93n t93c) ∧ letW w_2.drew fun w_3 => Run Try.prog 14 #[(.int .i64 at_)] w_3 fun v_2 w_4 => ∃ t96 : Int, v_2 = (.int .i64 t96) ∧ ((depthsn : Nat) : Int) ≠ 0 ∧ Run Try.prog 14 #[(.int .i64 by_)] w_4 fun v_3 w_5 => ∃ t101 : Int, v_3 = (.int .i64 t101) ∧ 0 ≤ (Int.tmod t96 ((depthsn : Nat) : Int) : Int) ∧ (Int.tmod t96 ((depthsn : Nat) : Int) : Int) < ((t93n : Nat) : Int) ∧ ∃ t104p : Addr, t93A = some t104p ∧ (∃ u : Value, w_5.cell? (t104p.add (Int.toNat (Int.tmod t96 ((depthsn : Nat) : Int)) * 1)) = some u) ∧ w_5.frozen? (t104p.add (Int.toNat (Int.tmod t96 ((depthsn : Nat) : Int)) * 1)) = false ∧ letW (w_5.setCell (t104p.add (Int.toNat (Int.tmod t96 ((depthsn : Nat) : Int)) * 1)) (.int .i64 (IntKind.i64.wrap (1025 + (Int.tmod t101 9))))) fun w_6 => law21_QueueRefuses.J4 R depthsA depthsn depthsc at_ by_ q a f b g c h_ d i t93A t93n t93c w_6

def law21_QueueRefuses.J2 (R : Value → World → Prop) (depthsA : Option Addr) (depthsn : Nat) (depthsc : Nat) (at_ : Int) (by_ : Int) (q : Option Addr) (a : Bool) (f : Int) (b : Bool) (g : Int) (c : Bool) (h_ : Int) (w : World) : Prop :=
  letW w.drew fun w_2 => (Run Try.prog 14 #[(.int .i64 at_)] w_2 fun v w_3 => ∃ t84 : Int, v = (.int .i64 t84) ∧ ((depthsn : Nat) : Int) ≠ 0 ∧ ∃ (v_2 : Value) (w_4 : World), (Instr.makeSlice 35 (.int .i64 65535) (.int .i64 65535)).run Try.prog w_3 = .ok v_2 w_4 ∧ ∃ (t88A : Option Addr) (t88n t88c : Nat), v_2 = (.slice t88A t88n t88c) ∧ Run Try.prog 15 #[(.pointer q), (.int .i64 (Int.tmod t84 ((depthsn : Nat) : Int))), (.slice t88A t88n t88c)] w_4 fun v_3 w_5 => ∃ t890 : Bool, ∃ t891 : Int, v_3 = (.tuple #[(.bool t890), (.int .i64 t891)]) ∧ law21_QueueRefuses.J3 R depthsA depthsn depthsc at_ by_ q a f b g c h_ t890 t891 w_5) ∧ (∃ (v_4 : Value) (w_6 : World), (Instr.makeSlice 35 (.int .i64 65535) (.int .i64 65535)).run Try.prog w_2 = .ok v_4 w_6 ∧ ∃ (t88A_2 : Option Addr) (t88n_2 t88c_2 : Nat), v_4 = (.slice t88A_2 t88n_2 t88c_2) ∧ Run Try.prog 14 #[(.int .i64 at_)] w_6 fun v_5 w_7 => ∃ t84_2 : Int, v_5 = (.int .i64 t84_2) ∧ ((depthsn : Nat) : Int) ≠ 0 ∧ Run Try.prog 15 #[(.pointer q), (.int .i64 (Int.tmod t84_2 ((depthsn : Nat) : Int))), (.slice t88A_2 t88n_2 t88c_2)] w_7 fun v_6 w_8 => ∃ t890_2 : Bool, ∃ t891_2 : Int, v_6 = (.tuple #[(.bool t890_2), (.int .i64 t891_2)]) ∧ law21_QueueRefuses.J3 R depthsA depthsn depthsc at_ by_ q a f b g c h_ t890_2 t891_2 w_8)

def law21_QueueRefuses.J0 (R : Value → World → Prop) (depthsA : Option Addr) (depthsn : Nat) (depthsc : Nat) (at_ : Int) (by_ : Int) (q : Option Addr) (e : Int) (t37 : Bool) (w : World) : Prop :=
  ifP t37
    (ifP ((e : Int) == 210) (ifP (Option.isNone q) (Run Try.prog 11 #[] w fun v w_2 => ∃ t45 : Bool, v = (.bool t45) ∧ law21_QueueRefuses.J1 R t45 w_2) (law21_QueueRefuses.J1 R false w)) (law21_QueueRefuses.J1 R false w))
    (Run Try.prog 14 #[(.int .i64 by_)] w fun v_2 w_3 => ∃ t50 : Int, v_2 = (.int .i64 t50) ∧ letW (w_3.alloc (.cells #[(.int .u8 1)] 5)) fun w_4 => Run Try.prog 15 #[(.pointer q), (.int .i64 (IntKind.i64.wrap (((depthsn : Nat) : Int) + (Int.tmod t50 1000)))), (.slice (some (newA w_3)) 1 1)] w_4 fun v_3 w_5 => ∃ t570 : Bool, ∃ t571 : Int, v_3 = (.tuple #[(.bool t570), (.int .i64 t571)]) ∧ Run Try.prog 14 #[(.int .i64 by_)] w_5 fun v_4 w_6 => ∃ t63 : Int, v_4 = (.int .i64 t63) ∧ letW (w_6.alloc (.cells #[(.int .u8 1)] 5)) fun w_7 => Run Try.prog 15 #[(.pointer q), (.int .i64 (IntKind.i64.wrap ((-1) - (Int.tmod t63 1000)))), (.slice (some (newA w_6)) 1 1)] w_7 fun v_5 w_8 => ∃ t670 : Bool, ∃ t671 : Int, v_5 = (.tuple #[(.bool t670), (.int .i64 t671)]) ∧ letW w_8.drew fun w_9 => (Run Try.prog 14 #[(.int .i64 at_)] w_9 fun v_6 w_10 => ∃ t73 : Int, v_6 = (.int .i64 t73) ∧ ((depthsn : Nat) : Int) ≠ 0 ∧ ∃ (v_7 : Value) (w_11 : World), (Instr.makeSlice 35 (.int .i64 65536) (.int .i64 65536)).run Try.prog w_10 = .ok v_7 w_11 ∧ ∃ (t77A : Option Addr) (t77n t77c : Nat), v_7 = (.slice t77A t77n t77c) ∧ Run Try.prog 15 #[(.pointer q), (.int .i64 (Int.tmod t73 ((depthsn : Nat) : Int))), (.slice t77A t77n t77c)] w_11 fun v_8 w_12 => ∃ t780 : Bool, ∃ t781 : Int, v_8 = (.tuple #[(.bool t780), (.int .i64 t781)]) ∧ law21_QueueRefuses.J2 R depthsA depthsn depthsc at_ by_ q t570 t571 t670 t671 t780 t781 w_12) ∧ (∃ (v_9 : Value) (w_13 : World), (Instr.makeSlice 35 (.int .i64 65536) (.int .i64 65536)).run Try.prog w_9 = .ok v_9 w_13 ∧ ∃ (t77A_2 : Option Addr) (t77n_2 t77c_2 : Nat), v_9 = (.slice t77A_2 t77n_2 t77c_2) ∧ Run Try.prog 14 #[(.int .i64 at_)] w_13 fun v_10 w_14 => ∃ t73_2 : Int, v_10 = (.int .i64 t73_2) ∧ ((depthsn : Nat) : Int) ≠ 0 ∧ Run Try.prog 15 #[(.pointer q), (.int .i64 (Int.tmod t73_2 ((depthsn : Nat) : Int))), (.slice t77A_2 t77n_2 t77c_2)] w_14 fun v_11 w_15 => ∃ t780_2 : Bool, ∃ t781_2 : Int, v_11 = (.tuple #[(.bool t780_2), (.int .i64 t781_2)]) ∧ law21_QueueRefuses.J2 R depthsA depthsn depthsc at_ by_ q t570 t571 t670 t671 t780_2 t781_2 w_15))

@[reducible] def law21_QueueRefuses.vc (R : Value → World → Prop) (depthsA : Option Addr) (depthsn : Nat) (depthsc : Nat) (at_ : Int) (by_ : Int) (w : World) : Prop :=
  Run Try.prog 12 #[(.slice depthsA depthsn depthsc)] w fun v w_2 => ∃ (t28A : Option Addr) (t28n t28c : Nat), v = (.slice t28A t28n t28c) ∧ Run Try.prog 9 #[(.slice t28A t28n t28c)] w_2 fun v_2 w_3 => ∃ t290 : Option Addr, ∃ t291 : Int, v_2 = (.tuple #[(.pointer t290), (.int .i64 t291)]) ∧ ifP ((t291 : Int) != 0) (law21_QueueRefuses.J0 R depthsA depthsn depthsc at_ by_ t290 t291 true w_3) (law21_QueueRefuses.J0 R depthsA depthsn depthsc at_ by_ t290 t291 (Option.isNone t290) w_3)

theorem law21_QueueRefuses.B0_eq (R : Value → World → Prop) (a : Bool) (f : Int) (b : Bool) (g : Int) (c : Bool) (h_ : Int) (d : Bool) (i : Int) (x : Option Addr) (j : Int) (y : Option Addr) (m : Int) (nA : Option Addr) (nn : Nat) (nc : Nat) (s : Int) (i_2 : Int) (w : World) (ts : Nat → Value) :
    code Try.prog none law21_QueueRefuses.live 0 law21_QueueRefuses.c0 (thenK (fun st w => loopVC (fun K => code Try.prog none law21_QueueRefuses.live 0 law21_QueueRefuses.c0 K) (law21_QueueRefuses.live 0) (law21_QueueRefuses.K0 R) (clearFrom (law21_QueueRefuses.live 0) 0 st) w) (law21_QueueRefuses.K0 R)) (mergeFrom (law21_QueueRefuses.live 0) ts 0 (clearFrom (law21_QueueRefuses.live 0) 0 [undef, undef, undef, undef, undef, undef, undef, undef, undef, undef, (.bool a), (.int .i64 f), (.bool b), (.int .i64 g), (.bool c), (.int .i64 h_), (.bool d), (.int .i64 i), undef, (.pointer x), (.int .i64 j), (.pointer y), (.int .i64 m), (.slice nA nn nc), (.int .i64 s), (.int .i64 i_2), undef, undef, undef, undef, undef, undef, undef, undef, undef, undef, undef, undef, undef, undef, undef, undef, undef, undef, undef, undef, undef, undef, undef, undef, undef, undef, undef, undef, undef, undef, undef, undef, undef, undef, undef, undef, undef, undef, undef, undef, undef, undef, undef, undef, undef, undef, undef, undef, undef, undef, undef, undef, undef, undef, undef, undef, undef, undef, undef, undef, undef, undef, undef, undef, undef, undef, undef, undef, undef, undef, undef, undef, undef, undef, undef, undef, undef, undef, undef, undef, undef, undef, undef, undef, undef, undef, undef, undef, undef, undef, undef, undef, undef, undef, undef, undef, undef, undef, undef, undef, undef, undef, undef, undef, undef, undef, undef, undef, undef, undef, undef, undef, undef, undef, undef, undef, undef, undef, undef, undef, undef, undef, undef, undef, undef, undef, undef, undef, undef, undef, undef, undef, undef, undef, undef, undef, undef, undef, undef, undef, undef, undef, undef, undef, undef, undef, undef, undef, undef, undef, undef, undef, undef, undef, undef, undef, undef, undef, undef, undef, undef, undef, undef, undef, undef, undef])) w = law21_QueueRefuses.B0 R a f b g c h_ d i x j y m nA nn nc s i_2 w := by kernel_rfl
theorem law21_QueueRefuses.L0_step {R : Value → World → Prop} {a : Bool} {f : Int} {b : Bool} {g : Int} {c : Bool} {h_ : Int} {d : Bool} {i : Int} {x : Option Addr} {j : Int} {y : Option Addr} {m : Int} {nA : Option Addr} {nn : Nat} {nc : Nat} {s : Int} {i_2 : Int} {w : World} (h : law21_QueueRefuses.B0 R a f b g c h_ d i x j y m nA nn nc s i_2 w) : law21_QueueRefuses.L0 R a f b g c h_ d i x j y m nA nn nc s i_2 w :=
  loop_step (live := law21_QueueRefuses.live) (b := 0) (x := law21_QueueRefuses.c0) fun ts => Eq.mpr (law21_QueueRefuses.B0_eq R a f b g c h_ d i x j y m nA nn nc s i_2 w ts) h
theorem law21_QueueRefuses.eq (R : Value → World → Prop) (depthsA : Option Addr) (depthsn : Nat) (depthsc : Nat) (at_ : Int) (by_ : Int) (w : World) : fnVC Try.prog none law21_QueueRefuses.live Try.f6 R [(.slice depthsA depthsn depthsc), (.int .i64 at_), (.int .i64 by_)] w = law21_QueueRefuses.vc R depthsA depthsn depthsc at_ by_ w := by kernel_rfl
set_option maxHeartbeats 4000000 in
theorem law21_QueueRefuses.ok {R : Value → World → Prop} {depthsA : Option Addr} {depthsn : Nat} {depthsc : Nat} {at_ : Int} {by_ : Int} {w : World} (h : law21_QueueRefuses.vc R depthsA depthsn depthsc at_ by_ w) : Run Try.prog 6 #[(.slice depthsA depthsn depthsc), (.int .i64 at_), (.int .i64 by_)] w R := by
  have h2 := Eq.mpr (law21_QueueRefuses.eq R depthsA depthsn depthsc at_ by_ w) h
  exact fn_sound Try.mixed Try.func6 (by kernel_rfl) h2

end
end Go.Proofs.Ythhfipjmjnfjlaa
