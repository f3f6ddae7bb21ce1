/- Printed by a program of this repo (wip/tools/gen.py) out of Lean's own print of the functions: each function's weakest precondition, and the equation that it is one. -/
import Derived.Test.YtbbhjnhcdjjjeaaProg
import Derived.Test.YtbbhjnhcdjjjeaaS3
import Derived.KernelRfl
namespace Go.Proofs.Ytbbhjnhcdjjjeaa
open Go.Rd
set_option linter.unusedVariables false
set_option maxRecDepth 100000
section
theorem Try.mixed : Try.prog.follows .mixedOrders = true := by kernel_rfl

/-! ### riddle/riddleref1.In: function 44 -/
noncomputable def ref1_In.body : Code := bodyOf Try.f44
def ref1_In.live : Nat → List Nat
  | _ => []
def ref1_In.J0 (R : Value → World → Prop) (t6 : Bool) (w : World) : Prop :=
  R (.bool t6) w

@[reducible] def ref1_In.vc (R : Value → World → Prop) (many : Int) (at_ : Int) (size : Int) (w : World) : Prop :=
  ifP (decide ((at_ : Int) ≥ 0)) (ifP (decide ((size : Int) ≥ 0)) (ifP (decide ((size : Int) ≤ many)) (ref1_In.J0 R (decide ((at_ : Int) ≤ (IntKind.i64.wrap (many - size)))) w) (ref1_In.J0 R false w)) (ref1_In.J0 R false w)) (ref1_In.J0 R false w)

theorem ref1_In.eq (R : Value → World → Prop) (many : Int) (at_ : Int) (size : Int) (w : World) : fnVC Try.prog ref1_In.live Try.f44 R [(.int .i64 many), (.int .i64 at_), (.int .i64 size)] w = ref1_In.vc R many at_ size w := by kernel_rfl
theorem ref1_In.ok {R : Value → World → Prop} {many : Int} {at_ : Int} {size : Int} {w : World} (h : ref1_In.vc R many at_ size w) : Run Try.prog 44 #[(.int .i64 many), (.int .i64 at_), (.int .i64 size)] w R :=
  fn_sound (args := [(.int .i64 many), (.int .i64 at_), (.int .i64 size)]) Try.mixed Try.func44 (by kernel_rfl) (Eq.mpr (ref1_In.eq R many at_ size w) h)

/-! ### riddle/riddleref1.Put: function 42 -/
noncomputable def ref1_Put.body : Code := bodyOf Try.f42
def ref1_Put.live : Nat → List Nat
  | 0 => [1, 3, 10, 11]
  | _ => []
noncomputable def ref1_Put.c0 : Code := sub ref1_Put.body [1, 1, 1, 0, 1, 0, 0]
def ref1_Put.K0 (R : Value → World → Prop) : Ex → St → World → Prop := (blockK 0 (thenK (fun st w => code Try.prog ref1_Put.live 0 (sub ref1_Put.body [1, 1, 1, 1]) (retK Try.prog Try.f42 R) st w) (retK Try.prog Try.f42 R)))
def ref1_Put.L0 (R : Value → World → Prop) (at_ : Int) (v : Int) (outA : Option Addr) (outn : Nat) (outc : Nat) (i : Int) (w : World) : Prop :=
  loopVC (fun K => code Try.prog ref1_Put.live 0 ref1_Put.c0 K) (ref1_Put.live 0) (ref1_Put.K0 R) [undef, (.int .i64 at_), undef, (.int .u32 v), undef, undef, undef, undef, undef, undef, (.slice outA outn outc), (.int .i64 i), undef, undef, undef, undef, undef, undef, undef, undef, undef, undef, undef, undef, undef, undef, undef, undef, undef, undef, undef, undef, undef, undef, undef, undef, undef, undef, undef, undef, undef, undef, undef, undef, undef, undef, undef, undef, undef] w
@[reducible] def ref1_Put.B0 (R : Value → World → Prop) (at_ : Int) (v : Int) (outA : Option Addr) (outn : Nat) (outc : Nat) (i : Int) (w : World) : Prop :=
  ifP (decide ((i : Int) ≥ 0))
    (0 ≤ (IntKind.i64.wrap (at_ + i) : Int) ∧ (IntKind.i64.wrap (at_ + i) : Int) < ((outn : Nat) : Int) ∧ ∃ t45p : Addr, outA = some t45p ∧ (∃ u : Value, w.cell? (t45p.add (Int.toNat (IntKind.i64.wrap (at_ + i)) * 1)) = some u) ∧ w.frozen? (t45p.add (Int.toNat (IntKind.i64.wrap (at_ + i)) * 1)) = false ∧ letW (w.setCell (t45p.add (Int.toNat (IntKind.i64.wrap (at_ + i)) * 1)) (.int .u8 (IntKind.u8.wrap v))) fun w_2 => ref1_Put.L0 R at_ (Int.fdiv v (2 ^ 8)) outA outn outc (IntKind.i64.wrap (i - 1)) w_2)
    (R (.tuple #[(.slice outA outn outc), (.bool true)]) w)

def ref1_Put.J0 (R : Value → World → Prop) (bA : Option Addr) (bn : Nat) (bc : Nat) (at_ : Int) (size : Int) (v : Int) (t29 : Bool) (w : World) : Prop :=
  ifP t29
    (R (.tuple #[(.slice none 0 0), (.bool false)]) w)
    (letW (w.alloc (.cells #[] 5)) fun w_2 => ∃ (v_2 : Value) (w_3 : World), (Builtin.append_ #[23, 23] 23 #[(.slice (some (newA w)) 0 0), (.slice bA bn bc)]).run Try.prog w_2 = .ok v_2 w_3 ∧ ∃ (t32A : Option Addr) (t32n t32c : Nat), v_2 = (.slice t32A t32n t32c) ∧ ref1_Put.L0 R at_ v t32A t32n t32c (IntKind.i64.wrap (size - 1)) w_3)

@[reducible] def ref1_Put.vc (R : Value → World → Prop) (bA : Option Addr) (bn : Nat) (bc : Nat) (at_ : Int) (size : Int) (v : Int) (w : World) : Prop :=
  ifP ((size : Int) != 1) (ifP ((size : Int) != 2) (ifP ((size : Int) != 4) (ref1_Put.J0 R bA bn bc at_ size v true w) (Run Try.prog 44 #[(.int .i64 ((bn : Nat) : Int)), (.int .i64 at_), (.int .i64 size)] w fun v_2 w_2 => ∃ t27 : Bool, v_2 = (.bool t27) ∧ ref1_Put.J0 R bA bn bc at_ size v (!t27) w_2)) (Run Try.prog 44 #[(.int .i64 ((bn : Nat) : Int)), (.int .i64 at_), (.int .i64 size)] w fun v_3 w_3 => ∃ t27_2 : Bool, v_3 = (.bool t27_2) ∧ ref1_Put.J0 R bA bn bc at_ size v (!t27_2) w_3)) (Run Try.prog 44 #[(.int .i64 ((bn : Nat) : Int)), (.int .i64 at_), (.int .i64 size)] w fun v_4 w_4 => ∃ t27_3 : Bool, v_4 = (.bool t27_3) ∧ ref1_Put.J0 R bA bn bc at_ size v (!t27_3) w_4)

theorem ref1_Put.B0_eq (R : Value → World → Prop) (at_ : Int) (v : Int) (outA : Option Addr) (outn : Nat) (outc : Nat) (i : Int) (w : World) (ts : Nat → Value) :
    code Try.prog ref1_Put.live 0 ref1_Put.c0 (thenK (fun st w => loopVC (fun K => code Try.prog ref1_Put.live 0 ref1_Put.c0 K) (ref1_Put.live 0) (ref1_Put.K0 R) (clearFrom (ref1_Put.live 0) 0 st) w) (ref1_Put.K0 R)) (mergeFrom (ref1_Put.live 0) ts 0 (clearFrom (ref1_Put.live 0) 0 [undef, (.int .i64 at_), undef, (.int .u32 v), undef, undef, undef, undef, undef, undef, (.slice outA outn outc), (.int .i64 i), undef, undef, undef, undef, undef, undef, undef, undef, undef, undef, undef, undef, undef, undef, undef, undef, undef, undef, undef, undef, undef, undef, undef, undef, undef, undef, undef, undef, undef, undef, undef, undef, undef, undef, undef, undef, undef])) w = ref1_Put.B0 R at_ v outA outn outc i w := by kernel_rfl
theorem ref1_Put.L0_step {R : Value → World → Prop} {at_ : Int} {v : Int} {outA : Option Addr} {outn : Nat} {outc : Nat} {i : Int} {w : World} (h : ref1_Put.B0 R at_ v outA outn outc i w) : ref1_Put.L0 R at_ v outA outn outc i w :=
  loop_step (live := ref1_Put.live) (b := 0) (x := ref1_Put.c0) fun ts => Eq.mpr (ref1_Put.B0_eq R at_ v outA outn outc i w ts) h
theorem ref1_Put.eq (R : Value → World → Prop) (bA : Option Addr) (bn : Nat) (bc : Nat) (at_ : Int) (size : Int) (v : Int) (w : World) : fnVC Try.prog ref1_Put.live Try.f42 R [(.slice bA bn bc), (.int .i64 at_), (.int .i64 size), (.int .u32 v)] w = ref1_Put.vc R bA bn bc at_ size v w := by kernel_rfl
theorem ref1_Put.ok {R : Value → World → Prop} {bA : Option Addr} {bn : Nat} {bc : Nat} {at_ : Int} {size : Int} {v : Int} {w : World} (h : ref1_Put.vc R bA bn bc at_ size v w) : Run Try.prog 42 #[(.slice bA bn bc), (.int .i64 at_), (.int .i64 size), (.int .u32 v)] w R :=
  fn_sound (args := [(.slice bA bn bc), (.int .i64 at_), (.int .i64 size), (.int .u32 v)]) Try.mixed Try.func42 (by kernel_rfl) (Eq.mpr (ref1_Put.eq R bA bn bc at_ size v w) h)

/-! ### riddle/riddleref1.Bytes: function 30 -/
noncomputable def ref1_Bytes.body : Code := bodyOf Try.f30
def ref1_Bytes.live : Nat → List Nat
  | _ => []
@[reducible] def ref1_Bytes.vc (R : Value → World → Prop) (v : Int) (size : Int) (w : World) : Prop :=
  ∃ (v_2 : Value) (w_2 : World), (Instr.makeSlice 23 (.int .i64 size) (.int .i64 size)).run Try.prog w = .ok v_2 w_2 ∧ ∃ (t9A : Option Addr) (t9n t9c : Nat), v_2 = (.slice t9A t9n t9c) ∧ Run Try.prog 42 #[(.slice t9A t9n t9c), (.int .i64 0), (.int .i64 size), (.int .u32 v)] w_2 fun v_3 w_3 => ∃ (t120A : Option Addr) (t120n t120c : Nat), ∃ t121 : Bool, v_3 = (.tuple #[(.slice t120A t120n t120c), (.bool t121)]) ∧ R (.slice t120A t120n t120c) w_3

theorem ref1_Bytes.eq (R : Value → World → Prop) (v : Int) (size : Int) (w : World) : fnVC Try.prog ref1_Bytes.live Try.f30 R [(.int .u32 v), (.int .i64 size)] w = ref1_Bytes.vc R v size w := by kernel_rfl
theorem ref1_Bytes.ok {R : Value → World → Prop} {v : Int} {size : Int} {w : World} (h : ref1_Bytes.vc R v size w) : Run Try.prog 30 #[(.int .u32 v), (.int .i64 size)] w R :=
  fn_sound (args := [(.int .u32 v), (.int .i64 size)]) Try.mixed Try.func30 (by kernel_rfl) (Eq.mpr (ref1_Bytes.eq R v size w) h)

/-! ### riddle/riddleref2.Encode: function 8 -/
noncomputable def ref2_Encode.body : Code := bodyOf Try.f8
def ref2_Encode.live : Nat → List Nat
  | 0 => [0, 4, 5]
  | _ => []
noncomputable def ref2_Encode.c0 : Code := sub ref2_Encode.body [1, 1, 1, 0, 1, 0, 0]
def ref2_Encode.K0 (R : Value → World → Prop) : Ex → St → World → Prop := (blockK 0 (thenK (fun st w => code Try.prog ref2_Encode.live 0 (sub ref2_Encode.body [1, 1, 1, 1]) (retK Try.prog Try.f8 R) st w) (retK Try.prog Try.f8 R)))
def ref2_Encode.L0 (R : Value → World → Prop) (pA : Option Addr) (pn : Nat) (pc : Nat) (outA : Option Addr) (outn : Nat) (outc : Nat) (i : Int) (w : World) : Prop :=
  loopVC (fun K => code Try.prog ref2_Encode.live 0 ref2_Encode.c0 K) (ref2_Encode.live 0) (ref2_Encode.K0 R) [(.slice pA pn pc), undef, undef, undef, (.slice outA outn outc), (.int .i64 i), undef, undef, undef, undef, undef, undef, undef, undef, undef, undef, undef, undef, undef, undef, undef, undef, undef, undef, undef, undef, undef, undef, undef, undef, undef, undef, undef, undef, undef, undef, undef, undef, undef, undef, undef, undef, undef, undef, undef, undef] w
def ref2_Encode.J0 (R : Value → World → Prop) (pA : Option Addr) (pn : Nat) (pc : Nat) (outA : Option Addr) (outn : Nat) (outc : Nat) (i : Int) (w : World) : Prop :=
  0 ≤ (i : Int) ∧ (i : Int) < ((pn : Nat) : Int) ∧ ∃ t40p : Addr, pA = some t40p ∧ ∃ t42 : Int, w.cell? ((t40p.add (Int.toNat i * 4)).add 3) = some (.int .u32 t42) ∧ Run Try.prog 30 #[(.int .u32 t42), (.int .i64 4)] w fun v w_2 => ∃ (t43A : Option Addr) (t43n t43c : Nat), v = (.slice t43A t43n t43c) ∧ ∃ (v_2 : Value) (w_3 : World), (Builtin.append_ #[23, 23] 23 #[(.slice outA outn outc), (.slice t43A t43n t43c)]).run Try.prog w_2 = .ok v_2 w_3 ∧ ∃ (t44A : Option Addr) (t44n t44c : Nat), v_2 = (.slice t44A t44n t44c) ∧ ref2_Encode.L0 R pA pn pc t44A t44n t44c (IntKind.i64.wrap (i + 1)) w_3

@[reducible] def ref2_Encode.B0 (R : Value → World → Prop) (pA : Option Addr) (pn : Nat) (pc : Nat) (outA : Option Addr) (outn : Nat) (outc : Nat) (i : Int) (w : World) : Prop :=
  ifP (decide ((i : Int) < ((pn : Nat) : Int)))
    (0 ≤ (i : Int) ∧ (i : Int) < ((pn : Nat) : Int) ∧ ∃ t18p : Addr, pA = some t18p ∧ ∃ t20 : Int, w.cell? (t18p.add (Int.toNat i * 4)) = some (.int .u16 t20) ∧ Run Try.prog 30 #[(.int .u32 (IntKind.u32.wrap t20)), (.int .i64 2)] w fun v w_2 => ∃ (t22A : Option Addr) (t22n t22c : Nat), v = (.slice t22A t22n t22c) ∧ ∃ (v_2 : Value) (w_3 : World), (Builtin.append_ #[23, 23] 23 #[(.slice outA outn outc), (.slice t22A t22n t22c)]).run Try.prog w_2 = .ok v_2 w_3 ∧ ∃ (t23A : Option Addr) (t23n t23c : Nat), v_2 = (.slice t23A t23n t23c) ∧ ∃ S_ : World → Prop, S_ w_3.drew ∧ letW w_3.drew fun w_4 => 0 ≤ (i : Int) ∧ (i : Int) < ((pn : Nat) : Int) ∧ ∃ t27p : Addr, pA = some t27p ∧ ∃ t29 : Int, (∀ u : World, S_ u → u.cell? ((t27p.add (Int.toNat i * 4)).add 1) = some (.int .u8 t29)) ∧ 0 ≤ (i : Int) ∧ (i : Int) < ((pn : Nat) : Int) ∧ ∃ t32p : Addr, pA = some t32p ∧ ∃ t34 : Int, (∀ u_2 : World, S_ u_2 → u_2.cell? ((t32p.add (Int.toNat i * 4)).add 2) = some (.int .u8 t34)) ∧ letW (w_4.alloc (.cells #[(.int .u8 t29), (.int .u8 t34)] 5)) fun w_5 => S_ w_5 ∧ ∃ (v_3 : Value) (w_6 : World), (Builtin.append_ #[23, 23] 23 #[(.slice t23A t23n t23c), (.slice (some (newA w_4)) 2 2)]).run Try.prog w_5 = .ok v_3 w_6 ∧ ∃ (t36A : Option Addr) (t36n t36c : Nat), v_3 = (.slice t36A t36n t36c) ∧ S_ w_6 ∧ ref2_Encode.J0 R pA pn pc t36A t36n t36c i w_6)
    (R (.tuple #[(.slice outA outn outc), (.int .i64 0)]) w)

@[reducible] def ref2_Encode.vc (R : Value → World → Prop) (pA : Option Addr) (pn : Nat) (pc : Nat) (w : World) : Prop :=
  ifP (decide ((((pn : Nat) : Int) : Int) > 4096))
    (R (.tuple #[(.slice none 0 0), (.int .i64 21)]) w)
    (ref2_Encode.L0 R pA pn pc none 0 0 0 w)

theorem ref2_Encode.B0_eq (R : Value → World → Prop) (pA : Option Addr) (pn : Nat) (pc : Nat) (outA : Option Addr) (outn : Nat) (outc : Nat) (i : Int) (w : World) (ts : Nat → Value) :
    code Try.prog ref2_Encode.live 0 ref2_Encode.c0 (thenK (fun st w => loopVC (fun K => code Try.prog ref2_Encode.live 0 ref2_Encode.c0 K) (ref2_Encode.live 0) (ref2_Encode.K0 R) (clearFrom (ref2_Encode.live 0) 0 st) w) (ref2_Encode.K0 R)) (mergeFrom (ref2_Encode.live 0) ts 0 (clearFrom (ref2_Encode.live 0) 0 [(.slice pA pn pc), undef, undef, undef, (.slice outA outn outc), (.int .i64 i), undef, undef, undef, undef, undef, undef, undef, undef, undef, undef, undef, undef, undef, undef, undef, undef, undef, undef, undef, undef, undef, undef, undef, undef, undef, undef, undef, undef, undef, undef, undef, undef, undef, undef, undef, undef, undef, undef, undef, undef])) w = ref2_Encode.B0 R pA pn pc outA outn outc i w := by kernel_rfl
theorem ref2_Encode.L0_step {R : Value → World → Prop} {pA : Option Addr} {pn : Nat} {pc : Nat} {outA : Option Addr} {outn : Nat} {outc : Nat} {i : Int} {w : World} (h : ref2_Encode.B0 R pA pn pc outA outn outc i w) : ref2_Encode.L0 R pA pn pc outA outn outc i w :=
  loop_step (live := ref2_Encode.live) (b := 0) (x := ref2_Encode.c0) fun ts => Eq.mpr (ref2_Encode.B0_eq R pA pn pc outA outn outc i w ts) h
theorem ref2_Encode.eq (R : Value → World → Prop) (pA : Option Addr) (pn : Nat) (pc : Nat) (w : World) : fnVC Try.prog ref2_Encode.live Try.f8 R [(.slice pA pn pc)] w = ref2_Encode.vc R pA pn pc w := by kernel_rfl
theorem ref2_Encode.ok {R : Value → World → Prop} {pA : Option Addr} {pn : Nat} {pc : Nat} {w : World} (h : ref2_Encode.vc R pA pn pc w) : Run Try.prog 8 #[(.slice pA pn pc)] w R :=
  fn_sound (args := [(.slice pA pn pc)]) Try.mixed Try.func8 (by kernel_rfl) (Eq.mpr (ref2_Encode.eq R pA pn pc w) h)

/-! ### riddle/riddlelaw0.CopyInsns: function 12 -/
noncomputable def law0_CopyInsns.body : Code := bodyOf Try.f12
def law0_CopyInsns.live : Nat → List Nat
  | _ => []
@[reducible] def law0_CopyInsns.vc (R : Value → World → Prop) (aA : Option Addr) (an : Nat) (ac : Nat) (w : World) : Prop :=
  letW (w.alloc (.cells #[] 48)) fun w_2 => ∃ (v : Value) (w_3 : World), (Builtin.append_ #[22, 22] 22 #[(.slice (some (newA w)) 0 0), (.slice aA an ac)]).run Try.prog w_2 = .ok v w_3 ∧ ∃ (t5A : Option Addr) (t5n t5c : Nat), v = (.slice t5A t5n t5c) ∧ R (.slice t5A t5n t5c) w_3

theorem law0_CopyInsns.eq (R : Value → World → Prop) (aA : Option Addr) (an : Nat) (ac : Nat) (w : World) : fnVC Try.prog law0_CopyInsns.live Try.f12 R [(.slice aA an ac)] w = law0_CopyInsns.vc R aA an ac w := by kernel_rfl
theorem law0_CopyInsns.ok {R : Value → World → Prop} {aA : Option Addr} {an : Nat} {ac : Nat} {w : World} (h : law0_CopyInsns.vc R aA an ac w) : Run Try.prog 12 #[(.slice aA an ac)] w R :=
  fn_sound (args := [(.slice aA an ac)]) Try.mixed Try.func12 (by kernel_rfl) (Eq.mpr (law0_CopyInsns.eq R aA an ac w) h)

/-! ### riddle/riddlelaw0.LendInsns: function 9 -/
noncomputable def law0_LendInsns.body : Code := bodyOf Try.f9
def law0_LendInsns.live : Nat → List Nat
  | _ => []
@[reducible] def law0_LendInsns.vc (R : Value → World → Prop) (aA : Option Addr) (an : Nat) (ac : Nat) (w : World) : Prop :=
  Run Try.prog 12 #[(.slice aA an ac)] w fun v w_2 => ∃ (t5A : Option Addr) (t5n t5c : Nat), v = (.slice t5A t5n t5c) ∧ letW (w_2.alloc (.cells #[(.int .u16 7), (.int .u8 0), (.int .u8 0), (.int .u32 77), (.int .u16 7), (.int .u8 0), (.int .u8 0), (.int .u32 77), (.int .u16 7), (.int .u8 0), (.int .u8 0), (.int .u32 77)] 48)) fun w_3 => ∃ (v_2 : Value) (w_4 : World), (Builtin.append_ #[22, 22] 22 #[(.slice t5A t5n t5c), (.slice (some (newA w_2)) 3 3)]).run Try.prog w_3 = .ok v_2 w_4 ∧ ∃ (t10A : Option Addr) (t10n t10c : Nat), v_2 = (.slice t10A t10n t10c) ∧ (0 : Int) ≤ 0 ∧ (0 : Int) ≤ ((an : Nat) : Int) ∧ (((an : Nat) : Int) : Int) ≤ ((t10c : Nat) : Int) ∧ R (.slice (subA t10A t10c 0 4) ((Int.toNat ((an : Nat) : Int)) - 0) (t10c - 0)) w_4

theorem law0_LendInsns.eq (R : Value → World → Prop) (aA : Option Addr) (an : Nat) (ac : Nat) (w : World) : fnVC Try.prog law0_LendInsns.live Try.f9 R [(.slice aA an ac)] w = law0_LendInsns.vc R aA an ac w := by kernel_rfl
theorem law0_LendInsns.ok {R : Value → World → Prop} {aA : Option Addr} {an : Nat} {ac : Nat} {w : World} (h : law0_LendInsns.vc R aA an ac w) : Run Try.prog 9 #[(.slice aA an ac)] w R :=
  fn_sound (args := [(.slice aA an ac)]) Try.mixed Try.func9 (by kernel_rfl) (Eq.mpr (law0_LendInsns.eq R aA an ac w) h)

/-! ### riddle/word.Join: function 23 -/
noncomputable def word_Join.body : Code := bodyOf Try.f23
def word_Join.live : Nat → List Nat
  | 0 => [0, 3, 9, 10, 11]
  | 2 => [6, 22, 23, 24]
  | _ => []
noncomputable def word_Join.c0 : Code := sub word_Join.body [1, 1, 0, 1, 0, 0]
noncomputable def word_Join.c2 : Code := sub word_Join.body [1, 1, 1, 1, 0, 1, 0, 0]
def word_Join.K0 (R : Value → World → Prop) : Ex → St → World → Prop := (blockK 0 (thenK (fun st w => code Try.prog word_Join.live 0 (sub word_Join.body [1, 1, 1]) (retK Try.prog Try.f23 R) st w) (retK Try.prog Try.f23 R)))
def word_Join.L0 (R : Value → World → Prop) (partsA : Option Addr) (partsn : Nat) (partsc : Nat) (n : Int) (t9A : Option Addr) (t9n : Nat) (t9c : Nat) (t10 : Int) (t11 : Int) (w : World) : Prop :=
  loopVC (fun K => code Try.prog word_Join.live 0 word_Join.c0 K) (word_Join.live 0) (word_Join.K0 R) [(.slice partsA partsn partsc), undef, undef, (.int .i64 n), undef, undef, undef, undef, undef, (.slice t9A t9n t9c), (.int .i64 t10), (.int .i64 t11), undef, undef, undef, undef, undef, undef, undef, undef, undef, undef, undef, undef, undef, undef, undef, undef, undef, undef, undef, undef, undef] w
def word_Join.K2 (R : Value → World → Prop) : Ex → St → World → Prop := (blockK 2 (thenK (fun st w => code Try.prog word_Join.live 0 (sub word_Join.body [1, 1, 1, 1, 1]) (retK Try.prog Try.f23 R) st w) (retK Try.prog Try.f23 R)))
def word_Join.L2 (R : Value → World → Prop) (outA : Option Addr) (outn : Nat) (outc : Nat) (t22A : Option Addr) (t22n : Nat) (t22c : Nat) (t23 : Int) (t24 : Int) (w : World) : Prop :=
  loopVC (fun K => code Try.prog word_Join.live 2 word_Join.c2 K) (word_Join.live 2) (word_Join.K2 R) [undef, undef, undef, undef, undef, undef, (.slice outA outn outc), undef, undef, undef, undef, undef, undef, undef, undef, undef, undef, undef, undef, undef, undef, undef, (.slice t22A t22n t22c), (.int .i64 t23), (.int .i64 t24), undef, undef, undef, undef, undef, undef, undef, undef] w
@[reducible] def word_Join.B2 (R : Value → World → Prop) (outA : Option Addr) (outn : Nat) (outc : Nat) (t22A : Option Addr) (t22n : Nat) (t22c : Nat) (t23 : Int) (t24 : Int) (w : World) : Prop :=
  ifP (decide ((t24 : Int) < t23))
    (0 ≤ (t24 : Int) ∧ (t24 : Int) < ((t22n : Nat) : Int) ∧ ∃ t26p : Addr, t22A = some t26p ∧ ∃ (t27A : Option Addr) (t27n t27c : Nat), w.cell? (t26p.add (Int.toNat t24 * 1)) = some (.slice t27A t27n t27c) ∧ ∃ (v : Value) (w_2 : World), (Builtin.append_ #[23, 23] 23 #[(.slice outA outn outc), (.slice t27A t27n t27c)]).run Try.prog w = .ok v w_2 ∧ ∃ (t30A : Option Addr) (t30n t30c : Nat), v = (.slice t30A t30n t30c) ∧ word_Join.L2 R t30A t30n t30c t22A t22n t22c t23 (IntKind.i64.wrap (t24 + 1)) w_2)
    (R (.slice outA outn outc) w)

@[reducible] def word_Join.B0 (R : Value → World → Prop) (partsA : Option Addr) (partsn : Nat) (partsc : Nat) (n : Int) (t9A : Option Addr) (t9n : Nat) (t9c : Nat) (t10 : Int) (t11 : Int) (w : World) : Prop :=
  ifP (decide ((t11 : Int) < t10))
    (0 ≤ (t11 : Int) ∧ (t11 : Int) < ((t9n : Nat) : Int) ∧ ∃ t13p : Addr, t9A = some t13p ∧ ∃ (t14A : Option Addr) (t14n t14c : Nat), w.cell? (t13p.add (Int.toNat t11 * 1)) = some (.slice t14A t14n t14c) ∧ word_Join.L0 R partsA partsn partsc (IntKind.i64.wrap (n + ((t14n : Nat) : Int))) t9A t9n t9c t10 (IntKind.i64.wrap (t11 + 1)) w)
    (∃ (v : Value) (w_2 : World), (Instr.makeSlice 23 (.int .i64 0) (.int .i64 n)).run Try.prog w = .ok v w_2 ∧ ∃ (t21A : Option Addr) (t21n t21c : Nat), v = (.slice t21A t21n t21c) ∧ word_Join.L2 R t21A t21n t21c partsA partsn partsc ((partsn : Nat) : Int) 0 w_2)

@[reducible] def word_Join.vc (R : Value → World → Prop) (partsA : Option Addr) (partsn : Nat) (partsc : Nat) (w : World) : Prop :=
  word_Join.L0 R partsA partsn partsc 0 partsA partsn partsc ((partsn : Nat) : Int) 0 w

theorem word_Join.B0_eq (R : Value → World → Prop) (partsA : Option Addr) (partsn : Nat) (partsc : Nat) (n : Int) (t9A : Option Addr) (t9n : Nat) (t9c : Nat) (t10 : Int) (t11 : Int) (w : World) (ts : Nat → Value) :
    code Try.prog word_Join.live 0 word_Join.c0 (thenK (fun st w => loopVC (fun K => code Try.prog word_Join.live 0 word_Join.c0 K) (word_Join.live 0) (word_Join.K0 R) (clearFrom (word_Join.live 0) 0 st) w) (word_Join.K0 R)) (mergeFrom (word_Join.live 0) ts 0 (clearFrom (word_Join.live 0) 0 [(.slice partsA partsn partsc), undef, undef, (.int .i64 n), undef, undef, undef, undef, undef, (.slice t9A t9n t9c), (.int .i64 t10), (.int .i64 t11), undef, undef, undef, undef, undef, undef, undef, undef, undef, undef, undef, undef, undef, undef, undef, undef, undef, undef, undef, undef, undef])) w = word_Join.B0 R partsA partsn partsc n t9A t9n t9c t10 t11 w := by kernel_rfl
theorem word_Join.L0_step {R : Value → World → Prop} {partsA : Option Addr} {partsn : Nat} {partsc : Nat} {n : Int} {t9A : Option Addr} {t9n : Nat} {t9c : Nat} {t10 : Int} {t11 : Int} {w : World} (h : word_Join.B0 R partsA partsn partsc n t9A t9n t9c t10 t11 w) : word_Join.L0 R partsA partsn partsc n t9A t9n t9c t10 t11 w :=
  loop_step (live := word_Join.live) (b := 0) (x := word_Join.c0) fun ts => Eq.mpr (word_Join.B0_eq R partsA partsn partsc n t9A t9n t9c t10 t11 w ts) h
theorem word_Join.B2_eq (R : Value → World → Prop) (outA : Option Addr) (outn : Nat) (outc : Nat) (t22A : Option Addr) (t22n : Nat) (t22c : Nat) (t23 : Int) (t24 : Int) (w : World) (ts : Nat → Value) :
    code Try.prog word_Join.live 2 word_Join.c2 (thenK (fun st w => loopVC (fun K => code Try.prog word_Join.live 2 word_Join.c2 K) (word_Join.live 2) (word_Join.K2 R) (clearFrom (word_Join.live 2) 0 st) w) (word_Join.K2 R)) (mergeFrom (word_Join.live 2) ts 0 (clearFrom (word_Join.live 2) 0 [undef, undef, undef, undef, undef, undef, (.slice outA outn outc), undef, undef, undef, undef, undef, undef, undef, undef, undef, undef, undef, undef, undef, undef, undef, (.slice t22A t22n t22c), (.int .i64 t23), (.int .i64 t24), undef, undef, undef, undef, undef, undef, undef, undef])) w = word_Join.B2 R outA outn outc t22A t22n t22c t23 t24 w := by kernel_rfl
theorem word_Join.L2_step {R : Value → World → Prop} {outA : Option Addr} {outn : Nat} {outc : Nat} {t22A : Option Addr} {t22n : Nat} {t22c : Nat} {t23 : Int} {t24 : Int} {w : World} (h : word_Join.B2 R outA outn outc t22A t22n t22c t23 t24 w) : word_Join.L2 R outA outn outc t22A t22n t22c t23 t24 w :=
  loop_step (live := word_Join.live) (b := 2) (x := word_Join.c2) fun ts => Eq.mpr (word_Join.B2_eq R outA outn outc t22A t22n t22c t23 t24 w ts) h
theorem word_Join.eq (R : Value → World → Prop) (partsA : Option Addr) (partsn : Nat) (partsc : Nat) (w : World) : fnVC Try.prog word_Join.live Try.f23 R [(.slice partsA partsn partsc)] w = word_Join.vc R partsA partsn partsc w := by kernel_rfl
theorem word_Join.ok {R : Value → World → Prop} {partsA : Option Addr} {partsn : Nat} {partsc : Nat} {w : World} (h : word_Join.vc R partsA partsn partsc w) : Run Try.prog 23 #[(.slice partsA partsn partsc)] w R :=
  fn_sound (args := [(.slice partsA partsn partsc)]) Try.mixed Try.func23 (by kernel_rfl) (Eq.mpr (word_Join.eq R partsA partsn partsc w) h)

/-! ### riddle/word.fits: function 45 -/
noncomputable def word_fits.body : Code := bodyOf Try.f45
def word_fits.live : Nat → List Nat
  | _ => []
def word_fits.J0 (R : Value → World → Prop) (t6 : Bool) (w : World) : Prop :=
  R (.bool t6) w

@[reducible] def word_fits.vc (R : Value → World → Prop) (n : Int) (at_ : Int) (size : Int) (w : World) : Prop :=
  ifP ((size : Int) == 1) (ifP (decide ((at_ : Int) ≥ 0)) (word_fits.J0 R (decide ((at_ : Int) ≤ (IntKind.i64.wrap (n - size)))) w) (word_fits.J0 R false w)) (ifP ((size : Int) == 2) (ifP (decide ((at_ : Int) ≥ 0)) (word_fits.J0 R (decide ((at_ : Int) ≤ (IntKind.i64.wrap (n - size)))) w) (word_fits.J0 R false w)) (ifP ((size : Int) == 4) (ifP (decide ((at_ : Int) ≥ 0)) (word_fits.J0 R (decide ((at_ : Int) ≤ (IntKind.i64.wrap (n - size)))) w) (word_fits.J0 R false w)) (word_fits.J0 R false w)))

theorem word_fits.eq (R : Value → World → Prop) (n : Int) (at_ : Int) (size : Int) (w : World) : fnVC Try.prog word_fits.live Try.f45 R [(.int .i64 n), (.int .i64 at_), (.int .i64 size)] w = word_fits.vc R n at_ size w := by kernel_rfl
theorem word_fits.ok {R : Value → World → Prop} {n : Int} {at_ : Int} {size : Int} {w : World} (h : word_fits.vc R n at_ size w) : Run Try.prog 45 #[(.int .i64 n), (.int .i64 at_), (.int .i64 size)] w R :=
  fn_sound (args := [(.int .i64 n), (.int .i64 at_), (.int .i64 size)]) Try.mixed Try.func45 (by kernel_rfl) (Eq.mpr (word_fits.eq R n at_ size w) h)

/-! ### riddle/word.Put: function 43 -/
noncomputable def word_Put.body : Code := bodyOf Try.f43
def word_Put.live : Nat → List Nat
  | 0 => [1, 3, 10, 11]
  | _ => []
noncomputable def word_Put.c0 : Code := sub word_Put.body [1, 1, 1, 0, 1, 0, 0]
def word_Put.K0 (R : Value → World → Prop) : Ex → St → World → Prop := (blockK 0 (thenK (fun st w => code Try.prog word_Put.live 0 (sub word_Put.body [1, 1, 1, 1]) (retK Try.prog Try.f43 R) st w) (retK Try.prog Try.f43 R)))
def word_Put.L0 (R : Value → World → Prop) (at_ : Int) (v : Int) (outA : Option Addr) (outn : Nat) (outc : Nat) (i : Int) (w : World) : Prop :=
  loopVC (fun K => code Try.prog word_Put.live 0 word_Put.c0 K) (word_Put.live 0) (word_Put.K0 R) [undef, (.int .i64 at_), undef, (.int .u32 v), undef, undef, undef, undef, undef, undef, (.slice outA outn outc), (.int .i64 i), undef, undef, undef, undef, undef, undef, undef, undef, undef, undef, undef, undef, undef, undef, undef, undef, undef, undef, undef, undef, undef, undef, undef, undef, undef, undef] w
@[reducible] def word_Put.B0 (R : Value → World → Prop) (at_ : Int) (v : Int) (outA : Option Addr) (outn : Nat) (outc : Nat) (i : Int) (w : World) : Prop :=
  ifP (decide ((i : Int) ≥ at_))
    (0 ≤ (i : Int) ∧ (i : Int) < ((outn : Nat) : Int) ∧ ∃ t34p : Addr, outA = some t34p ∧ (∃ u : Value, w.cell? (t34p.add (Int.toNat i * 1)) = some u) ∧ w.frozen? (t34p.add (Int.toNat i * 1)) = false ∧ letW (w.setCell (t34p.add (Int.toNat i * 1)) (.int .u8 (IntKind.u8.wrap v))) fun w_2 => word_Put.L0 R at_ (Int.fdiv v (2 ^ 8)) outA outn outc (IntKind.i64.wrap (i - 1)) w_2)
    (R (.tuple #[(.slice outA outn outc), (.bool true)]) w)

@[reducible] def word_Put.vc (R : Value → World → Prop) (bA : Option Addr) (bn : Nat) (bc : Nat) (at_ : Int) (size : Int) (v : Int) (w : World) : Prop :=
  Run Try.prog 45 #[(.int .i64 ((bn : Nat) : Int)), (.int .i64 at_), (.int .i64 size)] w fun v_2 w_2 => ∃ t16 : Bool, v_2 = (.bool t16) ∧ ifP (!t16)
    (R (.tuple #[(.slice none 0 0), (.bool false)]) w_2)
    (letW (w_2.alloc (.cells #[(.slice bA bn bc)] 23)) fun w_3 => Run Try.prog 23 #[(.slice (some (newA w_2)) 1 1)] w_3 fun v_3 w_4 => ∃ (t20A : Option Addr) (t20n t20c : Nat), v_3 = (.slice t20A t20n t20c) ∧ word_Put.L0 R at_ v t20A t20n t20c (IntKind.i64.wrap ((IntKind.i64.wrap (at_ + size)) - 1)) w_4)

theorem word_Put.B0_eq (R : Value → World → Prop) (at_ : Int) (v : Int) (outA : Option Addr) (outn : Nat) (outc : Nat) (i : Int) (w : World) (ts : Nat → Value) :
    code Try.prog word_Put.live 0 word_Put.c0 (thenK (fun st w => loopVC (fun K => code Try.prog word_Put.live 0 word_Put.c0 K) (word_Put.live 0) (word_Put.K0 R) (clearFrom (word_Put.live 0) 0 st) w) (word_Put.K0 R)) (mergeFrom (word_Put.live 0) ts 0 (clearFrom (word_Put.live 0) 0 [undef, (.int .i64 at_), undef, (.int .u32 v), undef, undef, undef, undef, undef, undef, (.slice outA outn outc), (.int .i64 i), undef, undef, undef, undef, undef, undef, undef, undef, undef, undef, undef, undef, undef, undef, undef, undef, undef, undef, undef, undef, undef, undef, undef, undef, undef, undef])) w = word_Put.B0 R at_ v outA outn outc i w := by kernel_rfl
theorem word_Put.L0_step {R : Value → World → Prop} {at_ : Int} {v : Int} {outA : Option Addr} {outn : Nat} {outc : Nat} {i : Int} {w : World} (h : word_Put.B0 R at_ v outA outn outc i w) : word_Put.L0 R at_ v outA outn outc i w :=
  loop_step (live := word_Put.live) (b := 0) (x := word_Put.c0) fun ts => Eq.mpr (word_Put.B0_eq R at_ v outA outn outc i w ts) h
theorem word_Put.eq (R : Value → World → Prop) (bA : Option Addr) (bn : Nat) (bc : Nat) (at_ : Int) (size : Int) (v : Int) (w : World) : fnVC Try.prog word_Put.live Try.f43 R [(.slice bA bn bc), (.int .i64 at_), (.int .i64 size), (.int .u32 v)] w = word_Put.vc R bA bn bc at_ size v w := by kernel_rfl
theorem word_Put.ok {R : Value → World → Prop} {bA : Option Addr} {bn : Nat} {bc : Nat} {at_ : Int} {size : Int} {v : Int} {w : World} (h : word_Put.vc R bA bn bc at_ size v w) : Run Try.prog 43 #[(.slice bA bn bc), (.int .i64 at_), (.int .i64 size), (.int .u32 v)] w R :=
  fn_sound (args := [(.slice bA bn bc), (.int .i64 at_), (.int .i64 size), (.int .u32 v)]) Try.mixed Try.func43 (by kernel_rfl) (Eq.mpr (word_Put.eq R bA bn bc at_ size v w) h)

/-! ### riddle/insn.octets: function 31 -/
noncomputable def insn_octets.body : Code := bodyOf Try.f31
def insn_octets.live : Nat → List Nat
  | 0 => [3, 8, 9, 10]
  | _ => []
noncomputable def insn_octets.c0 : Code := sub insn_octets.body [1, 1, 0, 1, 0, 0]
def insn_octets.K0 (R : Value → World → Prop) : Ex → St → World → Prop := (blockK 0 (thenK (fun st w => code Try.prog insn_octets.live 0 (sub insn_octets.body [1, 1, 1]) (retK Try.prog Try.f31 R) st w) (retK Try.prog Try.f31 R)))
def insn_octets.L0 (R : Value → World → Prop) (partsA : Option Addr) (partsn : Nat) (partsc : Nat) (t8A : Option Addr) (t8n : Nat) (t8c : Nat) (t9 : Int) (t10 : Int) (w : World) : Prop :=
  loopVC (fun K => code Try.prog insn_octets.live 0 insn_octets.c0 K) (insn_octets.live 0) (insn_octets.K0 R) [undef, undef, undef, (.slice partsA partsn partsc), undef, undef, undef, undef, (.slice t8A t8n t8c), (.int .i64 t9), (.int .i64 t10), undef, undef, undef, undef, undef, undef, undef, undef, undef, undef, undef, undef, undef, undef, undef, undef, undef, undef, undef, undef, undef] w
def insn_octets.J0 (R : Value → World → Prop) (partsA : Option Addr) (partsn : Nat) (partsc : Nat) (bA : Option Addr) (bn : Nat) (bc : Nat) (t8A : Option Addr) (t8n : Nat) (t8c : Nat) (t9 : Int) (t10 : Int) (w : World) : Prop :=
  letW (w.alloc (.cells #[(.slice bA bn bc)] 23)) fun w_2 => ∃ (v : Value) (w_3 : World), (Builtin.append_ #[54, 54] 54 #[(.slice partsA partsn partsc), (.slice (some (newA w)) 1 1)]).run Try.prog w_2 = .ok v w_3 ∧ ∃ (t28A : Option Addr) (t28n t28c : Nat), v = (.slice t28A t28n t28c) ∧ insn_octets.L0 R t28A t28n t28c t8A t8n t8c t9 (IntKind.i64.wrap (t10 + 1)) w_3

@[reducible] def insn_octets.B0 (R : Value → World → Prop) (partsA : Option Addr) (partsn : Nat) (partsc : Nat) (t8A : Option Addr) (t8n : Nat) (t8c : Nat) (t9 : Int) (t10 : Int) (w : World) : Prop :=
  ifP (decide ((t10 : Int) < t9))
    (0 ≤ (t10 : Int) ∧ (t10 : Int) < ((t8n : Nat) : Int) ∧ ∃ t12p : Addr, t8A = some t12p ∧ ∃ t13_0 : Int, w.cell? (t12p.add (Int.toNat t10 * 2)) = some (.int .u32 t13_0) ∧ ∃ t13_1 : Int, w.cell? ((t12p.add (Int.toNat t10 * 2)).add 1) = some (.int .i64 t13_1) ∧ letW (w.alloc (.cells #[(.int .u32 0), (.int .i64 0)] 51)) fun w_2 => storeRow (newA w) 0 [(.int .u32 t13_0), (.int .i64 t13_1)] w_2 fun w_3 => ∃ S_ : World → Prop, S_ w_3.drew ∧ letW w_3.drew fun w_4 => ∃ t16 : Int, (∀ u : World, S_ u → u.cell? ((newA w).add 1) = some (.int .i64 t16)) ∧ ∃ t19 : Int, (∀ u_2 : World, S_ u_2 → u_2.cell? ((newA w).add 1) = some (.int .i64 t19)) ∧ ∃ t21 : Int, (∀ u_3 : World, S_ u_3 → u_3.cell? (newA w) = some (.int .u32 t21)) ∧ ∃ (v : Value) (w_5 : World), (Instr.makeSlice 23 (.int .i64 t16) (.int .i64 t16)).run Try.prog w_4 = .ok v w_5 ∧ ∃ (t17A : Option Addr) (t17n t17c : Nat), v = (.slice t17A t17n t17c) ∧ S_ w_5 ∧ Run Try.prog 43 #[(.slice t17A t17n t17c), (.int .i64 0), (.int .i64 t19), (.int .u32 t21)] w_5 fun v_2 w_6 => ∃ (t220A : Option Addr) (t220n t220c : Nat), ∃ t221 : Bool, v_2 = (.tuple #[(.slice t220A t220n t220c), (.bool t221)]) ∧ S_ w_6 ∧ insn_octets.J0 R partsA partsn partsc t220A t220n t220c t8A t8n t8c t9 t10 w_6)
    (Run Try.prog 23 #[(.slice partsA partsn partsc)] w fun v_3 w_7 => ∃ (t31A : Option Addr) (t31n t31c : Nat), v_3 = (.slice t31A t31n t31c) ∧ R (.slice t31A t31n t31c) w_7)

@[reducible] def insn_octets.vc (R : Value → World → Prop) (fieldsA : Option Addr) (fieldsn : Nat) (fieldsc : Nat) (w : World) : Prop :=
  insn_octets.L0 R none 0 0 fieldsA fieldsn fieldsc ((fieldsn : Nat) : Int) 0 w

theorem insn_octets.B0_eq (R : Value → World → Prop) (partsA : Option Addr) (partsn : Nat) (partsc : Nat) (t8A : Option Addr) (t8n : Nat) (t8c : Nat) (t9 : Int) (t10 : Int) (w : World) (ts : Nat → Value) :
    code Try.prog insn_octets.live 0 insn_octets.c0 (thenK (fun st w => loopVC (fun K => code Try.prog insn_octets.live 0 insn_octets.c0 K) (insn_octets.live 0) (insn_octets.K0 R) (clearFrom (insn_octets.live 0) 0 st) w) (insn_octets.K0 R)) (mergeFrom (insn_octets.live 0) ts 0 (clearFrom (insn_octets.live 0) 0 [undef, undef, undef, (.slice partsA partsn partsc), undef, undef, undef, undef, (.slice t8A t8n t8c), (.int .i64 t9), (.int .i64 t10), undef, undef, undef, undef, undef, undef, undef, undef, undef, undef, undef, undef, undef, undef, undef, undef, undef, undef, undef, undef, undef])) w = insn_octets.B0 R partsA partsn partsc t8A t8n t8c t9 t10 w := by kernel_rfl
theorem insn_octets.L0_step {R : Value → World → Prop} {partsA : Option Addr} {partsn : Nat} {partsc : Nat} {t8A : Option Addr} {t8n : Nat} {t8c : Nat} {t9 : Int} {t10 : Int} {w : World} (h : insn_octets.B0 R partsA partsn partsc t8A t8n t8c t9 t10 w) : insn_octets.L0 R partsA partsn partsc t8A t8n t8c t9 t10 w :=
  loop_step (live := insn_octets.live) (b := 0) (x := insn_octets.c0) fun ts => Eq.mpr (insn_octets.B0_eq R partsA partsn partsc t8A t8n t8c t9 t10 w ts) h
theorem insn_octets.eq (R : Value → World → Prop) (fieldsA : Option Addr) (fieldsn : Nat) (fieldsc : Nat) (w : World) : fnVC Try.prog insn_octets.live Try.f31 R [(.slice fieldsA fieldsn fieldsc)] w = insn_octets.vc R fieldsA fieldsn fieldsc w := by kernel_rfl
theorem insn_octets.ok {R : Value → World → Prop} {fieldsA : Option Addr} {fieldsn : Nat} {fieldsc : Nat} {w : World} (h : insn_octets.vc R fieldsA fieldsn fieldsc w) : Run Try.prog 31 #[(.slice fieldsA fieldsn fieldsc)] w R :=
  fn_sound (args := [(.slice fieldsA fieldsn fieldsc)]) Try.mixed Try.func31 (by kernel_rfl) (Eq.mpr (insn_octets.eq R fieldsA fieldsn fieldsc w) h)

/-! ### riddle/insn.Encode: function 10 -/
noncomputable def insn_Encode.body : Code := bodyOf Try.f10
def insn_Encode.live : Nat → List Nat
  | 0 => [4, 14, 15, 16]
  | _ => []
noncomputable def insn_Encode.c0 : Code := sub insn_Encode.body [1, 1, 1, 0, 1, 0, 0]
def insn_Encode.K0 (R : Value → World → Prop) : Ex → St → World → Prop := (blockK 0 (thenK (fun st w => code Try.prog insn_Encode.live 0 (sub insn_Encode.body [1, 1, 1, 1]) (retK Try.prog Try.f10 R) st w) (retK Try.prog Try.f10 R)))
def insn_Encode.L0 (R : Value → World → Prop) (outA : Option Addr) (outn : Nat) (outc : Nat) (t14A : Option Addr) (t14n : Nat) (t14c : Nat) (t15 : Int) (t16 : Int) (w : World) : Prop :=
  loopVC (fun K => code Try.prog insn_Encode.live 0 insn_Encode.c0 K) (insn_Encode.live 0) (insn_Encode.K0 R) [undef, undef, undef, undef, (.slice outA outn outc), undef, undef, undef, undef, undef, undef, undef, undef, undef, (.slice t14A t14n t14c), (.int .i64 t15), (.int .i64 t16), undef, undef, undef, undef, undef, undef, undef, undef, undef, undef, undef, undef, undef, undef, undef, undef, undef, undef, undef, undef, undef, undef, undef, undef] w
@[reducible] def insn_Encode.B0 (R : Value → World → Prop) (outA : Option Addr) (outn : Nat) (outc : Nat) (t14A : Option Addr) (t14n : Nat) (t14c : Nat) (t15 : Int) (t16 : Int) (w : World) : Prop :=
  ifP (decide ((t16 : Int) < t15))
    (0 ≤ (t16 : Int) ∧ (t16 : Int) < ((t14n : Nat) : Int) ∧ ∃ t18p : Addr, t14A = some t18p ∧ ∃ t19_0 : Int, w.cell? (t18p.add (Int.toNat t16 * 4)) = some (.int .u16 t19_0) ∧ ∃ t19_1 : Int, w.cell? ((t18p.add (Int.toNat t16 * 4)).add 1) = some (.int .u8 t19_1) ∧ ∃ t19_2 : Int, w.cell? ((t18p.add (Int.toNat t16 * 4)).add 2) = some (.int .u8 t19_2) ∧ ∃ t19_3 : Int, w.cell? ((t18p.add (Int.toNat t16 * 4)).add 3) = some (.int .u32 t19_3) ∧ letW (w.alloc (.cells #[(.int .u16 0), (.int .u8 0), (.int .u8 0), (.int .u32 0)] 48)) fun w_2 => storeRow (newA w) 0 [(.int .u16 t19_0), (.int .u8 t19_1), (.int .u8 t19_2), (.int .u32 t19_3)] w_2 fun w_3 => ∃ t22 : Int, w_3.cell? (newA w) = some (.int .u16 t22) ∧ ∃ t26 : Int, w_3.cell? ((newA w).add 1) = some (.int .u8 t26) ∧ ∃ t30 : Int, w_3.cell? ((newA w).add 2) = some (.int .u8 t30) ∧ ∃ t34 : Int, w_3.cell? ((newA w).add 3) = some (.int .u32 t34) ∧ letW (w_3.alloc (.cells #[(.int .u32 (IntKind.u32.wrap t22)), (.int .i64 2), (.int .u32 (IntKind.u32.wrap t26)), (.int .i64 1), (.int .u32 (IntKind.u32.wrap t30)), (.int .i64 1), (.int .u32 t34), (.int .i64 4)] 51)) fun w_4 => Run Try.prog 31 #[(.slice (some (newA w_3)) 4 4)] w_4 fun v w_5 => ∃ (t37A : Option Addr) (t37n t37c : Nat), v = (.slice t37A t37n t37c) ∧ ∃ (v_2 : Value) (w_6 : World), (Builtin.append_ #[23, 23] 23 #[(.slice outA outn outc), (.slice t37A t37n t37c)]).run Try.prog w_5 = .ok v_2 w_6 ∧ ∃ (t38A : Option Addr) (t38n t38c : Nat), v_2 = (.slice t38A t38n t38c) ∧ insn_Encode.L0 R t38A t38n t38c t14A t14n t14c t15 (IntKind.i64.wrap (t16 + 1)) w_6)
    (R (.tuple #[(.slice outA outn outc), (.int .i64 0)]) w)

@[reducible] def insn_Encode.vc (R : Value → World → Prop) (pA : Option Addr) (pn : Nat) (pc : Nat) (w : World) : Prop :=
  ifP (decide ((((pn : Nat) : Int) : Int) > 4096))
    (R (.tuple #[(.slice none 0 0), (.int .i64 21)]) w)
    (∃ (v : Value) (w_2 : World), (Instr.makeSlice 23 (.int .i64 0) (.int .i64 (IntKind.i64.wrap (8 * ((pn : Nat) : Int))))).run Try.prog w = .ok v w_2 ∧ ∃ (t13A : Option Addr) (t13n t13c : Nat), v = (.slice t13A t13n t13c) ∧ insn_Encode.L0 R t13A t13n t13c pA pn pc ((pn : Nat) : Int) 0 w_2)

theorem insn_Encode.B0_eq (R : Value → World → Prop) (outA : Option Addr) (outn : Nat) (outc : Nat) (t14A : Option Addr) (t14n : Nat) (t14c : Nat) (t15 : Int) (t16 : Int) (w : World) (ts : Nat → Value) :
    code Try.prog insn_Encode.live 0 insn_Encode.c0 (thenK (fun st w => loopVC (fun K => code Try.prog insn_Encode.live 0 insn_Encode.c0 K) (insn_Encode.live 0) (insn_Encode.K0 R) (clearFrom (insn_Encode.live 0) 0 st) w) (insn_Encode.K0 R)) (mergeFrom (insn_Encode.live 0) ts 0 (clearFrom (insn_Encode.live 0) 0 [undef, undef, undef, undef, (.slice outA outn outc), undef, undef, undef, undef, undef, undef, undef, undef, undef, (.slice t14A t14n t14c), (.int .i64 t15), (.int .i64 t16), undef, undef, undef, undef, undef, undef, undef, undef, undef, undef, undef, undef, undef, undef, undef, undef, undef, undef, undef, undef, undef, undef, undef, undef])) w = insn_Encode.B0 R outA outn outc t14A t14n t14c t15 t16 w := by kernel_rfl
theorem insn_Encode.L0_step {R : Value → World → Prop} {outA : Option Addr} {outn : Nat} {outc : Nat} {t14A : Option Addr} {t14n : Nat} {t14c : Nat} {t15 : Int} {t16 : Int} {w : World} (h : insn_Encode.B0 R outA outn outc t14A t14n t14c t15 t16 w) : insn_Encode.L0 R outA outn outc t14A t14n t14c t15 t16 w :=
  loop_step (live := insn_Encode.live) (b := 0) (x := insn_Encode.c0) fun ts => Eq.mpr (insn_Encode.B0_eq R outA outn outc t14A t14n t14c t15 t16 w ts) h
theorem insn_Encode.eq (R : Value → World → Prop) (pA : Option Addr) (pn : Nat) (pc : Nat) (w : World) : fnVC Try.prog insn_Encode.live Try.f10 R [(.slice pA pn pc)] w = insn_Encode.vc R pA pn pc w := by kernel_rfl
theorem insn_Encode.ok {R : Value → World → Prop} {pA : Option Addr} {pn : Nat} {pc : Nat} {w : World} (h : insn_Encode.vc R pA pn pc w) : Run Try.prog 10 #[(.slice pA pn pc)] w R :=
  fn_sound (args := [(.slice pA pn pc)]) Try.mixed Try.func10 (by kernel_rfl) (Eq.mpr (insn_Encode.eq R pA pn pc w) h)

/-! ### riddle/riddlelaw0.SameInsns: function 21 -/
noncomputable def law0_SameInsns.body : Code := bodyOf Try.f21
def law0_SameInsns.live : Nat → List Nat
  | 0 => [0, 1, 5]
  | _ => []
noncomputable def law0_SameInsns.c0 : Code := sub law0_SameInsns.body [1, 1, 0, 1, 0, 0]
def law0_SameInsns.K0 (R : Value → World → Prop) : Ex → St → World → Prop := (blockK 0 (thenK (fun st w => code Try.prog law0_SameInsns.live 0 (sub law0_SameInsns.body [1, 1, 1]) (retK Try.prog Try.f21 R) st w) (retK Try.prog Try.f21 R)))
def law0_SameInsns.L0 (R : Value → World → Prop) (aA : Option Addr) (an : Nat) (ac : Nat) (bA : Option Addr) (bn : Nat) (bc : Nat) (i : Int) (w : World) : Prop :=
  loopVC (fun K => code Try.prog law0_SameInsns.live 0 law0_SameInsns.c0 K) (law0_SameInsns.live 0) (law0_SameInsns.K0 R) [(.slice aA an ac), (.slice bA bn bc), undef, undef, undef, (.int .i64 i), undef, undef, undef, undef, undef, undef, undef, undef, undef, undef, undef, undef, undef, undef, undef, undef, undef, undef, undef, undef] w
@[reducible] def law0_SameInsns.B0 (R : Value → World → Prop) (aA : Option Addr) (an : Nat) (ac : Nat) (bA : Option Addr) (bn : Nat) (bc : Nat) (i : Int) (w : World) : Prop :=
  ifP (decide ((i : Int) < ((an : Nat) : Int)))
    (∃ S_ : World → Prop, S_ w.drew ∧ letW w.drew fun w_2 => 0 ≤ (i : Int) ∧ (i : Int) < ((an : Nat) : Int) ∧ ∃ t19p : Addr, aA = some t19p ∧ ∃ t20_0 : Int, (∀ u : World, S_ u → u.cell? (t19p.add (Int.toNat i * 4)) = some (.int .u16 t20_0)) ∧ ∃ t20_1 : Int, (∀ u_2 : World, S_ u_2 → u_2.cell? ((t19p.add (Int.toNat i * 4)).add 1) = some (.int .u8 t20_1)) ∧ ∃ t20_2 : Int, (∀ u_3 : World, S_ u_3 → u_3.cell? ((t19p.add (Int.toNat i * 4)).add 2) = some (.int .u8 t20_2)) ∧ ∃ t20_3 : Int, (∀ u_4 : World, S_ u_4 → u_4.cell? ((t19p.add (Int.toNat i * 4)).add 3) = some (.int .u32 t20_3)) ∧ 0 ≤ (i : Int) ∧ (i : Int) < ((bn : Nat) : Int) ∧ ∃ t23p : Addr, bA = some t23p ∧ ∃ t24_0 : Int, (∀ u_5 : World, S_ u_5 → u_5.cell? (t23p.add (Int.toNat i * 4)) = some (.int .u16 t24_0)) ∧ ∃ t24_1 : Int, (∀ u_6 : World, S_ u_6 → u_6.cell? ((t23p.add (Int.toNat i * 4)).add 1) = some (.int .u8 t24_1)) ∧ ∃ t24_2 : Int, (∀ u_7 : World, S_ u_7 → u_7.cell? ((t23p.add (Int.toNat i * 4)).add 2) = some (.int .u8 t24_2)) ∧ ∃ t24_3 : Int, (∀ u_8 : World, S_ u_8 → u_8.cell? ((t23p.add (Int.toNat i * 4)).add 3) = some (.int .u32 t24_3)) ∧ ∃ (v : Value) (w_3 : World), (eqSem .neq 48 (.tmp 20) (.tmp 24) (.agg #[(.int .u16 t20_0), (.int .u8 t20_1), (.int .u8 t20_2), (.int .u32 t20_3)]) (.agg #[(.int .u16 t24_0), (.int .u8 t24_1), (.int .u8 t24_2), (.int .u32 t24_3)])).run Try.prog w_2 = .ok v w_3 ∧ ∃ t25 : Bool, v = (.bool t25) ∧ S_ w_3 ∧ ifP t25
    (R (.bool false) w_3)
    (law0_SameInsns.L0 R aA an ac bA bn bc (IntKind.i64.wrap (i + 1)) w_3))
    (R (.bool true) w)

@[reducible] def law0_SameInsns.vc (R : Value → World → Prop) (aA : Option Addr) (an : Nat) (ac : Nat) (bA : Option Addr) (bn : Nat) (bc : Nat) (w : World) : Prop :=
  ifP ((((an : Nat) : Int) : Int) != ((bn : Nat) : Int))
    (R (.bool false) w)
    (law0_SameInsns.L0 R aA an ac bA bn bc 0 w)

theorem law0_SameInsns.B0_eq (R : Value → World → Prop) (aA : Option Addr) (an : Nat) (ac : Nat) (bA : Option Addr) (bn : Nat) (bc : Nat) (i : Int) (w : World) (ts : Nat → Value) :
    code Try.prog law0_SameInsns.live 0 law0_SameInsns.c0 (thenK (fun st w => loopVC (fun K => code Try.prog law0_SameInsns.live 0 law0_SameInsns.c0 K) (law0_SameInsns.live 0) (law0_SameInsns.K0 R) (clearFrom (law0_SameInsns.live 0) 0 st) w) (law0_SameInsns.K0 R)) (mergeFrom (law0_SameInsns.live 0) ts 0 (clearFrom (law0_SameInsns.live 0) 0 [(.slice aA an ac), (.slice bA bn bc), undef, undef, undef, (.int .i64 i), undef, undef, undef, undef, undef, undef, undef, undef, undef, undef, undef, undef, undef, undef, undef, undef, undef, undef, undef, undef])) w = law0_SameInsns.B0 R aA an ac bA bn bc i w := by kernel_rfl
theorem law0_SameInsns.L0_step {R : Value → World → Prop} {aA : Option Addr} {an : Nat} {ac : Nat} {bA : Option Addr} {bn : Nat} {bc : Nat} {i : Int} {w : World} (h : law0_SameInsns.B0 R aA an ac bA bn bc i w) : law0_SameInsns.L0 R aA an ac bA bn bc i w :=
  loop_step (live := law0_SameInsns.live) (b := 0) (x := law0_SameInsns.c0) fun ts => Eq.mpr (law0_SameInsns.B0_eq R aA an ac bA bn bc i w ts) h
theorem law0_SameInsns.eq (R : Value → World → Prop) (aA : Option Addr) (an : Nat) (ac : Nat) (bA : Option Addr) (bn : Nat) (bc : Nat) (w : World) : fnVC Try.prog law0_SameInsns.live Try.f21 R [(.slice aA an ac), (.slice bA bn bc)] w = law0_SameInsns.vc R aA an ac bA bn bc w := by kernel_rfl
theorem law0_SameInsns.ok {R : Value → World → Prop} {aA : Option Addr} {an : Nat} {ac : Nat} {bA : Option Addr} {bn : Nat} {bc : Nat} {w : World} (h : law0_SameInsns.vc R aA an ac bA bn bc w) : Run Try.prog 21 #[(.slice aA an ac), (.slice bA bn bc)] w R :=
  fn_sound (args := [(.slice aA an ac), (.slice bA bn bc)]) Try.mixed Try.func21 (by kernel_rfl) (Eq.mpr (law0_SameInsns.eq R aA an ac bA bn bc w) h)

/-! ### riddle/riddlelaw0.SpoilInsns: function 22 -/
noncomputable def law0_SpoilInsns.body : Code := bodyOf Try.f22
def law0_SpoilInsns.live : Nat → List Nat
  | 0 => [0, 2, 3]
  | 2 => [0, 4]
  | _ => []
noncomputable def law0_SpoilInsns.c0 : Code := sub law0_SpoilInsns.body [1, 0, 1, 0, 0]
noncomputable def law0_SpoilInsns.c2 : Code := sub law0_SpoilInsns.body [1, 1, 1, 0, 0]
def law0_SpoilInsns.K0 (R : Value → World → Prop) : Ex → St → World → Prop := (blockK 0 (thenK (fun st w => code Try.prog law0_SpoilInsns.live 0 (sub law0_SpoilInsns.body [1, 1]) (retK Try.prog Try.f22 R) st w) (retK Try.prog Try.f22 R)))
def law0_SpoilInsns.L0 (R : Value → World → Prop) (aA : Option Addr) (an : Nat) (ac : Nat) (fullA : Option Addr) (fulln : Nat) (fullc : Nat) (i : Int) (w : World) : Prop :=
  loopVC (fun K => code Try.prog law0_SpoilInsns.live 0 law0_SpoilInsns.c0 K) (law0_SpoilInsns.live 0) (law0_SpoilInsns.K0 R) [(.slice aA an ac), undef, (.slice fullA fulln fullc), (.int .i64 i), undef, undef, undef, undef, undef, undef, undef, undef, undef, undef, undef, undef, undef, undef, undef, undef, undef, undef, undef, undef, undef, undef, undef, undef, undef] w
def law0_SpoilInsns.K2 (R : Value → World → Prop) : Ex → St → World → Prop := (blockK 2 (retK Try.prog Try.f22 R))
def law0_SpoilInsns.L2 (R : Value → World → Prop) (aA : Option Addr) (an : Nat) (ac : Nat) (i : Int) (w : World) : Prop :=
  loopVC (fun K => code Try.prog law0_SpoilInsns.live 2 law0_SpoilInsns.c2 K) (law0_SpoilInsns.live 2) (law0_SpoilInsns.K2 R) [(.slice aA an ac), undef, undef, undef, (.int .i64 i), undef, undef, undef, undef, undef, undef, undef, undef, undef, undef, undef, undef, undef, undef, undef, undef, undef, undef, undef, undef, undef, undef, undef, undef] w
@[reducible] def law0_SpoilInsns.B2 (R : Value → World → Prop) (aA : Option Addr) (an : Nat) (ac : Nat) (i : Int) (w : World) : Prop :=
  ifP (decide ((i : Int) < ((an : Nat) : Int)))
    (0 ≤ (i : Int) ∧ (i : Int) < ((an : Nat) : Int) ∧ ∃ t28p : Addr, aA = some t28p ∧ storeRow (t28p.add (Int.toNat i * 4)) 0 [(.int .u16 7), (.int .u8 0), (.int .u8 0), (.int .u32 77)] w fun w_2 => law0_SpoilInsns.L2 R aA an ac (IntKind.i64.wrap (i + 1)) w_2)
    (R (.tuple #[]) w)

@[reducible] def law0_SpoilInsns.B0 (R : Value → World → Prop) (aA : Option Addr) (an : Nat) (ac : Nat) (fullA : Option Addr) (fulln : Nat) (fullc : Nat) (i : Int) (w : World) : Prop :=
  ifP (decide ((i : Int) < ((fulln : Nat) : Int)))
    (0 ≤ (i : Int) ∧ (i : Int) < ((fulln : Nat) : Int) ∧ ∃ t18p : Addr, fullA = some t18p ∧ storeRow (t18p.add (Int.toNat i * 4)) 0 [(.int .u16 7), (.int .u8 0), (.int .u8 0), (.int .u32 77)] w fun w_2 => law0_SpoilInsns.L0 R aA an ac fullA fulln fullc (IntKind.i64.wrap (i + 1)) w_2)
    (law0_SpoilInsns.L2 R aA an ac 0 w)

@[reducible] def law0_SpoilInsns.vc (R : Value → World → Prop) (aA : Option Addr) (an : Nat) (ac : Nat) (w : World) : Prop :=
  letW (w.alloc (.cells #[(.int .u16 7), (.int .u8 0), (.int .u8 0), (.int .u32 77)] 48)) fun w_2 => ∃ (v : Value) (w_3 : World), (Builtin.append_ #[22, 22] 22 #[(.slice aA an ac), (.slice (some (newA w)) 1 1)]).run Try.prog w_2 = .ok v w_3 ∧ ∃ (t8A : Option Addr) (t8n t8c : Nat), v = (.slice t8A t8n t8c) ∧ law0_SpoilInsns.L0 R aA an ac t8A t8n t8c 0 w_3

theorem law0_SpoilInsns.B0_eq (R : Value → World → Prop) (aA : Option Addr) (an : Nat) (ac : Nat) (fullA : Option Addr) (fulln : Nat) (fullc : Nat) (i : Int) (w : World) (ts : Nat → Value) :
    code Try.prog law0_SpoilInsns.live 0 law0_SpoilInsns.c0 (thenK (fun st w => loopVC (fun K => code Try.prog law0_SpoilInsns.live 0 law0_SpoilInsns.c0 K) (law0_SpoilInsns.live 0) (law0_SpoilInsns.K0 R) (clearFrom (law0_SpoilInsns.live 0) 0 st) w) (law0_SpoilInsns.K0 R)) (mergeFrom (law0_SpoilInsns.live 0) ts 0 (clearFrom (law0_SpoilInsns.live 0) 0 [(.slice aA an ac), undef, (.slice fullA fulln fullc), (.int .i64 i), undef, undef, undef, undef, undef, undef, undef, undef, undef, undef, undef, undef, undef, undef, undef, undef, undef, undef, undef, undef, undef, undef, undef, undef, undef])) w = law0_SpoilInsns.B0 R aA an ac fullA fulln fullc i w := by kernel_rfl
theorem law0_SpoilInsns.L0_step {R : Value → World → Prop} {aA : Option Addr} {an : Nat} {ac : Nat} {fullA : Option Addr} {fulln : Nat} {fullc : Nat} {i : Int} {w : World} (h : law0_SpoilInsns.B0 R aA an ac fullA fulln fullc i w) : law0_SpoilInsns.L0 R aA an ac fullA fulln fullc i w :=
  loop_step (live := law0_SpoilInsns.live) (b := 0) (x := law0_SpoilInsns.c0) fun ts => Eq.mpr (law0_SpoilInsns.B0_eq R aA an ac fullA fulln fullc i w ts) h
theorem law0_SpoilInsns.B2_eq (R : Value → World → Prop) (aA : Option Addr) (an : Nat) (ac : Nat) (i : Int) (w : World) (ts : Nat → Value) :
    code Try.prog law0_SpoilInsns.live 2 law0_SpoilInsns.c2 (thenK (fun st w => loopVC (fun K => code Try.prog law0_SpoilInsns.live 2 law0_SpoilInsns.c2 K) (law0_SpoilInsns.live 2) (law0_SpoilInsns.K2 R) (clearFrom (law0_SpoilInsns.live 2) 0 st) w) (law0_SpoilInsns.K2 R)) (mergeFrom (law0_SpoilInsns.live 2) ts 0 (clearFrom (law0_SpoilInsns.live 2) 0 [(.slice aA an ac), undef, undef, undef, (.int .i64 i), undef, undef, undef, undef, undef, undef, undef, undef, undef, undef, undef, undef, undef, undef, undef, undef, undef, undef, undef, undef, undef, undef, undef, undef])) w = law0_SpoilInsns.B2 R aA an ac i w := by kernel_rfl
theorem law0_SpoilInsns.L2_step {R : Value → World → Prop} {aA : Option Addr} {an : Nat} {ac : Nat} {i : Int} {w : World} (h : law0_SpoilInsns.B2 R aA an ac i w) : law0_SpoilInsns.L2 R aA an ac i w :=
  loop_step (live := law0_SpoilInsns.live) (b := 2) (x := law0_SpoilInsns.c2) fun ts => Eq.mpr (law0_SpoilInsns.B2_eq R aA an ac i w ts) h
theorem law0_SpoilInsns.eq (R : Value → World → Prop) (aA : Option Addr) (an : Nat) (ac : Nat) (w : World) : fnVC Try.prog law0_SpoilInsns.live Try.f22 R [(.slice aA an ac)] w = law0_SpoilInsns.vc R aA an ac w := by kernel_rfl
theorem law0_SpoilInsns.ok {R : Value → World → Prop} {aA : Option Addr} {an : Nat} {ac : Nat} {w : World} (h : law0_SpoilInsns.vc R aA an ac w) : Run Try.prog 22 #[(.slice aA an ac)] w R :=
  fn_sound (args := [(.slice aA an ac)]) Try.mixed Try.func22 (by kernel_rfl) (Eq.mpr (law0_SpoilInsns.eq R aA an ac w) h)

/-! ### riddle/riddlelaw0.KeptInsns: function 11 -/
noncomputable def law0_KeptInsns.body : Code := bodyOf Try.f11
def law0_KeptInsns.live : Nat → List Nat
  | _ => []
def law0_KeptInsns.J0 (R : Value → World → Prop) (fullA : Option Addr) (fulln : Nat) (fullc : Nat) (ok_ : Bool) (w : World) : Prop :=
  Run Try.prog 22 #[(.slice fullA fulln fullc)] w fun v w_2 => v = (.tuple #[]) ∧ R (.bool ok_) w_2

@[reducible] def law0_KeptInsns.vc (R : Value → World → Prop) (lentA : Option Addr) (lentn : Nat) (lentc : Nat) (aA : Option Addr) (an : Nat) (ac : Nat) (w : World) : Prop :=
  (0 : Int) ≤ 0 ∧ (0 : Int) ≤ IntKind.i64.wrap (((lentn : Nat) : Int) + 3) ∧ (IntKind.i64.wrap (((lentn : Nat) : Int) + 3) : Int) ≤ ((lentc : Nat) : Int) ∧ Run Try.prog 21 #[(.slice lentA lentn lentc), (.slice aA an ac)] w fun v w_2 => ∃ t14 : Bool, v = (.bool t14) ∧ ifP t14 ((0 : Int) ≤ ((an : Nat) : Int) ∧ (((an : Nat) : Int) : Int) ≤ (((Int.toNat (IntKind.i64.wrap (((lentn : Nat) : Int) + 3))) - 0 : Nat) : Int) ∧ ((((Int.toNat (IntKind.i64.wrap (((lentn : Nat) : Int) + 3))) - 0 : Nat) : Int) : Int) ≤ ((lentc - 0 : Nat) : Int) ∧ letW (w_2.alloc (.cells #[(.int .u16 7), (.int .u8 0), (.int .u8 0), (.int .u32 77), (.int .u16 7), (.int .u8 0), (.int .u8 0), (.int .u32 77), (.int .u16 7), (.int .u8 0), (.int .u8 0), (.int .u32 77)] 48)) fun w_3 => Run Try.prog 21 #[(.slice (subA (subA lentA lentc 0 4) (lentc - 0) (Int.toNat ((an : Nat) : Int)) 4) (((Int.toNat (IntKind.i64.wrap (((lentn : Nat) : Int) + 3))) - 0) - (Int.toNat ((an : Nat) : Int))) ((lentc - 0) - (Int.toNat ((an : Nat) : Int)))), (.slice (some (newA w_2)) 3 3)] w_3 fun v_2 w_4 => ∃ t24 : Bool, v_2 = (.bool t24) ∧ law0_KeptInsns.J0 R (subA lentA lentc 0 4) ((Int.toNat (IntKind.i64.wrap (((lentn : Nat) : Int) + 3))) - 0) (lentc - 0) t24 w_4) (law0_KeptInsns.J0 R (subA lentA lentc 0 4) ((Int.toNat (IntKind.i64.wrap (((lentn : Nat) : Int) + 3))) - 0) (lentc - 0) false w_2)

theorem law0_KeptInsns.eq (R : Value → World → Prop) (lentA : Option Addr) (lentn : Nat) (lentc : Nat) (aA : Option Addr) (an : Nat) (ac : Nat) (w : World) : fnVC Try.prog law0_KeptInsns.live Try.f11 R [(.slice lentA lentn lentc), (.slice aA an ac)] w = law0_KeptInsns.vc R lentA lentn lentc aA an ac w := by kernel_rfl
theorem law0_KeptInsns.ok {R : Value → World → Prop} {lentA : Option Addr} {lentn : Nat} {lentc : Nat} {aA : Option Addr} {an : Nat} {ac : Nat} {w : World} (h : law0_KeptInsns.vc R lentA lentn lentc aA an ac w) : Run Try.prog 11 #[(.slice lentA lentn lentc), (.slice aA an ac)] w R :=
  fn_sound (args := [(.slice lentA lentn lentc), (.slice aA an ac)]) Try.mixed Try.func11 (by kernel_rfl) (Eq.mpr (law0_KeptInsns.eq R lentA lentn lentc aA an ac w) h)

/-! ### riddle/riddlelaw0.SameBytes: function 13 -/
noncomputable def law0_SameBytes.body : Code := bodyOf Try.f13
def law0_SameBytes.live : Nat → List Nat
  | 0 => [0, 1, 5]
  | _ => []
noncomputable def law0_SameBytes.c0 : Code := sub law0_SameBytes.body [1, 1, 0, 1, 0, 0]
def law0_SameBytes.K0 (R : Value → World → Prop) : Ex → St → World → Prop := (blockK 0 (thenK (fun st w => code Try.prog law0_SameBytes.live 0 (sub law0_SameBytes.body [1, 1, 1]) (retK Try.prog Try.f13 R) st w) (retK Try.prog Try.f13 R)))
def law0_SameBytes.L0 (R : Value → World → Prop) (aA : Option Addr) (an : Nat) (ac : Nat) (bA : Option Addr) (bn : Nat) (bc : Nat) (i : Int) (w : World) : Prop :=
  loopVC (fun K => code Try.prog law0_SameBytes.live 0 law0_SameBytes.c0 K) (law0_SameBytes.live 0) (law0_SameBytes.K0 R) [(.slice aA an ac), (.slice bA bn bc), undef, undef, undef, (.int .i64 i), undef, undef, undef, undef, undef, undef, undef, undef, undef, undef, undef, undef, undef, undef, undef, undef, undef, undef, undef, undef] w
@[reducible] def law0_SameBytes.B0 (R : Value → World → Prop) (aA : Option Addr) (an : Nat) (ac : Nat) (bA : Option Addr) (bn : Nat) (bc : Nat) (i : Int) (w : World) : Prop :=
  ifP (decide ((i : Int) < ((an : Nat) : Int)))
    (letW w.drew fun w_2 => 0 ≤ (i : Int) ∧ (i : Int) < ((an : Nat) : Int) ∧ ∃ t19p : Addr, aA = some t19p ∧ ∃ t20 : Int, w_2.cell? (t19p.add (Int.toNat i * 1)) = some (.int .u8 t20) ∧ 0 ≤ (i : Int) ∧ (i : Int) < ((bn : Nat) : Int) ∧ ∃ t23p : Addr, bA = some t23p ∧ ∃ t24 : Int, w_2.cell? (t23p.add (Int.toNat i * 1)) = some (.int .u8 t24) ∧ ifP ((t20 : Int) != t24)
    (R (.bool false) w_2)
    (law0_SameBytes.L0 R aA an ac bA bn bc (IntKind.i64.wrap (i + 1)) w_2))
    (R (.bool true) w)

@[reducible] def law0_SameBytes.vc (R : Value → World → Prop) (aA : Option Addr) (an : Nat) (ac : Nat) (bA : Option Addr) (bn : Nat) (bc : Nat) (w : World) : Prop :=
  ifP ((((an : Nat) : Int) : Int) != ((bn : Nat) : Int))
    (R (.bool false) w)
    (law0_SameBytes.L0 R aA an ac bA bn bc 0 w)

theorem law0_SameBytes.B0_eq (R : Value → World → Prop) (aA : Option Addr) (an : Nat) (ac : Nat) (bA : Option Addr) (bn : Nat) (bc : Nat) (i : Int) (w : World) (ts : Nat → Value) :
    code Try.prog law0_SameBytes.live 0 law0_SameBytes.c0 (thenK (fun st w => loopVC (fun K => code Try.prog law0_SameBytes.live 0 law0_SameBytes.c0 K) (law0_SameBytes.live 0) (law0_SameBytes.K0 R) (clearFrom (law0_SameBytes.live 0) 0 st) w) (law0_SameBytes.K0 R)) (mergeFrom (law0_SameBytes.live 0) ts 0 (clearFrom (law0_SameBytes.live 0) 0 [(.slice aA an ac), (.slice bA bn bc), undef, undef, undef, (.int .i64 i), undef, undef, undef, undef, undef, undef, undef, undef, undef, undef, undef, undef, undef, undef, undef, undef, undef, undef, undef, undef])) w = law0_SameBytes.B0 R aA an ac bA bn bc i w := by kernel_rfl
theorem law0_SameBytes.L0_step {R : Value → World → Prop} {aA : Option Addr} {an : Nat} {ac : Nat} {bA : Option Addr} {bn : Nat} {bc : Nat} {i : Int} {w : World} (h : law0_SameBytes.B0 R aA an ac bA bn bc i w) : law0_SameBytes.L0 R aA an ac bA bn bc i w :=
  loop_step (live := law0_SameBytes.live) (b := 0) (x := law0_SameBytes.c0) fun ts => Eq.mpr (law0_SameBytes.B0_eq R aA an ac bA bn bc i w ts) h
theorem law0_SameBytes.eq (R : Value → World → Prop) (aA : Option Addr) (an : Nat) (ac : Nat) (bA : Option Addr) (bn : Nat) (bc : Nat) (w : World) : fnVC Try.prog law0_SameBytes.live Try.f13 R [(.slice aA an ac), (.slice bA bn bc)] w = law0_SameBytes.vc R aA an ac bA bn bc w := by kernel_rfl
theorem law0_SameBytes.ok {R : Value → World → Prop} {aA : Option Addr} {an : Nat} {ac : Nat} {bA : Option Addr} {bn : Nat} {bc : Nat} {w : World} (h : law0_SameBytes.vc R aA an ac bA bn bc w) : Run Try.prog 13 #[(.slice aA an ac), (.slice bA bn bc)] w R :=
  fn_sound (args := [(.slice aA an ac), (.slice bA bn bc)]) Try.mixed Try.func13 (by kernel_rfl) (Eq.mpr (law0_SameBytes.eq R aA an ac bA bn bc w) h)

/-! ### riddle/riddlelaw0.SpoilBytes: function 14 -/
noncomputable def law0_SpoilBytes.body : Code := bodyOf Try.f14
def law0_SpoilBytes.live : Nat → List Nat
  | 0 => [0, 2, 3]
  | 2 => [0, 4]
  | _ => []
noncomputable def law0_SpoilBytes.c0 : Code := sub law0_SpoilBytes.body [1, 0, 1, 0, 0]
noncomputable def law0_SpoilBytes.c2 : Code := sub law0_SpoilBytes.body [1, 1, 1, 0, 0]
def law0_SpoilBytes.K0 (R : Value → World → Prop) : Ex → St → World → Prop := (blockK 0 (thenK (fun st w => code Try.prog law0_SpoilBytes.live 0 (sub law0_SpoilBytes.body [1, 1]) (retK Try.prog Try.f14 R) st w) (retK Try.prog Try.f14 R)))
def law0_SpoilBytes.L0 (R : Value → World → Prop) (aA : Option Addr) (an : Nat) (ac : Nat) (fullA : Option Addr) (fulln : Nat) (fullc : Nat) (i : Int) (w : World) : Prop :=
  loopVC (fun K => code Try.prog law0_SpoilBytes.live 0 law0_SpoilBytes.c0 K) (law0_SpoilBytes.live 0) (law0_SpoilBytes.K0 R) [(.slice aA an ac), undef, (.slice fullA fulln fullc), (.int .i64 i), undef, undef, undef, undef, undef, undef, undef, undef, undef, undef, undef, undef, undef, undef, undef, undef, undef, undef, undef, undef, undef, undef] w
def law0_SpoilBytes.K2 (R : Value → World → Prop) : Ex → St → World → Prop := (blockK 2 (retK Try.prog Try.f14 R))
def law0_SpoilBytes.L2 (R : Value → World → Prop) (aA : Option Addr) (an : Nat) (ac : Nat) (i : Int) (w : World) : Prop :=
  loopVC (fun K => code Try.prog law0_SpoilBytes.live 2 law0_SpoilBytes.c2 K) (law0_SpoilBytes.live 2) (law0_SpoilBytes.K2 R) [(.slice aA an ac), undef, undef, undef, (.int .i64 i), undef, undef, undef, undef, undef, undef, undef, undef, undef, undef, undef, undef, undef, undef, undef, undef, undef, undef, undef, undef, undef] w
@[reducible] def law0_SpoilBytes.B2 (R : Value → World → Prop) (aA : Option Addr) (an : Nat) (ac : Nat) (i : Int) (w : World) : Prop :=
  ifP (decide ((i : Int) < ((an : Nat) : Int)))
    (0 ≤ (i : Int) ∧ (i : Int) < ((an : Nat) : Int) ∧ ∃ t25p : Addr, aA = some t25p ∧ (∃ u : Value, w.cell? (t25p.add (Int.toNat i * 1)) = some u) ∧ w.frozen? (t25p.add (Int.toNat i * 1)) = false ∧ letW (w.setCell (t25p.add (Int.toNat i * 1)) (.int .u8 201)) fun w_2 => law0_SpoilBytes.L2 R aA an ac (IntKind.i64.wrap (i + 1)) w_2)
    (R (.tuple #[]) w)

@[reducible] def law0_SpoilBytes.B0 (R : Value → World → Prop) (aA : Option Addr) (an : Nat) (ac : Nat) (fullA : Option Addr) (fulln : Nat) (fullc : Nat) (i : Int) (w : World) : Prop :=
  ifP (decide ((i : Int) < ((fulln : Nat) : Int)))
    (0 ≤ (i : Int) ∧ (i : Int) < ((fulln : Nat) : Int) ∧ ∃ t16p : Addr, fullA = some t16p ∧ (∃ u : Value, w.cell? (t16p.add (Int.toNat i * 1)) = some u) ∧ w.frozen? (t16p.add (Int.toNat i * 1)) = false ∧ letW (w.setCell (t16p.add (Int.toNat i * 1)) (.int .u8 201)) fun w_2 => law0_SpoilBytes.L0 R aA an ac fullA fulln fullc (IntKind.i64.wrap (i + 1)) w_2)
    (law0_SpoilBytes.L2 R aA an ac 0 w)

@[reducible] def law0_SpoilBytes.vc (R : Value → World → Prop) (aA : Option Addr) (an : Nat) (ac : Nat) (w : World) : Prop :=
  letW (w.alloc (.cells #[(.int .u8 201)] 5)) fun w_2 => ∃ (v : Value) (w_3 : World), (Builtin.append_ #[23, 23] 23 #[(.slice aA an ac), (.slice (some (newA w)) 1 1)]).run Try.prog w_2 = .ok v w_3 ∧ ∃ (t7A : Option Addr) (t7n t7c : Nat), v = (.slice t7A t7n t7c) ∧ law0_SpoilBytes.L0 R aA an ac t7A t7n t7c 0 w_3

theorem law0_SpoilBytes.B0_eq (R : Value → World → Prop) (aA : Option Addr) (an : Nat) (ac : Nat) (fullA : Option Addr) (fulln : Nat) (fullc : Nat) (i : Int) (w : World) (ts : Nat → Value) :
    code Try.prog law0_SpoilBytes.live 0 law0_SpoilBytes.c0 (thenK (fun st w => loopVC (fun K => code Try.prog law0_SpoilBytes.live 0 law0_SpoilBytes.c0 K) (law0_SpoilBytes.live 0) (law0_SpoilBytes.K0 R) (clearFrom (law0_SpoilBytes.live 0) 0 st) w) (law0_SpoilBytes.K0 R)) (mergeFrom (law0_SpoilBytes.live 0) ts 0 (clearFrom (law0_SpoilBytes.live 0) 0 [(.slice aA an ac), undef, (.slice fullA fulln fullc), (.int .i64 i), undef, undef, undef, undef, undef, undef, undef, undef, undef, undef, undef, undef, undef, undef, undef, undef, undef, undef, undef, undef, undef, undef])) w = law0_SpoilBytes.B0 R aA an ac fullA fulln fullc i w := by kernel_rfl
theorem law0_SpoilBytes.L0_step {R : Value → World → Prop} {aA : Option Addr} {an : Nat} {ac : Nat} {fullA : Option Addr} {fulln : Nat} {fullc : Nat} {i : Int} {w : World} (h : law0_SpoilBytes.B0 R aA an ac fullA fulln fullc i w) : law0_SpoilBytes.L0 R aA an ac fullA fulln fullc i w :=
  loop_step (live := law0_SpoilBytes.live) (b := 0) (x := law0_SpoilBytes.c0) fun ts => Eq.mpr (law0_SpoilBytes.B0_eq R aA an ac fullA fulln fullc i w ts) h
theorem law0_SpoilBytes.B2_eq (R : Value → World → Prop) (aA : Option Addr) (an : Nat) (ac : Nat) (i : Int) (w : World) (ts : Nat → Value) :
    code Try.prog law0_SpoilBytes.live 2 law0_SpoilBytes.c2 (thenK (fun st w => loopVC (fun K => code Try.prog law0_SpoilBytes.live 2 law0_SpoilBytes.c2 K) (law0_SpoilBytes.live 2) (law0_SpoilBytes.K2 R) (clearFrom (law0_SpoilBytes.live 2) 0 st) w) (law0_SpoilBytes.K2 R)) (mergeFrom (law0_SpoilBytes.live 2) ts 0 (clearFrom (law0_SpoilBytes.live 2) 0 [(.slice aA an ac), undef, undef, undef, (.int .i64 i), undef, undef, undef, undef, undef, undef, undef, undef, undef, undef, undef, undef, undef, undef, undef, undef, undef, undef, undef, undef, undef])) w = law0_SpoilBytes.B2 R aA an ac i w := by kernel_rfl
theorem law0_SpoilBytes.L2_step {R : Value → World → Prop} {aA : Option Addr} {an : Nat} {ac : Nat} {i : Int} {w : World} (h : law0_SpoilBytes.B2 R aA an ac i w) : law0_SpoilBytes.L2 R aA an ac i w :=
  loop_step (live := law0_SpoilBytes.live) (b := 2) (x := law0_SpoilBytes.c2) fun ts => Eq.mpr (law0_SpoilBytes.B2_eq R aA an ac i w ts) h
theorem law0_SpoilBytes.eq (R : Value → World → Prop) (aA : Option Addr) (an : Nat) (ac : Nat) (w : World) : fnVC Try.prog law0_SpoilBytes.live Try.f14 R [(.slice aA an ac)] w = law0_SpoilBytes.vc R aA an ac w := by kernel_rfl
theorem law0_SpoilBytes.ok {R : Value → World → Prop} {aA : Option Addr} {an : Nat} {ac : Nat} {w : World} (h : law0_SpoilBytes.vc R aA an ac w) : Run Try.prog 14 #[(.slice aA an ac)] w R :=
  fn_sound (args := [(.slice aA an ac)]) Try.mixed Try.func14 (by kernel_rfl) (Eq.mpr (law0_SpoilBytes.eq R aA an ac w) h)

/-! ### riddle/word.Get: function 33 -/
noncomputable def word_Get.body : Code := bodyOf Try.f33
def word_Get.live : Nat → List Nat
  | 0 => [8, 22, 23, 24]
  | _ => []
noncomputable def word_Get.c0 : Code := sub word_Get.body [1, 1, 1, 0, 1, 0, 0]
def word_Get.K0 (R : Value → World → Prop) : Ex → St → World → Prop := (blockK 0 (thenK (fun st w => code Try.prog word_Get.live 0 (sub word_Get.body [1, 1, 1, 1]) (retK Try.prog Try.f33 R) st w) (retK Try.prog Try.f33 R)))
def word_Get.L0 (R : Value → World → Prop) (v : Int) (t22A : Option Addr) (t22n : Nat) (t22c : Nat) (t23 : Int) (t24 : Int) (w : World) : Prop :=
  loopVC (fun K => code Try.prog word_Get.live 0 word_Get.c0 K) (word_Get.live 0) (word_Get.K0 R) [undef, undef, undef, undef, undef, undef, undef, undef, (.int .u32 v), undef, undef, undef, undef, undef, undef, undef, undef, undef, undef, undef, undef, undef, (.slice t22A t22n t22c), (.int .i64 t23), (.int .i64 t24), undef, undef, undef, undef, undef, undef, undef, undef, undef, undef] w
@[reducible] def word_Get.B0 (R : Value → World → Prop) (v : Int) (t22A : Option Addr) (t22n : Nat) (t22c : Nat) (t23 : Int) (t24 : Int) (w : World) : Prop :=
  ifP (decide ((t24 : Int) < t23))
    (0 ≤ (t24 : Int) ∧ (t24 : Int) < ((t22n : Nat) : Int) ∧ ∃ t26p : Addr, t22A = some t26p ∧ ∃ t27 : Int, w.cell? (t26p.add (Int.toNat t24 * 1)) = some (.int .u8 t27) ∧ word_Get.L0 R (orI .u32 (IntKind.u32.wrap (v * 2 ^ 8)) (IntKind.u32.wrap t27)) t22A t22n t22c t23 (IntKind.i64.wrap (t24 + 1)) w)
    (R (.tuple #[(.int .u32 v), (.bool true)]) w)

@[reducible] def word_Get.vc (R : Value → World → Prop) (bA : Option Addr) (bn : Nat) (bc : Nat) (at_ : Int) (size : Int) (w : World) : Prop :=
  Run Try.prog 45 #[(.int .i64 ((bn : Nat) : Int)), (.int .i64 at_), (.int .i64 size)] w fun v w_2 => ∃ t15 : Bool, v = (.bool t15) ∧ ifP (!t15)
    (R (.tuple #[(.int .u32 0), (.bool false)]) w_2)
    ((0 : Int) ≤ at_ ∧ (at_ : Int) ≤ IntKind.i64.wrap (at_ + size) ∧ (IntKind.i64.wrap (at_ + size) : Int) ≤ ((bc : Nat) : Int) ∧ word_Get.L0 R 0 (subA bA bc (Int.toNat at_) 1) ((Int.toNat (IntKind.i64.wrap (at_ + size))) - (Int.toNat at_)) (bc - (Int.toNat at_)) (((Int.toNat (IntKind.i64.wrap (at_ + size))) - (Int.toNat at_) : Nat) : Int) 0 w_2)

theorem word_Get.B0_eq (R : Value → World → Prop) (v : Int) (t22A : Option Addr) (t22n : Nat) (t22c : Nat) (t23 : Int) (t24 : Int) (w : World) (ts : Nat → Value) :
    code Try.prog word_Get.live 0 word_Get.c0 (thenK (fun st w => loopVC (fun K => code Try.prog word_Get.live 0 word_Get.c0 K) (word_Get.live 0) (word_Get.K0 R) (clearFrom (word_Get.live 0) 0 st) w) (word_Get.K0 R)) (mergeFrom (word_Get.live 0) ts 0 (clearFrom (word_Get.live 0) 0 [undef, undef, undef, undef, undef, undef, undef, undef, (.int .u32 v), undef, undef, undef, undef, undef, undef, undef, undef, undef, undef, undef, undef, undef, (.slice t22A t22n t22c), (.int .i64 t23), (.int .i64 t24), undef, undef, undef, undef, undef, undef, undef, undef, undef, undef])) w = word_Get.B0 R v t22A t22n t22c t23 t24 w := by kernel_rfl
theorem word_Get.L0_step {R : Value → World → Prop} {v : Int} {t22A : Option Addr} {t22n : Nat} {t22c : Nat} {t23 : Int} {t24 : Int} {w : World} (h : word_Get.B0 R v t22A t22n t22c t23 t24 w) : word_Get.L0 R v t22A t22n t22c t23 t24 w :=
  loop_step (live := word_Get.live) (b := 0) (x := word_Get.c0) fun ts => Eq.mpr (word_Get.B0_eq R v t22A t22n t22c t23 t24 w ts) h
theorem word_Get.eq (R : Value → World → Prop) (bA : Option Addr) (bn : Nat) (bc : Nat) (at_ : Int) (size : Int) (w : World) : fnVC Try.prog word_Get.live Try.f33 R [(.slice bA bn bc), (.int .i64 at_), (.int .i64 size)] w = word_Get.vc R bA bn bc at_ size w := by kernel_rfl
theorem word_Get.ok {R : Value → World → Prop} {bA : Option Addr} {bn : Nat} {bc : Nat} {at_ : Int} {size : Int} {w : World} (h : word_Get.vc R bA bn bc at_ size w) : Run Try.prog 33 #[(.slice bA bn bc), (.int .i64 at_), (.int .i64 size)] w R :=
  fn_sound (args := [(.slice bA bn bc), (.int .i64 at_), (.int .i64 size)]) Try.mixed Try.func33 (by kernel_rfl) (Eq.mpr (word_Get.eq R bA bn bc at_ size w) h)

/-! ### riddle/insn.Decode: function 18 -/
noncomputable def insn_Decode.body : Code := bodyOf Try.f18
def insn_Decode.live : Nat → List Nat
  | 0 => [0, 4, 5]
  | _ => []
noncomputable def insn_Decode.c0 : Code := sub insn_Decode.body [1, 1, 1, 1, 0, 1, 0, 0]
def insn_Decode.K0 (R : Value → World → Prop) : Ex → St → World → Prop := (blockK 0 (thenK (fun st w => code Try.prog insn_Decode.live 0 (sub insn_Decode.body [1, 1, 1, 1, 1]) (retK Try.prog Try.f18 R) st w) (retK Try.prog Try.f18 R)))
def insn_Decode.L0 (R : Value → World → Prop) (bA : Option Addr) (bn : Nat) (bc : Nat) (outA : Option Addr) (outn : Nat) (outc : Nat) (at_ : Int) (w : World) : Prop :=
  loopVC (fun K => code Try.prog insn_Decode.live 0 insn_Decode.c0 K) (insn_Decode.live 0) (insn_Decode.K0 R) [(.slice bA bn bc), undef, undef, undef, (.slice outA outn outc), (.int .i64 at_), undef, undef, undef, undef, undef, undef, undef, undef, undef, undef, undef, undef, undef, undef, undef, undef, undef, undef, undef, undef, undef, undef, undef, undef, undef, undef, undef, undef, undef, undef, undef, undef, undef, undef, undef, undef, undef, undef, undef, undef, undef, undef, undef, undef, undef, undef, undef, undef] w
def insn_Decode.J0 (R : Value → World → Prop) (bA : Option Addr) (bn : Nat) (bc : Nat) (outA : Option Addr) (outn : Nat) (outc : Nat) (at_ : Int) (w : World) : Prop :=
  insn_Decode.L0 R bA bn bc outA outn outc (IntKind.i64.wrap (at_ + 8)) w

@[reducible] def insn_Decode.B0 (R : Value → World → Prop) (bA : Option Addr) (bn : Nat) (bc : Nat) (outA : Option Addr) (outn : Nat) (outc : Nat) (at_ : Int) (w : World) : Prop :=
  ifP (decide ((at_ : Int) < ((bn : Nat) : Int)))
    (Run Try.prog 33 #[(.slice bA bn bc), (.int .i64 at_), (.int .i64 2)] w fun v w_2 => ∃ t260 : Int, ∃ t261 : Bool, v = (.tuple #[(.int .u32 t260), (.bool t261)]) ∧ Run Try.prog 33 #[(.slice bA bn bc), (.int .i64 (IntKind.i64.wrap (at_ + 4))), (.int .i64 4)] w_2 fun v_2 w_3 => ∃ t330 : Int, ∃ t331 : Bool, v_2 = (.tuple #[(.int .u32 t330), (.bool t331)]) ∧ ∃ S_ : World → Prop, S_ w_3.drew ∧ letW w_3.drew fun w_4 => 0 ≤ (IntKind.i64.wrap (at_ + 2) : Int) ∧ (IntKind.i64.wrap (at_ + 2) : Int) < ((bn : Nat) : Int) ∧ ∃ t42p : Addr, bA = some t42p ∧ ∃ t43 : Int, (∀ u : World, S_ u → u.cell? (t42p.add (Int.toNat (IntKind.i64.wrap (at_ + 2)) * 1)) = some (.int .u8 t43)) ∧ 0 ≤ (IntKind.i64.wrap (at_ + 3) : Int) ∧ (IntKind.i64.wrap (at_ + 3) : Int) < ((bn : Nat) : Int) ∧ ∃ t47p : Addr, bA = some t47p ∧ ∃ t48 : Int, (∀ u_2 : World, S_ u_2 → u_2.cell? (t47p.add (Int.toNat (IntKind.i64.wrap (at_ + 3)) * 1)) = some (.int .u8 t48)) ∧ letW (w_4.alloc (.cells #[(.int .u16 (IntKind.u16.wrap t260)), (.int .u8 t43), (.int .u8 t48), (.int .u32 t330)] 48)) fun w_5 => S_ w_5 ∧ ∃ (v_3 : Value) (w_6 : World), (Builtin.append_ #[22, 22] 22 #[(.slice outA outn outc), (.slice (some (newA w_4)) 1 1)]).run Try.prog w_5 = .ok v_3 w_6 ∧ ∃ (t52A : Option Addr) (t52n t52c : Nat), v_3 = (.slice t52A t52n t52c) ∧ S_ w_6 ∧ insn_Decode.J0 R bA bn bc t52A t52n t52c at_ w_6)
    (R (.tuple #[(.slice outA outn outc), (.int .i64 0)]) w)

@[reducible] def insn_Decode.vc (R : Value → World → Prop) (bA : Option Addr) (bn : Nat) (bc : Nat) (w : World) : Prop :=
  ifP ((Int.tmod ((bn : Nat) : Int) 8 : Int) != 0)
    (R (.tuple #[(.slice none 0 0), (.int .i64 20)]) w)
    (ifP (decide ((((bn : Nat) : Int) : Int) > 32768))
    (R (.tuple #[(.slice none 0 0), (.int .i64 21)]) w)
    (insn_Decode.L0 R bA bn bc none 0 0 0 w))

theorem insn_Decode.B0_eq (R : Value → World → Prop) (bA : Option Addr) (bn : Nat) (bc : Nat) (outA : Option Addr) (outn : Nat) (outc : Nat) (at_ : Int) (w : World) (ts : Nat → Value) :
    code Try.prog insn_Decode.live 0 insn_Decode.c0 (thenK (fun st w => loopVC (fun K => code Try.prog insn_Decode.live 0 insn_Decode.c0 K) (insn_Decode.live 0) (insn_Decode.K0 R) (clearFrom (insn_Decode.live 0) 0 st) w) (insn_Decode.K0 R)) (mergeFrom (insn_Decode.live 0) ts 0 (clearFrom (insn_Decode.live 0) 0 [(.slice bA bn bc), undef, undef, undef, (.slice outA outn outc), (.int .i64 at_), undef, undef, undef, undef, undef, undef, undef, undef, undef, undef, undef, undef, undef, undef, undef, undef, undef, undef, undef, undef, undef, undef, undef, undef, undef, undef, undef, undef, undef, undef, undef, undef, undef, undef, undef, undef, undef, undef, undef, undef, undef, undef, undef, undef, undef, undef, undef, undef])) w = insn_Decode.B0 R bA bn bc outA outn outc at_ w := by kernel_rfl
theorem insn_Decode.L0_step {R : Value → World → Prop} {bA : Option Addr} {bn : Nat} {bc : Nat} {outA : Option Addr} {outn : Nat} {outc : Nat} {at_ : Int} {w : World} (h : insn_Decode.B0 R bA bn bc outA outn outc at_ w) : insn_Decode.L0 R bA bn bc outA outn outc at_ w :=
  loop_step (live := insn_Decode.live) (b := 0) (x := insn_Decode.c0) fun ts => Eq.mpr (insn_Decode.B0_eq R bA bn bc outA outn outc at_ w ts) h
theorem insn_Decode.eq (R : Value → World → Prop) (bA : Option Addr) (bn : Nat) (bc : Nat) (w : World) : fnVC Try.prog insn_Decode.live Try.f18 R [(.slice bA bn bc)] w = insn_Decode.vc R bA bn bc w := by kernel_rfl
theorem insn_Decode.ok {R : Value → World → Prop} {bA : Option Addr} {bn : Nat} {bc : Nat} {w : World} (h : insn_Decode.vc R bA bn bc w) : Run Try.prog 18 #[(.slice bA bn bc)] w R :=
  fn_sound (args := [(.slice bA bn bc)]) Try.mixed Try.func18 (by kernel_rfl) (Eq.mpr (insn_Decode.eq R bA bn bc w) h)

/-! ### riddle/insn.test: function 35 -/
noncomputable def insn_test.body : Code := bodyOf Try.f35
def insn_test.live : Nat → List Nat
  | _ => []
def insn_test.J1 (R : Value → World → Prop) (w : World) : Prop :=
  R (.bool true) w

def insn_test.J2 (R : Value → World → Prop) (t9 : Bool) (w : World) : Prop :=
  ifP t9
    (insn_test.J1 R w)
    (R (.bool false) w)

def insn_test.J0 (R : Value → World → Prop) (t3 : Int) (t4 : Bool) (w : World) : Prop :=
  ifP t4
    (insn_test.J1 R w)
    (ifP ((t3 : Int) == 29)
    (insn_test.J2 R ((t3 : Int) == 29) w)
    (ifP ((t3 : Int) == 45)
    (insn_test.J2 R ((t3 : Int) == 45) w)
    (ifP ((t3 : Int) == 61)
    (insn_test.J2 R ((t3 : Int) == 61) w)
    (insn_test.J2 R ((t3 : Int) == 77) w))))

@[reducible] def insn_test.vc (R : Value → World → Prop) (code_ : Int) (w : World) : Prop :=
  ifP ((code_ : Int) == 21)
    (insn_test.J0 R code_ ((code_ : Int) == 21) w)
    (ifP ((code_ : Int) == 37)
    (insn_test.J0 R code_ ((code_ : Int) == 37) w)
    (ifP ((code_ : Int) == 53)
    (insn_test.J0 R code_ ((code_ : Int) == 53) w)
    (insn_test.J0 R code_ ((code_ : Int) == 69) w)))

theorem insn_test.eq (R : Value → World → Prop) (code_ : Int) (w : World) : fnVC Try.prog insn_test.live Try.f35 R [(.int .u16 code_)] w = insn_test.vc R code_ w := by kernel_rfl
theorem insn_test.ok {R : Value → World → Prop} {code_ : Int} {w : World} (h : insn_test.vc R code_ w) : Run Try.prog 35 #[(.int .u16 code_)] w R :=
  fn_sound (args := [(.int .u16 code_)]) Try.mixed Try.func35 (by kernel_rfl) (Eq.mpr (insn_test.eq R code_ w) h)

/-! ### riddle/insn.alu: function 40 -/
noncomputable def insn_alu.body : Code := bodyOf Try.f40
def insn_alu.live : Nat → List Nat
  | _ => []
def insn_alu.J1 (R : Value → World → Prop) (w : World) : Prop :=
  R (.bool true) w

def insn_alu.J2 (R : Value → World → Prop) (t3 : Int) (t15 : Bool) (w : World) : Prop :=
  ifP t15
    (insn_alu.J1 R w)
    (ifP ((t3 : Int) == 132)
    (insn_alu.J1 R w)
    (R (.bool false) w))

def insn_alu.J0 (R : Value → World → Prop) (t3 : Int) (t4 : Bool) (w : World) : Prop :=
  ifP t4
    (insn_alu.J1 R w)
    (ifP ((t3 : Int) == 12)
    (insn_alu.J2 R t3 ((t3 : Int) == 12) w)
    (ifP ((t3 : Int) == 28)
    (insn_alu.J2 R t3 ((t3 : Int) == 28) w)
    (ifP ((t3 : Int) == 44)
    (insn_alu.J2 R t3 ((t3 : Int) == 44) w)
    (ifP ((t3 : Int) == 60)
    (insn_alu.J2 R t3 ((t3 : Int) == 60) w)
    (ifP ((t3 : Int) == 76)
    (insn_alu.J2 R t3 ((t3 : Int) == 76) w)
    (ifP ((t3 : Int) == 92)
    (insn_alu.J2 R t3 ((t3 : Int) == 92) w)
    (ifP ((t3 : Int) == 108)
    (insn_alu.J2 R t3 ((t3 : Int) == 108) w)
    (ifP ((t3 : Int) == 124)
    (insn_alu.J2 R t3 ((t3 : Int) == 124) w)
    (ifP ((t3 : Int) == 156)
    (insn_alu.J2 R t3 ((t3 : Int) == 156) w)
    (insn_alu.J2 R t3 ((t3 : Int) == 172) w))))))))))

@[reducible] def insn_alu.vc (R : Value → World → Prop) (code_ : Int) (w : World) : Prop :=
  ifP ((code_ : Int) == 4)
    (insn_alu.J0 R code_ ((code_ : Int) == 4) w)
    (ifP ((code_ : Int) == 20)
    (insn_alu.J0 R code_ ((code_ : Int) == 20) w)
    (ifP ((code_ : Int) == 36)
    (insn_alu.J0 R code_ ((code_ : Int) == 36) w)
    (ifP ((code_ : Int) == 52)
    (insn_alu.J0 R code_ ((code_ : Int) == 52) w)
    (ifP ((code_ : Int) == 68)
    (insn_alu.J0 R code_ ((code_ : Int) == 68) w)
    (ifP ((code_ : Int) == 84)
    (insn_alu.J0 R code_ ((code_ : Int) == 84) w)
    (ifP ((code_ : Int) == 100)
    (insn_alu.J0 R code_ ((code_ : Int) == 100) w)
    (ifP ((code_ : Int) == 116)
    (insn_alu.J0 R code_ ((code_ : Int) == 116) w)
    (ifP ((code_ : Int) == 148)
    (insn_alu.J0 R code_ ((code_ : Int) == 148) w)
    (insn_alu.J0 R code_ ((code_ : Int) == 164) w)))))))))

theorem insn_alu.eq (R : Value → World → Prop) (code_ : Int) (w : World) : fnVC Try.prog insn_alu.live Try.f40 R [(.int .u16 code_)] w = insn_alu.vc R code_ w := by kernel_rfl
theorem insn_alu.ok {R : Value → World → Prop} {code_ : Int} {w : World} (h : insn_alu.vc R code_ w) : Run Try.prog 40 #[(.int .u16 code_)] w R :=
  fn_sound (args := [(.int .u16 code_)]) Try.mixed Try.func40 (by kernel_rfl) (Eq.mpr (insn_alu.eq R code_ w) h)

/-! ### riddle/insn.Known: function 26 -/
noncomputable def insn_Known.body : Code := bodyOf Try.f26
def insn_Known.live : Nat → List Nat
  | _ => []
def insn_Known.J1 (R : Value → World → Prop) (w : World) : Prop :=
  R (.bool true) w

def insn_Known.J4 (R : Value → World → Prop) (t2 : Bool) (w : World) : Prop :=
  R (.bool t2) w

def insn_Known.J3 (R : Value → World → Prop) (code_ : Int) (t19 : Bool) (w : World) : Prop :=
  ifP t19
    (insn_Known.J1 R w)
    (Run Try.prog 40 #[(.int .u16 code_)] w fun v w_2 => ∃ t28 : Bool, v = (.bool t28) ∧ ifP t28 (insn_Known.J4 R true w_2) (Run Try.prog 35 #[(.int .u16 code_)] w_2 fun v_2 w_3 => ∃ t31 : Bool, v_2 = (.bool t31) ∧ insn_Known.J4 R t31 w_3))

def insn_Known.J2 (R : Value → World → Prop) (code_ : Int) (t3 : Int) (t14 : Bool) (w : World) : Prop :=
  ifP t14
    (insn_Known.J1 R w)
    (ifP ((t3 : Int) == 2)
    (insn_Known.J3 R code_ ((t3 : Int) == 2) w)
    (ifP ((t3 : Int) == 3)
    (insn_Known.J3 R code_ ((t3 : Int) == 3) w)
    (ifP ((t3 : Int) == 6)
    (insn_Known.J3 R code_ ((t3 : Int) == 6) w)
    (ifP ((t3 : Int) == 22)
    (insn_Known.J3 R code_ ((t3 : Int) == 22) w)
    (ifP ((t3 : Int) == 7)
    (insn_Known.J3 R code_ ((t3 : Int) == 7) w)
    (ifP ((t3 : Int) == 135)
    (insn_Known.J3 R code_ ((t3 : Int) == 135) w)
    (insn_Known.J3 R code_ ((t3 : Int) == 5) w)))))))

def insn_Known.J0 (R : Value → World → Prop) (code_ : Int) (t3 : Int) (t4 : Bool) (w : World) : Prop :=
  ifP t4
    (insn_Known.J1 R w)
    (ifP ((t3 : Int) == 1)
    (insn_Known.J2 R code_ t3 ((t3 : Int) == 1) w)
    (ifP ((t3 : Int) == 97)
    (insn_Known.J2 R code_ t3 ((t3 : Int) == 97) w)
    (ifP ((t3 : Int) == 129)
    (insn_Known.J2 R code_ t3 ((t3 : Int) == 129) w)
    (insn_Known.J2 R code_ t3 ((t3 : Int) == 177) w))))

@[reducible] def insn_Known.vc (R : Value → World → Prop) (code_ : Int) (w : World) : Prop :=
  ifP ((code_ : Int) == 0)
    (insn_Known.J0 R code_ code_ ((code_ : Int) == 0) w)
    (ifP ((code_ : Int) == 32)
    (insn_Known.J0 R code_ code_ ((code_ : Int) == 32) w)
    (ifP ((code_ : Int) == 40)
    (insn_Known.J0 R code_ code_ ((code_ : Int) == 40) w)
    (ifP ((code_ : Int) == 48)
    (insn_Known.J0 R code_ code_ ((code_ : Int) == 48) w)
    (ifP ((code_ : Int) == 64)
    (insn_Known.J0 R code_ code_ ((code_ : Int) == 64) w)
    (ifP ((code_ : Int) == 72)
    (insn_Known.J0 R code_ code_ ((code_ : Int) == 72) w)
    (ifP ((code_ : Int) == 80)
    (insn_Known.J0 R code_ code_ ((code_ : Int) == 80) w)
    (ifP ((code_ : Int) == 96)
    (insn_Known.J0 R code_ code_ ((code_ : Int) == 96) w)
    (insn_Known.J0 R code_ code_ ((code_ : Int) == 128) w))))))))

theorem insn_Known.eq (R : Value → World → Prop) (code_ : Int) (w : World) : fnVC Try.prog insn_Known.live Try.f26 R [(.int .u16 code_)] w = insn_Known.vc R code_ w := by kernel_rfl
theorem insn_Known.ok {R : Value → World → Prop} {code_ : Int} {w : World} (h : insn_Known.vc R code_ w) : Run Try.prog 26 #[(.int .u16 code_)] w R :=
  fn_sound (args := [(.int .u16 code_)]) Try.mixed Try.func26 (by kernel_rfl) (Eq.mpr (insn_Known.eq R code_ w) h)

/-! ### riddle/insn.Class: function 28 -/
noncomputable def insn_Class.body : Code := bodyOf Try.f28
def insn_Class.live : Nat → List Nat
  | _ => []
@[reducible] def insn_Class.vc (R : Value → World → Prop) (code_ : Int) (w : World) : Prop :=
  Run Try.prog 26 #[(.int .u16 code_)] w fun v w_2 => ∃ t4 : Bool, v = (.bool t4) ∧ ifP (!t4)
    (R (.int .i64 (-1)) w_2)
    (R (.int .i64 (IntKind.i64.wrap (andI .u16 code_ 7))) w_2)

theorem insn_Class.eq (R : Value → World → Prop) (code_ : Int) (w : World) : fnVC Try.prog insn_Class.live Try.f28 R [(.int .u16 code_)] w = insn_Class.vc R code_ w := by kernel_rfl
theorem insn_Class.ok {R : Value → World → Prop} {code_ : Int} {w : World} (h : insn_Class.vc R code_ w) : Run Try.prog 28 #[(.int .u16 code_)] w R :=
  fn_sound (args := [(.int .u16 code_)]) Try.mixed Try.func28 (by kernel_rfl) (Eq.mpr (insn_Class.eq R code_ w) h)

/-! ### riddle/riddlelaw2.awake: function 15 -/
noncomputable def law2_awake.body : Code := bodyOf Try.f15
def law2_awake.live : Nat → List Nat
  | _ => []
def law2_awake.J0 (R : Value → World → Prop) (t0 : Bool) (w : World) : Prop :=
  R (.bool t0) w

@[reducible] def law2_awake.vc (R : Value → World → Prop) (w : World) : Prop :=
  letW (w.alloc (.cells #[(.int .u16 21), (.int .u8 1), (.int .u8 2), (.int .u32 2048)] 48)) fun w_2 => Run Try.prog 10 #[(.slice (some (newA w)) 1 1)] w_2 fun v w_3 => ∃ (t80A : Option Addr) (t80n t80c : Nat), ∃ t81 : Int, v = (.tuple #[(.slice t80A t80n t80c), (.int .i64 t81)]) ∧ letW (w_3.alloc (.cells #[(.int .u8 0), (.int .u8 6), (.int .u8 0), (.int .u8 0), (.int .u8 0), (.int .u8 0), (.int .u8 0), (.int .u8 5)] 5)) fun w_4 => Run Try.prog 18 #[(.slice (some (newA w_3)) 8 8)] w_4 fun v_2 w_5 => ∃ (t130A : Option Addr) (t130n t130c : Nat), ∃ t131 : Int, v_2 = (.tuple #[(.slice t130A t130n t130c), (.int .i64 t131)]) ∧ ifP ((t81 : Int) == 0) (letW (w_5.alloc (.cells #[(.int .u8 0), (.int .u8 21), (.int .u8 1), (.int .u8 2), (.int .u8 0), (.int .u8 0), (.int .u8 8), (.int .u8 0)] 5)) fun w_6 => Run Try.prog 13 #[(.slice t80A t80n t80c), (.slice (some (newA w_5)) 8 8)] w_6 fun v_3 w_7 => ∃ t21 : Bool, v_3 = (.bool t21) ∧ ifP t21 (ifP ((t131 : Int) == 0) (ifP ((((t130n : Nat) : Int) : Int) == 1) (0 ≤ (0 : Int) ∧ (0 : Int) < ((t130n : Nat) : Int) ∧ ∃ t34p : Addr, t130A = some t34p ∧ ∃ t35_0 : Int, w_7.cell? (t34p.add (Int.toNat 0 * 4)) = some (.int .u16 t35_0) ∧ ∃ t35_1 : Int, w_7.cell? ((t34p.add (Int.toNat 0 * 4)).add 1) = some (.int .u8 t35_1) ∧ ∃ t35_2 : Int, w_7.cell? ((t34p.add (Int.toNat 0 * 4)).add 2) = some (.int .u8 t35_2) ∧ ∃ t35_3 : Int, w_7.cell? ((t34p.add (Int.toNat 0 * 4)).add 3) = some (.int .u32 t35_3) ∧ ∃ (v_4 : Value) (w_8 : World), (eqSem .eql 48 (.tmp 35) (.tmp 36) (.agg #[(.int .u16 t35_0), (.int .u8 t35_1), (.int .u8 t35_2), (.int .u32 t35_3)]) (.agg #[(.int .u16 6), (.int .u8 0), (.int .u8 0), (.int .u32 5)])).run Try.prog w_7 = .ok v_4 w_8 ∧ ∃ t37 : Bool, v_4 = (.bool t37) ∧ ifP t37 (Run Try.prog 26 #[(.int .u16 7)] w_8 fun v_5 w_9 => ∃ t40 : Bool, v_5 = (.bool t40) ∧ ifP t40 (Run Try.prog 28 #[(.int .u16 7)] w_9 fun v_6 w_10 => ∃ t43 : Int, v_6 = (.int .i64 t43) ∧ law2_awake.J0 R ((t43 : Int) == 7) w_10) (law2_awake.J0 R false w_9)) (law2_awake.J0 R false w_8)) (law2_awake.J0 R false w_7)) (law2_awake.J0 R false w_7)) (law2_awake.J0 R false w_7)) (law2_awake.J0 R false w_5)

theorem law2_awake.eq (R : Value → World → Prop) (w : World) : fnVC Try.prog law2_awake.live Try.f15 R [] w = law2_awake.vc R  w := by kernel_rfl
theorem law2_awake.ok {R : Value → World → Prop} {w : World} (h : law2_awake.vc R  w) : Run Try.prog 15 #[] w R :=
  fn_sound (args := []) Try.mixed Try.func15 (by kernel_rfl) (Eq.mpr (law2_awake.eq R  w) h)

/-! ### riddle/riddlelaw2.InsnEncodes: function 3 -/
noncomputable def law2_InsnEncodes.body : Code := bodyOf Try.f3
def law2_InsnEncodes.live : Nat → List Nat
  | _ => []
def law2_InsnEncodes.J1 (R : Value → World → Prop) (t2 : Bool) (w : World) : Prop :=
  R (.bool t2) w

def law2_InsnEncodes.J0 (R : Value → World → Prop) (wantA : Option Addr) (wantn : Nat) (wantc : Nat) (xA : Option Addr) (xn : Nat) (xc : Nat) (yA : Option Addr) (yn : Nat) (yc : Nat) (t45 : Bool) (w : World) : Prop :=
  ifP t45
    (R (.bool false) w)
    (Run Try.prog 14 #[(.slice xA xn xc)] w fun v w_2 => v = (.tuple #[]) ∧ Run Try.prog 13 #[(.slice yA yn yc), (.slice wantA wantn wantc)] w_2 fun v_2 w_3 => ∃ t50 : Bool, v_2 = (.bool t50) ∧ ifP t50 (Run Try.prog 15 #[] w_3 fun v_3 w_4 => ∃ t52 : Bool, v_3 = (.bool t52) ∧ law2_InsnEncodes.J1 R t52 w_4) (law2_InsnEncodes.J1 R false w_3))

@[reducible] def law2_InsnEncodes.vc (R : Value → World → Prop) (pA : Option Addr) (pn : Nat) (pc : Nat) (w : World) : Prop :=
  Run Try.prog 8 #[(.slice pA pn pc)] w fun v w_2 => ∃ (t120A : Option Addr) (t120n t120c : Nat), ∃ t121 : Int, v = (.tuple #[(.slice t120A t120n t120c), (.int .i64 t121)]) ∧ Run Try.prog 9 #[(.slice pA pn pc)] w_2 fun v_2 w_3 => ∃ (t16A : Option Addr) (t16n t16c : Nat), v_2 = (.slice t16A t16n t16c) ∧ Run Try.prog 10 #[(.slice t16A t16n t16c)] w_3 fun v_3 w_4 => ∃ (t190A : Option Addr) (t190n t190c : Nat), ∃ t191 : Int, v_3 = (.tuple #[(.slice t190A t190n t190c), (.int .i64 t191)]) ∧ Run Try.prog 11 #[(.slice t16A t16n t16c), (.slice pA pn pc)] w_4 fun v_4 w_5 => ∃ t24 : Bool, v_4 = (.bool t24) ∧ ifP (!t24)
    (R (.bool false) w_5)
    (Run Try.prog 12 #[(.slice pA pn pc)] w_5 fun v_5 w_6 => ∃ (t28A : Option Addr) (t28n t28c : Nat), v_5 = (.slice t28A t28n t28c) ∧ Run Try.prog 10 #[(.slice t28A t28n t28c)] w_6 fun v_6 w_7 => ∃ (t290A : Option Addr) (t290n t290c : Nat), ∃ t291 : Int, v_6 = (.tuple #[(.slice t290A t290n t290c), (.int .i64 t291)]) ∧ ifP ((t191 : Int) != t121) (law2_InsnEncodes.J0 R t120A t120n t120c t190A t190n t190c t290A t290n t290c true w_7) (ifP ((t291 : Int) != t121) (law2_InsnEncodes.J0 R t120A t120n t120c t190A t190n t190c t290A t290n t290c true w_7) (Run Try.prog 13 #[(.slice t190A t190n t190c), (.slice t120A t120n t120c)] w_7 fun v_7 w_8 => ∃ t43 : Bool, v_7 = (.bool t43) ∧ law2_InsnEncodes.J0 R t120A t120n t120c t190A t190n t190c t290A t290n t290c (!t43) w_8)))

theorem law2_InsnEncodes.eq (R : Value → World → Prop) (pA : Option Addr) (pn : Nat) (pc : Nat) (w : World) : fnVC Try.prog law2_InsnEncodes.live Try.f3 R [(.slice pA pn pc)] w = law2_InsnEncodes.vc R pA pn pc w := by kernel_rfl
theorem law2_InsnEncodes.ok {R : Value → World → Prop} {pA : Option Addr} {pn : Nat} {pc : Nat} {w : World} (h : law2_InsnEncodes.vc R pA pn pc w) : Run Try.prog 3 #[(.slice pA pn pc)] w R :=
  fn_sound (args := [(.slice pA pn pc)]) Try.mixed Try.func3 (by kernel_rfl) (Eq.mpr (law2_InsnEncodes.eq R pA pn pc w) h)

/-! ### riddle/riddleref1.Get: function 32 -/
noncomputable def ref1_Get.body : Code := bodyOf Try.f32
def ref1_Get.live : Nat → List Nat
  | 0 => [0, 1, 2, 8, 9]
  | _ => []
noncomputable def ref1_Get.c0 : Code := sub ref1_Get.body [1, 1, 1, 0, 1, 0, 0]
def ref1_Get.K0 (R : Value → World → Prop) : Ex → St → World → Prop := (blockK 0 (thenK (fun st w => code Try.prog ref1_Get.live 0 (sub ref1_Get.body [1, 1, 1, 1]) (retK Try.prog Try.f32 R) st w) (retK Try.prog Try.f32 R)))
def ref1_Get.L0 (R : Value → World → Prop) (bA : Option Addr) (bn : Nat) (bc : Nat) (at_ : Int) (size : Int) (v : Int) (i : Int) (w : World) : Prop :=
  loopVC (fun K => code Try.prog ref1_Get.live 0 ref1_Get.c0 K) (ref1_Get.live 0) (ref1_Get.K0 R) [(.slice bA bn bc), (.int .i64 at_), (.int .i64 size), undef, undef, undef, undef, undef, (.int .u32 v), (.int .i64 i), undef, undef, undef, undef, undef, undef, undef, undef, undef, undef, undef, undef, undef, undef, undef, undef, undef, undef, undef, undef, undef, undef, undef, undef, undef, undef, undef, undef, undef, undef, undef, undef, undef, undef] w
@[reducible] def ref1_Get.B0 (R : Value → World → Prop) (bA : Option Addr) (bn : Nat) (bc : Nat) (at_ : Int) (size : Int) (v : Int) (i : Int) (w : World) : Prop :=
  ifP (decide ((i : Int) < size))
    (0 ≤ (IntKind.i64.wrap (at_ + i) : Int) ∧ (IntKind.i64.wrap (at_ + i) : Int) < ((bn : Nat) : Int) ∧ ∃ t39p : Addr, bA = some t39p ∧ ∃ t40 : Int, w.cell? (t39p.add (Int.toNat (IntKind.i64.wrap (at_ + i)) * 1)) = some (.int .u8 t40) ∧ ref1_Get.L0 R bA bn bc at_ size (orI .u32 (IntKind.u32.wrap (v * 2 ^ 8)) (IntKind.u32.wrap t40)) (IntKind.i64.wrap (i + 1)) w)
    (R (.tuple #[(.int .u32 v), (.bool true)]) w)

def ref1_Get.J0 (R : Value → World → Prop) (bA : Option Addr) (bn : Nat) (bc : Nat) (at_ : Int) (size : Int) (t27 : Bool) (w : World) : Prop :=
  ifP t27
    (R (.tuple #[(.int .u32 0), (.bool false)]) w)
    (ref1_Get.L0 R bA bn bc at_ size 0 0 w)

@[reducible] def ref1_Get.vc (R : Value → World → Prop) (bA : Option Addr) (bn : Nat) (bc : Nat) (at_ : Int) (size : Int) (w : World) : Prop :=
  ifP ((size : Int) != 1) (ifP ((size : Int) != 2) (ifP ((size : Int) != 4) (ref1_Get.J0 R bA bn bc at_ size true w) (Run Try.prog 44 #[(.int .i64 ((bn : Nat) : Int)), (.int .i64 at_), (.int .i64 size)] w fun v w_2 => ∃ t25 : Bool, v = (.bool t25) ∧ ref1_Get.J0 R bA bn bc at_ size (!t25) w_2)) (Run Try.prog 44 #[(.int .i64 ((bn : Nat) : Int)), (.int .i64 at_), (.int .i64 size)] w fun v_2 w_3 => ∃ t25_2 : Bool, v_2 = (.bool t25_2) ∧ ref1_Get.J0 R bA bn bc at_ size (!t25_2) w_3)) (Run Try.prog 44 #[(.int .i64 ((bn : Nat) : Int)), (.int .i64 at_), (.int .i64 size)] w fun v_3 w_4 => ∃ t25_3 : Bool, v_3 = (.bool t25_3) ∧ ref1_Get.J0 R bA bn bc at_ size (!t25_3) w_4)

theorem ref1_Get.B0_eq (R : Value → World → Prop) (bA : Option Addr) (bn : Nat) (bc : Nat) (at_ : Int) (size : Int) (v : Int) (i : Int) (w : World) (ts : Nat → Value) :
    code Try.prog ref1_Get.live 0 ref1_Get.c0 (thenK (fun st w => loopVC (fun K => code Try.prog ref1_Get.live 0 ref1_Get.c0 K) (ref1_Get.live 0) (ref1_Get.K0 R) (clearFrom (ref1_Get.live 0) 0 st) w) (ref1_Get.K0 R)) (mergeFrom (ref1_Get.live 0) ts 0 (clearFrom (ref1_Get.live 0) 0 [(.slice bA bn bc), (.int .i64 at_), (.int .i64 size), undef, undef, undef, undef, undef, (.int .u32 v), (.int .i64 i), undef, undef, undef, undef, undef, undef, undef, undef, undef, undef, undef, undef, undef, undef, undef, undef, undef, undef, undef, undef, undef, undef, undef, undef, undef, undef, undef, undef, undef, undef, undef, undef, undef, undef])) w = ref1_Get.B0 R bA bn bc at_ size v i w := by kernel_rfl
theorem ref1_Get.L0_step {R : Value → World → Prop} {bA : Option Addr} {bn : Nat} {bc : Nat} {at_ : Int} {size : Int} {v : Int} {i : Int} {w : World} (h : ref1_Get.B0 R bA bn bc at_ size v i w) : ref1_Get.L0 R bA bn bc at_ size v i w :=
  loop_step (live := ref1_Get.live) (b := 0) (x := ref1_Get.c0) fun ts => Eq.mpr (ref1_Get.B0_eq R bA bn bc at_ size v i w ts) h
theorem ref1_Get.eq (R : Value → World → Prop) (bA : Option Addr) (bn : Nat) (bc : Nat) (at_ : Int) (size : Int) (w : World) : fnVC Try.prog ref1_Get.live Try.f32 R [(.slice bA bn bc), (.int .i64 at_), (.int .i64 size)] w = ref1_Get.vc R bA bn bc at_ size w := by kernel_rfl
theorem ref1_Get.ok {R : Value → World → Prop} {bA : Option Addr} {bn : Nat} {bc : Nat} {at_ : Int} {size : Int} {w : World} (h : ref1_Get.vc R bA bn bc at_ size w) : Run Try.prog 32 #[(.slice bA bn bc), (.int .i64 at_), (.int .i64 size)] w R :=
  fn_sound (args := [(.slice bA bn bc), (.int .i64 at_), (.int .i64 size)]) Try.mixed Try.func32 (by kernel_rfl) (Eq.mpr (ref1_Get.eq R bA bn bc at_ size w) h)

/-! ### riddle/riddleref2.Decode: function 16 -/
noncomputable def ref2_Decode.body : Code := bodyOf Try.f16
def ref2_Decode.live : Nat → List Nat
  | 0 => [0, 4, 5]
  | _ => []
noncomputable def ref2_Decode.c0 : Code := sub ref2_Decode.body [1, 1, 1, 1, 0, 1, 0, 0]
def ref2_Decode.K0 (R : Value → World → Prop) : Ex → St → World → Prop := (blockK 0 (thenK (fun st w => code Try.prog ref2_Decode.live 0 (sub ref2_Decode.body [1, 1, 1, 1, 1]) (retK Try.prog Try.f16 R) st w) (retK Try.prog Try.f16 R)))
def ref2_Decode.L0 (R : Value → World → Prop) (bA : Option Addr) (bn : Nat) (bc : Nat) (outA : Option Addr) (outn : Nat) (outc : Nat) (i : Int) (w : World) : Prop :=
  loopVC (fun K => code Try.prog ref2_Decode.live 0 ref2_Decode.c0 K) (ref2_Decode.live 0) (ref2_Decode.K0 R) [(.slice bA bn bc), undef, undef, undef, (.slice outA outn outc), (.int .i64 i), undef, undef, undef, undef, undef, undef, undef, undef, undef, undef, undef, undef, undef, undef, undef, undef, undef, undef, undef, undef, undef, undef, undef, undef, undef, undef, undef, undef, undef, undef, undef, undef, undef, undef, undef, undef, undef, undef, undef, undef, undef, undef, undef, undef, undef, undef, undef, undef] w
def ref2_Decode.J0 (R : Value → World → Prop) (bA : Option Addr) (bn : Nat) (bc : Nat) (outA : Option Addr) (outn : Nat) (outc : Nat) (i : Int) (w : World) : Prop :=
  ref2_Decode.L0 R bA bn bc outA outn outc (IntKind.i64.wrap (i + 8)) w

@[reducible] def ref2_Decode.B0 (R : Value → World → Prop) (bA : Option Addr) (bn : Nat) (bc : Nat) (outA : Option Addr) (outn : Nat) (outc : Nat) (i : Int) (w : World) : Prop :=
  ifP (decide ((i : Int) < ((bn : Nat) : Int)))
    (Run Try.prog 32 #[(.slice bA bn bc), (.int .i64 i), (.int .i64 2)] w fun v w_2 => ∃ t260 : Int, ∃ t261 : Bool, v = (.tuple #[(.int .u32 t260), (.bool t261)]) ∧ Run Try.prog 32 #[(.slice bA bn bc), (.int .i64 (IntKind.i64.wrap (i + 4))), (.int .i64 4)] w_2 fun v_2 w_3 => ∃ t330 : Int, ∃ t331 : Bool, v_2 = (.tuple #[(.int .u32 t330), (.bool t331)]) ∧ ∃ S_ : World → Prop, S_ w_3.drew ∧ letW w_3.drew fun w_4 => 0 ≤ (IntKind.i64.wrap (i + 2) : Int) ∧ (IntKind.i64.wrap (i + 2) : Int) < ((bn : Nat) : Int) ∧ ∃ t42p : Addr, bA = some t42p ∧ ∃ t43 : Int, (∀ u : World, S_ u → u.cell? (t42p.add (Int.toNat (IntKind.i64.wrap (i + 2)) * 1)) = some (.int .u8 t43)) ∧ 0 ≤ (IntKind.i64.wrap (i + 3) : Int) ∧ (IntKind.i64.wrap (i + 3) : Int) < ((bn : Nat) : Int) ∧ ∃ t47p : Addr, bA = some t47p ∧ ∃ t48 : Int, (∀ u_2 : World, S_ u_2 → u_2.cell? (t47p.add (Int.toNat (IntKind.i64.wrap (i + 3)) * 1)) = some (.int .u8 t48)) ∧ letW (w_4.alloc (.cells #[(.int .u16 (IntKind.u16.wrap t260)), (.int .u8 t43), (.int .u8 t48), (.int .u32 t330)] 48)) fun w_5 => S_ w_5 ∧ ∃ (v_3 : Value) (w_6 : World), (Builtin.append_ #[22, 22] 22 #[(.slice outA outn outc), (.slice (some (newA w_4)) 1 1)]).run Try.prog w_5 = .ok v_3 w_6 ∧ ∃ (t52A : Option Addr) (t52n t52c : Nat), v_3 = (.slice t52A t52n t52c) ∧ S_ w_6 ∧ ref2_Decode.J0 R bA bn bc t52A t52n t52c i w_6)
    (R (.tuple #[(.slice outA outn outc), (.int .i64 0)]) w)

@[reducible] def ref2_Decode.vc (R : Value → World → Prop) (bA : Option Addr) (bn : Nat) (bc : Nat) (w : World) : Prop :=
  ifP ((Int.tmod ((bn : Nat) : Int) 8 : Int) != 0)
    (R (.tuple #[(.slice none 0 0), (.int .i64 20)]) w)
    (ifP (decide ((((bn : Nat) : Int) : Int) > 32768))
    (R (.tuple #[(.slice none 0 0), (.int .i64 21)]) w)
    (ref2_Decode.L0 R bA bn bc none 0 0 0 w))

theorem ref2_Decode.B0_eq (R : Value → World → Prop) (bA : Option Addr) (bn : Nat) (bc : Nat) (outA : Option Addr) (outn : Nat) (outc : Nat) (i : Int) (w : World) (ts : Nat → Value) :
    code Try.prog ref2_Decode.live 0 ref2_Decode.c0 (thenK (fun st w => loopVC (fun K => code Try.prog ref2_Decode.live 0 ref2_Decode.c0 K) (ref2_Decode.live 0) (ref2_Decode.K0 R) (clearFrom (ref2_Decode.live 0) 0 st) w) (ref2_Decode.K0 R)) (mergeFrom (ref2_Decode.live 0) ts 0 (clearFrom (ref2_Decode.live 0) 0 [(.slice bA bn bc), undef, undef, undef, (.slice outA outn outc), (.int .i64 i), undef, undef, undef, undef, undef, undef, undef, undef, undef, undef, undef, undef, undef, undef, undef, undef, undef, undef, undef, undef, undef, undef, undef, undef, undef, undef, undef, undef, undef, undef, undef, undef, undef, undef, undef, undef, undef, undef, undef, undef, undef, undef, undef, undef, undef, undef, undef, undef])) w = ref2_Decode.B0 R bA bn bc outA outn outc i w := by kernel_rfl
theorem ref2_Decode.L0_step {R : Value → World → Prop} {bA : Option Addr} {bn : Nat} {bc : Nat} {outA : Option Addr} {outn : Nat} {outc : Nat} {i : Int} {w : World} (h : ref2_Decode.B0 R bA bn bc outA outn outc i w) : ref2_Decode.L0 R bA bn bc outA outn outc i w :=
  loop_step (live := ref2_Decode.live) (b := 0) (x := ref2_Decode.c0) fun ts => Eq.mpr (ref2_Decode.B0_eq R bA bn bc outA outn outc i w ts) h
theorem ref2_Decode.eq (R : Value → World → Prop) (bA : Option Addr) (bn : Nat) (bc : Nat) (w : World) : fnVC Try.prog ref2_Decode.live Try.f16 R [(.slice bA bn bc)] w = ref2_Decode.vc R bA bn bc w := by kernel_rfl
theorem ref2_Decode.ok {R : Value → World → Prop} {bA : Option Addr} {bn : Nat} {bc : Nat} {w : World} (h : ref2_Decode.vc R bA bn bc w) : Run Try.prog 16 #[(.slice bA bn bc)] w R :=
  fn_sound (args := [(.slice bA bn bc)]) Try.mixed Try.func16 (by kernel_rfl) (Eq.mpr (ref2_Decode.eq R bA bn bc w) h)

/-! ### riddle/riddlelaw0.CopyBytes: function 20 -/
noncomputable def law0_CopyBytes.body : Code := bodyOf Try.f20
def law0_CopyBytes.live : Nat → List Nat
  | _ => []
@[reducible] def law0_CopyBytes.vc (R : Value → World → Prop) (aA : Option Addr) (an : Nat) (ac : Nat) (w : World) : Prop :=
  letW (w.alloc (.cells #[] 5)) fun w_2 => ∃ (v : Value) (w_3 : World), (Builtin.append_ #[23, 23] 23 #[(.slice (some (newA w)) 0 0), (.slice aA an ac)]).run Try.prog w_2 = .ok v w_3 ∧ ∃ (t5A : Option Addr) (t5n t5c : Nat), v = (.slice t5A t5n t5c) ∧ R (.slice t5A t5n t5c) w_3

theorem law0_CopyBytes.eq (R : Value → World → Prop) (aA : Option Addr) (an : Nat) (ac : Nat) (w : World) : fnVC Try.prog law0_CopyBytes.live Try.f20 R [(.slice aA an ac)] w = law0_CopyBytes.vc R aA an ac w := by kernel_rfl
theorem law0_CopyBytes.ok {R : Value → World → Prop} {aA : Option Addr} {an : Nat} {ac : Nat} {w : World} (h : law0_CopyBytes.vc R aA an ac w) : Run Try.prog 20 #[(.slice aA an ac)] w R :=
  fn_sound (args := [(.slice aA an ac)]) Try.mixed Try.func20 (by kernel_rfl) (Eq.mpr (law0_CopyBytes.eq R aA an ac w) h)

/-! ### riddle/riddlelaw0.LendBytes: function 17 -/
noncomputable def law0_LendBytes.body : Code := bodyOf Try.f17
def law0_LendBytes.live : Nat → List Nat
  | _ => []
@[reducible] def law0_LendBytes.vc (R : Value → World → Prop) (aA : Option Addr) (an : Nat) (ac : Nat) (w : World) : Prop :=
  Run Try.prog 20 #[(.slice aA an ac)] w fun v w_2 => ∃ (t5A : Option Addr) (t5n t5c : Nat), v = (.slice t5A t5n t5c) ∧ letW (w_2.alloc (.cells #[(.int .u8 201), (.int .u8 201), (.int .u8 201)] 5)) fun w_3 => ∃ (v_2 : Value) (w_4 : World), (Builtin.append_ #[23, 23] 23 #[(.slice t5A t5n t5c), (.slice (some (newA w_2)) 3 3)]).run Try.prog w_3 = .ok v_2 w_4 ∧ ∃ (t7A : Option Addr) (t7n t7c : Nat), v_2 = (.slice t7A t7n t7c) ∧ (0 : Int) ≤ 0 ∧ (0 : Int) ≤ ((an : Nat) : Int) ∧ (((an : Nat) : Int) : Int) ≤ ((t7c : Nat) : Int) ∧ R (.slice (subA t7A t7c 0 1) ((Int.toNat ((an : Nat) : Int)) - 0) (t7c - 0)) w_4

theorem law0_LendBytes.eq (R : Value → World → Prop) (aA : Option Addr) (an : Nat) (ac : Nat) (w : World) : fnVC Try.prog law0_LendBytes.live Try.f17 R [(.slice aA an ac)] w = law0_LendBytes.vc R aA an ac w := by kernel_rfl
theorem law0_LendBytes.ok {R : Value → World → Prop} {aA : Option Addr} {an : Nat} {ac : Nat} {w : World} (h : law0_LendBytes.vc R aA an ac w) : Run Try.prog 17 #[(.slice aA an ac)] w R :=
  fn_sound (args := [(.slice aA an ac)]) Try.mixed Try.func17 (by kernel_rfl) (Eq.mpr (law0_LendBytes.eq R aA an ac w) h)

/-! ### riddle/riddlelaw0.KeptBytes: function 19 -/
noncomputable def law0_KeptBytes.body : Code := bodyOf Try.f19
def law0_KeptBytes.live : Nat → List Nat
  | _ => []
def law0_KeptBytes.J0 (R : Value → World → Prop) (fullA : Option Addr) (fulln : Nat) (fullc : Nat) (ok_ : Bool) (w : World) : Prop :=
  Run Try.prog 14 #[(.slice fullA fulln fullc)] w fun v w_2 => v = (.tuple #[]) ∧ R (.bool ok_) w_2

@[reducible] def law0_KeptBytes.vc (R : Value → World → Prop) (lentA : Option Addr) (lentn : Nat) (lentc : Nat) (aA : Option Addr) (an : Nat) (ac : Nat) (w : World) : Prop :=
  (0 : Int) ≤ 0 ∧ (0 : Int) ≤ IntKind.i64.wrap (((lentn : Nat) : Int) + 3) ∧ (IntKind.i64.wrap (((lentn : Nat) : Int) + 3) : Int) ≤ ((lentc : Nat) : Int) ∧ Run Try.prog 13 #[(.slice lentA lentn lentc), (.slice aA an ac)] w fun v w_2 => ∃ t14 : Bool, v = (.bool t14) ∧ ifP t14 ((0 : Int) ≤ ((an : Nat) : Int) ∧ (((an : Nat) : Int) : Int) ≤ (((Int.toNat (IntKind.i64.wrap (((lentn : Nat) : Int) + 3))) - 0 : Nat) : Int) ∧ ((((Int.toNat (IntKind.i64.wrap (((lentn : Nat) : Int) + 3))) - 0 : Nat) : Int) : Int) ≤ ((lentc - 0 : Nat) : Int) ∧ letW (w_2.alloc (.cells #[(.int .u8 201), (.int .u8 201), (.int .u8 201)] 5)) fun w_3 => Run Try.prog 13 #[(.slice (subA (subA lentA lentc 0 1) (lentc - 0) (Int.toNat ((an : Nat) : Int)) 1) (((Int.toNat (IntKind.i64.wrap (((lentn : Nat) : Int) + 3))) - 0) - (Int.toNat ((an : Nat) : Int))) ((lentc - 0) - (Int.toNat ((an : Nat) : Int)))), (.slice (some (newA w_2)) 3 3)] w_3 fun v_2 w_4 => ∃ t21 : Bool, v_2 = (.bool t21) ∧ law0_KeptBytes.J0 R (subA lentA lentc 0 1) ((Int.toNat (IntKind.i64.wrap (((lentn : Nat) : Int) + 3))) - 0) (lentc - 0) t21 w_4) (law0_KeptBytes.J0 R (subA lentA lentc 0 1) ((Int.toNat (IntKind.i64.wrap (((lentn : Nat) : Int) + 3))) - 0) (lentc - 0) false w_2)

theorem law0_KeptBytes.eq (R : Value → World → Prop) (lentA : Option Addr) (lentn : Nat) (lentc : Nat) (aA : Option Addr) (an : Nat) (ac : Nat) (w : World) : fnVC Try.prog law0_KeptBytes.live Try.f19 R [(.slice lentA lentn lentc), (.slice aA an ac)] w = law0_KeptBytes.vc R lentA lentn lentc aA an ac w := by kernel_rfl
theorem law0_KeptBytes.ok {R : Value → World → Prop} {lentA : Option Addr} {lentn : Nat} {lentc : Nat} {aA : Option Addr} {an : Nat} {ac : Nat} {w : World} (h : law0_KeptBytes.vc R lentA lentn lentc aA an ac w) : Run Try.prog 19 #[(.slice lentA lentn lentc), (.slice aA an ac)] w R :=
  fn_sound (args := [(.slice lentA lentn lentc), (.slice aA an ac)]) Try.mixed Try.func19 (by kernel_rfl) (Eq.mpr (law0_KeptBytes.eq R lentA lentn lentc aA an ac w) h)

/-! ### riddle/riddlelaw2.InsnDecodes: function 4 -/
noncomputable def law2_InsnDecodes.body : Code := bodyOf Try.f4
def law2_InsnDecodes.live : Nat → List Nat
  | _ => []
def law2_InsnDecodes.J1 (R : Value → World → Prop) (t2 : Bool) (w : World) : Prop :=
  R (.bool t2) w

def law2_InsnDecodes.J0 (R : Value → World → Prop) (wantA : Option Addr) (wantn : Nat) (wantc : Nat) (xA : Option Addr) (xn : Nat) (xc : Nat) (yA : Option Addr) (yn : Nat) (yc : Nat) (t45 : Bool) (w : World) : Prop :=
  ifP t45
    (R (.bool false) w)
    (Run Try.prog 22 #[(.slice xA xn xc)] w fun v w_2 => v = (.tuple #[]) ∧ Run Try.prog 21 #[(.slice yA yn yc), (.slice wantA wantn wantc)] w_2 fun v_2 w_3 => ∃ t50 : Bool, v_2 = (.bool t50) ∧ ifP t50 (Run Try.prog 15 #[] w_3 fun v_3 w_4 => ∃ t52 : Bool, v_3 = (.bool t52) ∧ law2_InsnDecodes.J1 R t52 w_4) (law2_InsnDecodes.J1 R false w_3))

@[reducible] def law2_InsnDecodes.vc (R : Value → World → Prop) (bA : Option Addr) (bn : Nat) (bc : Nat) (w : World) : Prop :=
  Run Try.prog 16 #[(.slice bA bn bc)] w fun v w_2 => ∃ (t120A : Option Addr) (t120n t120c : Nat), ∃ t121 : Int, v = (.tuple #[(.slice t120A t120n t120c), (.int .i64 t121)]) ∧ Run Try.prog 17 #[(.slice bA bn bc)] w_2 fun v_2 w_3 => ∃ (t16A : Option Addr) (t16n t16c : Nat), v_2 = (.slice t16A t16n t16c) ∧ Run Try.prog 18 #[(.slice t16A t16n t16c)] w_3 fun v_3 w_4 => ∃ (t190A : Option Addr) (t190n t190c : Nat), ∃ t191 : Int, v_3 = (.tuple #[(.slice t190A t190n t190c), (.int .i64 t191)]) ∧ Run Try.prog 19 #[(.slice t16A t16n t16c), (.slice bA bn bc)] w_4 fun v_4 w_5 => ∃ t24 : Bool, v_4 = (.bool t24) ∧ ifP (!t24)
    (R (.bool false) w_5)
    (Run Try.prog 20 #[(.slice bA bn bc)] w_5 fun v_5 w_6 => ∃ (t28A : Option Addr) (t28n t28c : Nat), v_5 = (.slice t28A t28n t28c) ∧ Run Try.prog 18 #[(.slice t28A t28n t28c)] w_6 fun v_6 w_7 => ∃ (t290A : Option Addr) (t290n t290c : Nat), ∃ t291 : Int, v_6 = (.tuple #[(.slice t290A t290n t290c), (.int .i64 t291)]) ∧ ifP ((t191 : Int) != t121) (law2_InsnDecodes.J0 R t120A t120n t120c t190A t190n t190c t290A t290n t290c true w_7) (ifP ((t291 : Int) != t121) (law2_InsnDecodes.J0 R t120A t120n t120c t190A t190n t190c t290A t290n t290c true w_7) (Run Try.prog 21 #[(.slice t190A t190n t190c), (.slice t120A t120n t120c)] w_7 fun v_7 w_8 => ∃ t43 : Bool, v_7 = (.bool t43) ∧ law2_InsnDecodes.J0 R t120A t120n t120c t190A t190n t190c t290A t290n t290c (!t43) w_8)))

theorem law2_InsnDecodes.eq (R : Value → World → Prop) (bA : Option Addr) (bn : Nat) (bc : Nat) (w : World) : fnVC Try.prog law2_InsnDecodes.live Try.f4 R [(.slice bA bn bc)] w = law2_InsnDecodes.vc R bA bn bc w := by kernel_rfl
theorem law2_InsnDecodes.ok {R : Value → World → Prop} {bA : Option Addr} {bn : Nat} {bc : Nat} {w : World} (h : law2_InsnDecodes.vc R bA bn bc w) : Run Try.prog 4 #[(.slice bA bn bc)] w R :=
  fn_sound (args := [(.slice bA bn bc)]) Try.mixed Try.func4 (by kernel_rfl) (Eq.mpr (law2_InsnDecodes.eq R bA bn bc w) h)

/-! ### riddle/riddlelaw2.InsnBack: function 5 -/
noncomputable def law2_InsnBack.body : Code := bodyOf Try.f5
def law2_InsnBack.live : Nat → List Nat
  | _ => []
def law2_InsnBack.J3 (R : Value → World → Prop) (t4 : Bool) (w : World) : Prop :=
  R (.bool t4) w

def law2_InsnBack.J4 (R : Value → World → Prop) (t4 : Bool) (w : World) : Prop :=
  R (.bool t4) w

def law2_InsnBack.J2 (R : Value → World → Prop) (bA : Option Addr) (bn : Nat) (bc : Nat) (w : World) : Prop :=
  Run Try.prog 20 #[(.slice bA bn bc)] w fun v w_2 => ∃ (t82A : Option Addr) (t82n t82c : Nat), v = (.slice t82A t82n t82c) ∧ Run Try.prog 18 #[(.slice t82A t82n t82c)] w_2 fun v_2 w_3 => ∃ (t830A : Option Addr) (t830n t830c : Nat), ∃ t831 : Int, v_2 = (.tuple #[(.slice t830A t830n t830c), (.int .i64 t831)]) ∧ ifP ((t831 : Int) != 0)
    (ifP ((Int.tmod ((bn : Nat) : Int) 8 : Int) != 0) (Run Try.prog 15 #[] w_3 fun v_3 w_4 => ∃ t98 : Bool, v_3 = (.bool t98) ∧ law2_InsnBack.J3 R t98 w_4) (ifP (decide ((((bn : Nat) : Int) : Int) > 32768)) (Run Try.prog 15 #[] w_3 fun v_4 w_5 => ∃ t98_2 : Bool, v_4 = (.bool t98_2) ∧ law2_InsnBack.J3 R t98_2 w_5) (law2_InsnBack.J3 R false w_3)))
    (Run Try.prog 10 #[(.slice t830A t830n t830c)] w_3 fun v_5 w_6 => ∃ (t1020A : Option Addr) (t1020n t1020c : Nat), ∃ t1021 : Int, v_5 = (.tuple #[(.slice t1020A t1020n t1020c), (.int .i64 t1021)]) ∧ ifP ((t1021 : Int) == 0) (Run Try.prog 13 #[(.slice t1020A t1020n t1020c), (.slice bA bn bc)] w_6 fun v_6 w_7 => ∃ t110 : Bool, v_6 = (.bool t110) ∧ ifP t110 (Run Try.prog 15 #[] w_7 fun v_7 w_8 => ∃ t113 : Bool, v_7 = (.bool t113) ∧ law2_InsnBack.J4 R t113 w_8) (law2_InsnBack.J4 R false w_7)) (law2_InsnBack.J4 R false w_6))

def law2_InsnBack.J1 (R : Value → World → Prop) (bA : Option Addr) (bn : Nat) (bc : Nat) (t79 : Bool) (w : World) : Prop :=
  ifP t79
    (R (.bool false) w)
    (law2_InsnBack.J2 R bA bn bc w)

def law2_InsnBack.J0 (R : Value → World → Prop) (bA : Option Addr) (bn : Nat) (bc : Nat) (xA : Option Addr) (xn : Nat) (xc : Nat) (t52 : Bool) (w : World) : Prop :=
  ifP t52
    (R (.bool false) w)
    (ifP (decide ((((xn : Nat) : Int) : Int) > 0))
    ((0 : Int) ≤ 0 ∧ (0 : Int) ≤ IntKind.i64.wrap (((xn : Nat) : Int) - 1) ∧ (IntKind.i64.wrap (((xn : Nat) : Int) - 1) : Int) ≤ ((xc : Nat) : Int) ∧ Run Try.prog 20 #[(.slice (subA xA xc 0 1) ((Int.toNat (IntKind.i64.wrap (((xn : Nat) : Int) - 1))) - 0) (xc - 0))] w fun v w_2 => ∃ (t62A : Option Addr) (t62n t62c : Nat), v = (.slice t62A t62n t62c) ∧ Run Try.prog 18 #[(.slice t62A t62n t62c)] w_2 fun v_2 w_3 => ∃ (t630A : Option Addr) (t630n t630c : Nat), ∃ t631 : Int, v_2 = (.tuple #[(.slice t630A t630n t630c), (.int .i64 t631)]) ∧ Run Try.prog 20 #[(.slice xA xn xc)] w_3 fun v_3 w_4 => ∃ (t68A : Option Addr) (t68n t68c : Nat), v_3 = (.slice t68A t68n t68c) ∧ letW (w_4.alloc (.cells #[(.int .u8 0)] 5)) fun w_5 => ∃ (v_4 : Value) (w_6 : World), (Builtin.append_ #[23, 23] 23 #[(.slice t68A t68n t68c), (.slice (some (newA w_4)) 1 1)]).run Try.prog w_5 = .ok v_4 w_6 ∧ ∃ (t70A : Option Addr) (t70n t70c : Nat), v_4 = (.slice t70A t70n t70c) ∧ Run Try.prog 18 #[(.slice t70A t70n t70c)] w_6 fun v_5 w_7 => ∃ (t710A : Option Addr) (t710n t710c : Nat), ∃ t711 : Int, v_5 = (.tuple #[(.slice t710A t710n t710c), (.int .i64 t711)]) ∧ ifP ((t631 : Int) != 20) (law2_InsnBack.J1 R bA bn bc true w_7) (law2_InsnBack.J1 R bA bn bc ((t711 : Int) != 20) w_7))
    (law2_InsnBack.J2 R bA bn bc w))

@[reducible] def law2_InsnBack.vc (R : Value → World → Prop) (pA : Option Addr) (pn : Nat) (pc : Nat) (bA : Option Addr) (bn : Nat) (bc : Nat) (w : World) : Prop :=
  Run Try.prog 12 #[(.slice pA pn pc)] w fun v w_2 => ∃ (t19A : Option Addr) (t19n t19c : Nat), v = (.slice t19A t19n t19c) ∧ Run Try.prog 10 #[(.slice t19A t19n t19c)] w_2 fun v_2 w_3 => ∃ (t200A : Option Addr) (t200n t200c : Nat), ∃ t201 : Int, v_2 = (.tuple #[(.slice t200A t200n t200c), (.int .i64 t201)]) ∧ ifP (!(((t201 : Int) == 0) == (decide ((((pn : Nat) : Int) : Int) ≤ 4096))))
    (R (.bool false) w_3)
    (ifP ((t201 : Int) == 0)
    (Run Try.prog 20 #[(.slice t200A t200n t200c)] w_3 fun v_3 w_4 => ∃ (t33A : Option Addr) (t33n t33c : Nat), v_3 = (.slice t33A t33n t33c) ∧ Run Try.prog 18 #[(.slice t33A t33n t33c)] w_4 fun v_4 w_5 => ∃ (t340A : Option Addr) (t340n t340c : Nat), ∃ t341 : Int, v_4 = (.tuple #[(.slice t340A t340n t340c), (.int .i64 t341)]) ∧ ifP ((t341 : Int) != 0) (law2_InsnBack.J0 R bA bn bc t200A t200n t200c true w_5) (ifP ((((t200n : Nat) : Int) : Int) != (IntKind.i64.wrap (8 * ((pn : Nat) : Int)))) (law2_InsnBack.J0 R bA bn bc t200A t200n t200c true w_5) (Run Try.prog 21 #[(.slice t340A t340n t340c), (.slice pA pn pc)] w_5 fun v_5 w_6 => ∃ t50 : Bool, v_5 = (.bool t50) ∧ law2_InsnBack.J0 R bA bn bc t200A t200n t200c (!t50) w_6)))
    (law2_InsnBack.J2 R bA bn bc w_3))

theorem law2_InsnBack.eq (R : Value → World → Prop) (pA : Option Addr) (pn : Nat) (pc : Nat) (bA : Option Addr) (bn : Nat) (bc : Nat) (w : World) : fnVC Try.prog law2_InsnBack.live Try.f5 R [(.slice pA pn pc), (.slice bA bn bc)] w = law2_InsnBack.vc R pA pn pc bA bn bc w := by kernel_rfl
theorem law2_InsnBack.ok {R : Value → World → Prop} {pA : Option Addr} {pn : Nat} {pc : Nat} {bA : Option Addr} {bn : Nat} {bc : Nat} {w : World} (h : law2_InsnBack.vc R pA pn pc bA bn bc w) : Run Try.prog 5 #[(.slice pA pn pc), (.slice bA bn bc)] w R :=
  fn_sound (args := [(.slice pA pn pc), (.slice bA bn bc)]) Try.mixed Try.func5 (by kernel_rfl) (Eq.mpr (law2_InsnBack.eq R pA pn pc bA bn bc w) h)

/-! ### riddle/riddlelaw2.InsnJoins: function 6 -/
noncomputable def law2_InsnJoins.body : Code := bodyOf Try.f6
def law2_InsnJoins.live : Nat → List Nat
  | _ => []
def law2_InsnJoins.J1 (R : Value → World → Prop) (t4 : Bool) (w : World) : Prop :=
  R (.bool t4) w

def law2_InsnJoins.J0 (R : Value → World → Prop) (pA : Option Addr) (pn : Nat) (pc : Nat) (qA : Option Addr) (qn : Nat) (qc : Nat) (t20 : Bool) (w : World) : Prop :=
  ifP t20
    (Run Try.prog 15 #[] w fun v w_2 => ∃ t21 : Bool, v = (.bool t21) ∧ R (.bool t21) w_2)
    (Run Try.prog 12 #[(.slice pA pn pc)] w fun v_2 w_3 => ∃ (t24A : Option Addr) (t24n t24c : Nat), v_2 = (.slice t24A t24n t24c) ∧ Run Try.prog 10 #[(.slice t24A t24n t24c)] w_3 fun v_3 w_4 => ∃ (t250A : Option Addr) (t250n t250c : Nat), ∃ t251 : Int, v_3 = (.tuple #[(.slice t250A t250n t250c), (.int .i64 t251)]) ∧ Run Try.prog 12 #[(.slice qA qn qc)] w_4 fun v_4 w_5 => ∃ (t30A : Option Addr) (t30n t30c : Nat), v_4 = (.slice t30A t30n t30c) ∧ Run Try.prog 10 #[(.slice t30A t30n t30c)] w_5 fun v_5 w_6 => ∃ (t310A : Option Addr) (t310n t310c : Nat), ∃ t311 : Int, v_5 = (.tuple #[(.slice t310A t310n t310c), (.int .i64 t311)]) ∧ Run Try.prog 12 #[(.slice pA pn pc)] w_6 fun v_6 w_7 => ∃ (t36A : Option Addr) (t36n t36c : Nat), v_6 = (.slice t36A t36n t36c) ∧ ∃ (v_7 : Value) (w_8 : World), (Builtin.append_ #[22, 22] 22 #[(.slice t36A t36n t36c), (.slice qA qn qc)]).run Try.prog w_7 = .ok v_7 w_8 ∧ ∃ (t38A : Option Addr) (t38n t38c : Nat), v_7 = (.slice t38A t38n t38c) ∧ Run Try.prog 10 #[(.slice t38A t38n t38c)] w_8 fun v_8 w_9 => ∃ (t390A : Option Addr) (t390n t390c : Nat), ∃ t391 : Int, v_8 = (.tuple #[(.slice t390A t390n t390c), (.int .i64 t391)]) ∧ letW (w_9.alloc (.cells #[(.slice t250A t250n t250c), (.slice t310A t310n t310c)] 23)) fun w_10 => Run Try.prog 23 #[(.slice (some (newA w_9)) 2 2)] w_10 fun v_9 w_11 => ∃ (t46A : Option Addr) (t46n t46c : Nat), v_9 = (.slice t46A t46n t46c) ∧ Run Try.prog 18 #[(.slice t46A t46n t46c)] w_11 fun v_10 w_12 => ∃ (t470A : Option Addr) (t470n t470c : Nat), ∃ t471 : Int, v_10 = (.tuple #[(.slice t470A t470n t470c), (.int .i64 t471)]) ∧ ifP ((t251 : Int) == 0) (ifP ((t311 : Int) == 0) (ifP ((t391 : Int) == 0) (ifP ((t471 : Int) == 0) (letW (w_12.alloc (.cells #[(.slice t250A t250n t250c), (.slice t310A t310n t310c)] 23)) fun w_13 => Run Try.prog 23 #[(.slice (some (newA w_12)) 2 2)] w_13 fun v_11 w_14 => ∃ (t69A : Option Addr) (t69n t69c : Nat), v_11 = (.slice t69A t69n t69c) ∧ Run Try.prog 13 #[(.slice t390A t390n t390c), (.slice t69A t69n t69c)] w_14 fun v_12 w_15 => ∃ t70 : Bool, v_12 = (.bool t70) ∧ ifP t70 (Run Try.prog 12 #[(.slice pA pn pc)] w_15 fun v_13 w_16 => ∃ (t75A : Option Addr) (t75n t75c : Nat), v_13 = (.slice t75A t75n t75c) ∧ ∃ (v_14 : Value) (w_17 : World), (Builtin.append_ #[22, 22] 22 #[(.slice t75A t75n t75c), (.slice qA qn qc)]).run Try.prog w_16 = .ok v_14 w_17 ∧ ∃ (t77A : Option Addr) (t77n t77c : Nat), v_14 = (.slice t77A t77n t77c) ∧ Run Try.prog 21 #[(.slice t470A t470n t470c), (.slice t77A t77n t77c)] w_17 fun v_15 w_18 => ∃ t78 : Bool, v_15 = (.bool t78) ∧ ifP t78 (Run Try.prog 15 #[] w_18 fun v_16 w_19 => ∃ t81 : Bool, v_16 = (.bool t81) ∧ law2_InsnJoins.J1 R t81 w_19) (law2_InsnJoins.J1 R false w_18)) (law2_InsnJoins.J1 R false w_15)) (law2_InsnJoins.J1 R false w_12)) (law2_InsnJoins.J1 R false w_12)) (law2_InsnJoins.J1 R false w_12)) (law2_InsnJoins.J1 R false w_12))

@[reducible] def law2_InsnJoins.vc (R : Value → World → Prop) (pA : Option Addr) (pn : Nat) (pc : Nat) (qA : Option Addr) (qn : Nat) (qc : Nat) (w : World) : Prop :=
  ifP (decide ((((pn : Nat) : Int) : Int) > 2048)) (law2_InsnJoins.J0 R pA pn pc qA qn qc true w) (law2_InsnJoins.J0 R pA pn pc qA qn qc (decide ((((qn : Nat) : Int) : Int) > 2048)) w)

theorem law2_InsnJoins.eq (R : Value → World → Prop) (pA : Option Addr) (pn : Nat) (pc : Nat) (qA : Option Addr) (qn : Nat) (qc : Nat) (w : World) : fnVC Try.prog law2_InsnJoins.live Try.f6 R [(.slice pA pn pc), (.slice qA qn qc)] w = law2_InsnJoins.vc R pA pn pc qA qn qc w := by kernel_rfl
theorem law2_InsnJoins.ok {R : Value → World → Prop} {pA : Option Addr} {pn : Nat} {pc : Nat} {qA : Option Addr} {qn : Nat} {qc : Nat} {w : World} (h : law2_InsnJoins.vc R pA pn pc qA qn qc w) : Run Try.prog 6 #[(.slice pA pn pc), (.slice qA qn qc)] w R :=
  fn_sound (args := [(.slice pA pn pc), (.slice qA qn qc)]) Try.mixed Try.func6 (by kernel_rfl) (Eq.mpr (law2_InsnJoins.eq R pA pn pc qA qn qc w) h)

/-! ### riddle/insn.looksAtK: function 34 -/
noncomputable def insn_looksAtK.body : Code := bodyOf Try.f34
def insn_looksAtK.live : Nat → List Nat
  | _ => []
def insn_looksAtK.J1 (R : Value → World → Prop) (t2 : Bool) (w : World) : Prop :=
  R (.bool t2) w

def insn_looksAtK.J0 (R : Value → World → Prop) (code_ : Int) (t4 : Bool) (w : World) : Prop :=
  ifP t4
    (R (.bool false) w)
    (Run Try.prog 40 #[(.int .u16 code_)] w fun v w_2 => ∃ t12 : Bool, v = (.bool t12) ∧ ifP (!t12) (Run Try.prog 35 #[(.int .u16 code_)] w_2 fun v_2 w_3 => ∃ t16 : Bool, v_2 = (.bool t16) ∧ ifP (!t16) (insn_looksAtK.J1 R true w_3) (insn_looksAtK.J1 R ((andI .u16 code_ 8 : Int) == 0) w_3)) (insn_looksAtK.J1 R ((andI .u16 code_ 8 : Int) == 0) w_2))

@[reducible] def insn_looksAtK.vc (R : Value → World → Prop) (code_ : Int) (w : World) : Prop :=
  ifP ((code_ : Int) == 128)
    (insn_looksAtK.J0 R code_ ((code_ : Int) == 128) w)
    (ifP ((code_ : Int) == 129)
    (insn_looksAtK.J0 R code_ ((code_ : Int) == 129) w)
    (ifP ((code_ : Int) == 132)
    (insn_looksAtK.J0 R code_ ((code_ : Int) == 132) w)
    (ifP ((code_ : Int) == 22)
    (insn_looksAtK.J0 R code_ ((code_ : Int) == 22) w)
    (ifP ((code_ : Int) == 7)
    (insn_looksAtK.J0 R code_ ((code_ : Int) == 7) w)
    (insn_looksAtK.J0 R code_ ((code_ : Int) == 135) w)))))

theorem insn_looksAtK.eq (R : Value → World → Prop) (code_ : Int) (w : World) : fnVC Try.prog insn_looksAtK.live Try.f34 R [(.int .u16 code_)] w = insn_looksAtK.vc R code_ w := by kernel_rfl
theorem insn_looksAtK.ok {R : Value → World → Prop} {code_ : Int} {w : World} (h : insn_looksAtK.vc R code_ w) : Run Try.prog 34 #[(.int .u16 code_)] w R :=
  fn_sound (args := [(.int .u16 code_)]) Try.mixed Try.func34 (by kernel_rfl) (Eq.mpr (insn_looksAtK.eq R code_ w) h)

/-! ### riddle/insn.mayFault: function 36 -/
noncomputable def insn_mayFault.body : Code := bodyOf Try.f36
def insn_mayFault.live : Nat → List Nat
  | _ => []
def insn_mayFault.J0 (R : Value → World → Prop) (t4 : Bool) (w : World) : Prop :=
  ifP t4
    (R (.bool true) w)
    (R (.bool false) w)

@[reducible] def insn_mayFault.vc (R : Value → World → Prop) (code_ : Int) (w : World) : Prop :=
  ifP ((code_ : Int) == 32)
    (insn_mayFault.J0 R ((code_ : Int) == 32) w)
    (ifP ((code_ : Int) == 40)
    (insn_mayFault.J0 R ((code_ : Int) == 40) w)
    (ifP ((code_ : Int) == 48)
    (insn_mayFault.J0 R ((code_ : Int) == 48) w)
    (ifP ((code_ : Int) == 64)
    (insn_mayFault.J0 R ((code_ : Int) == 64) w)
    (ifP ((code_ : Int) == 72)
    (insn_mayFault.J0 R ((code_ : Int) == 72) w)
    (ifP ((code_ : Int) == 80)
    (insn_mayFault.J0 R ((code_ : Int) == 80) w)
    (ifP ((code_ : Int) == 177)
    (insn_mayFault.J0 R ((code_ : Int) == 177) w)
    (ifP ((code_ : Int) == 60)
    (insn_mayFault.J0 R ((code_ : Int) == 60) w)
    (insn_mayFault.J0 R ((code_ : Int) == 156) w))))))))

theorem insn_mayFault.eq (R : Value → World → Prop) (code_ : Int) (w : World) : fnVC Try.prog insn_mayFault.live Try.f36 R [(.int .u16 code_)] w = insn_mayFault.vc R code_ w := by kernel_rfl
theorem insn_mayFault.ok {R : Value → World → Prop} {code_ : Int} {w : World} (h : insn_mayFault.vc R code_ w) : Run Try.prog 36 #[(.int .u16 code_)] w R :=
  fn_sound (args := [(.int .u16 code_)]) Try.mixed Try.func36 (by kernel_rfl) (Eq.mpr (insn_mayFault.eq R code_ w) h)

/-! ### riddle/insn.Uses: function 24 -/
noncomputable def insn_Uses.body : Code := bodyOf Try.f24
def insn_Uses.live : Nat → List Nat
  | _ => []
@[reducible] def insn_Uses.vc (R : Value → World → Prop) (code_ : Int) (w : World) : Prop :=
  Run Try.prog 26 #[(.int .u16 code_)] w fun v w_2 => ∃ t6 : Bool, v = (.bool t6) ∧ ifP (!t6)
    (R (.tuple #[(.bool false), (.bool false), (.bool false)]) w_2)
    (Run Try.prog 34 #[(.int .u16 code_)] w_2 fun v_2 w_3 => ∃ t9 : Bool, v_2 = (.bool t9) ∧ Run Try.prog 35 #[(.int .u16 code_)] w_3 fun v_3 w_4 => ∃ t11 : Bool, v_3 = (.bool t11) ∧ Run Try.prog 36 #[(.int .u16 code_)] w_4 fun v_4 w_5 => ∃ t13 : Bool, v_4 = (.bool t13) ∧ R (.tuple #[(.bool t9), (.bool t11), (.bool t13)]) w_5)

theorem insn_Uses.eq (R : Value → World → Prop) (code_ : Int) (w : World) : fnVC Try.prog insn_Uses.live Try.f24 R [(.int .u16 code_)] w = insn_Uses.vc R code_ w := by kernel_rfl
theorem insn_Uses.ok {R : Value → World → Prop} {code_ : Int} {w : World} (h : insn_Uses.vc R code_ w) : Run Try.prog 24 #[(.int .u16 code_)] w R :=
  fn_sound (args := [(.int .u16 code_)]) Try.mixed Try.func24 (by kernel_rfl) (Eq.mpr (insn_Uses.eq R code_ w) h)

/-! ### riddle/riddleref2.Jump: function 38 -/
noncomputable def ref2_Jump.body : Code := bodyOf Try.f38
def ref2_Jump.live : Nat → List Nat
  | _ => []
def ref2_Jump.J0 (R : Value → World → Prop) (t4 : Bool) (w : World) : Prop :=
  ifP t4
    (R (.bool true) w)
    (R (.bool false) w)

@[reducible] def ref2_Jump.vc (R : Value → World → Prop) (code_ : Int) (w : World) : Prop :=
  ifP ((code_ : Int) == 21)
    (ref2_Jump.J0 R ((code_ : Int) == 21) w)
    (ifP ((code_ : Int) == 29)
    (ref2_Jump.J0 R ((code_ : Int) == 29) w)
    (ifP ((code_ : Int) == 37)
    (ref2_Jump.J0 R ((code_ : Int) == 37) w)
    (ifP ((code_ : Int) == 45)
    (ref2_Jump.J0 R ((code_ : Int) == 45) w)
    (ifP ((code_ : Int) == 53)
    (ref2_Jump.J0 R ((code_ : Int) == 53) w)
    (ifP ((code_ : Int) == 61)
    (ref2_Jump.J0 R ((code_ : Int) == 61) w)
    (ifP ((code_ : Int) == 69)
    (ref2_Jump.J0 R ((code_ : Int) == 69) w)
    (ref2_Jump.J0 R ((code_ : Int) == 77) w)))))))

theorem ref2_Jump.eq (R : Value → World → Prop) (code_ : Int) (w : World) : fnVC Try.prog ref2_Jump.live Try.f38 R [(.int .u16 code_)] w = ref2_Jump.vc R code_ w := by kernel_rfl
theorem ref2_Jump.ok {R : Value → World → Prop} {code_ : Int} {w : World} (h : ref2_Jump.vc R code_ w) : Run Try.prog 38 #[(.int .u16 code_)] w R :=
  fn_sound (args := [(.int .u16 code_)]) Try.mixed Try.func38 (by kernel_rfl) (Eq.mpr (ref2_Jump.eq R code_ w) h)

/-! ### riddle/riddleref2.Operation: function 41 -/
noncomputable def ref2_Operation.body : Code := bodyOf Try.f41
def ref2_Operation.live : Nat → List Nat
  | _ => []
def ref2_Operation.J1 (R : Value → World → Prop) (t17 : Bool) (w : World) : Prop :=
  ifP t17
    (R (.bool true) w)
    (R (.bool false) w)

def ref2_Operation.J0 (R : Value → World → Prop) (t3 : Int) (t4 : Bool) (w : World) : Prop :=
  ifP t4
    (R (.bool true) w)
    (ifP ((t3 : Int) == 100)
    (ref2_Operation.J1 R ((t3 : Int) == 100) w)
    (ifP ((t3 : Int) == 108)
    (ref2_Operation.J1 R ((t3 : Int) == 108) w)
    (ifP ((t3 : Int) == 116)
    (ref2_Operation.J1 R ((t3 : Int) == 116) w)
    (ifP ((t3 : Int) == 124)
    (ref2_Operation.J1 R ((t3 : Int) == 124) w)
    (ifP ((t3 : Int) == 148)
    (ref2_Operation.J1 R ((t3 : Int) == 148) w)
    (ifP ((t3 : Int) == 156)
    (ref2_Operation.J1 R ((t3 : Int) == 156) w)
    (ifP ((t3 : Int) == 164)
    (ref2_Operation.J1 R ((t3 : Int) == 164) w)
    (ref2_Operation.J1 R ((t3 : Int) == 172) w))))))))

@[reducible] def ref2_Operation.vc (R : Value → World → Prop) (code_ : Int) (w : World) : Prop :=
  ifP ((code_ : Int) == 4)
    (ref2_Operation.J0 R code_ ((code_ : Int) == 4) w)
    (ifP ((code_ : Int) == 12)
    (ref2_Operation.J0 R code_ ((code_ : Int) == 12) w)
    (ifP ((code_ : Int) == 20)
    (ref2_Operation.J0 R code_ ((code_ : Int) == 20) w)
    (ifP ((code_ : Int) == 28)
    (ref2_Operation.J0 R code_ ((code_ : Int) == 28) w)
    (ifP ((code_ : Int) == 36)
    (ref2_Operation.J0 R code_ ((code_ : Int) == 36) w)
    (ifP ((code_ : Int) == 44)
    (ref2_Operation.J0 R code_ ((code_ : Int) == 44) w)
    (ifP ((code_ : Int) == 52)
    (ref2_Operation.J0 R code_ ((code_ : Int) == 52) w)
    (ifP ((code_ : Int) == 60)
    (ref2_Operation.J0 R code_ ((code_ : Int) == 60) w)
    (ifP ((code_ : Int) == 68)
    (ref2_Operation.J0 R code_ ((code_ : Int) == 68) w)
    (ifP ((code_ : Int) == 76)
    (ref2_Operation.J0 R code_ ((code_ : Int) == 76) w)
    (ifP ((code_ : Int) == 84)
    (ref2_Operation.J0 R code_ ((code_ : Int) == 84) w)
    (ref2_Operation.J0 R code_ ((code_ : Int) == 92) w)))))))))))

theorem ref2_Operation.eq (R : Value → World → Prop) (code_ : Int) (w : World) : fnVC Try.prog ref2_Operation.live Try.f41 R [(.int .u16 code_)] w = ref2_Operation.vc R code_ w := by kernel_rfl
theorem ref2_Operation.ok {R : Value → World → Prop} {code_ : Int} {w : World} (h : ref2_Operation.vc R code_ w) : Run Try.prog 41 #[(.int .u16 code_)] w R :=
  fn_sound (args := [(.int .u16 code_)]) Try.mixed Try.func41 (by kernel_rfl) (Eq.mpr (ref2_Operation.eq R code_ w) h)

/-! ### riddle/riddleref2.Known: function 27 -/
noncomputable def ref2_Known.body : Code := bodyOf Try.f27
def ref2_Known.live : Nat → List Nat
  | _ => []
def ref2_Known.J2 (R : Value → World → Prop) (t2 : Bool) (w : World) : Prop :=
  R (.bool t2) w

def ref2_Known.J1 (R : Value → World → Prop) (code_ : Int) (t14 : Bool) (w : World) : Prop :=
  ifP t14
    (R (.bool true) w)
    (Run Try.prog 38 #[(.int .u16 code_)] w fun v w_2 => ∃ t28 : Bool, v = (.bool t28) ∧ ifP t28 (ref2_Known.J2 R true w_2) (Run Try.prog 41 #[(.int .u16 code_)] w_2 fun v_2 w_3 => ∃ t31 : Bool, v_2 = (.bool t31) ∧ ref2_Known.J2 R t31 w_3))

def ref2_Known.J0 (R : Value → World → Prop) (code_ : Int) (t3 : Int) (t4 : Bool) (w : World) : Prop :=
  ifP t4
    (R (.bool true) w)
    (ifP ((t3 : Int) == 1)
    (ref2_Known.J1 R code_ ((t3 : Int) == 1) w)
    (ifP ((t3 : Int) == 97)
    (ref2_Known.J1 R code_ ((t3 : Int) == 97) w)
    (ifP ((t3 : Int) == 129)
    (ref2_Known.J1 R code_ ((t3 : Int) == 129) w)
    (ifP ((t3 : Int) == 177)
    (ref2_Known.J1 R code_ ((t3 : Int) == 177) w)
    (ifP ((t3 : Int) == 2)
    (ref2_Known.J1 R code_ ((t3 : Int) == 2) w)
    (ifP ((t3 : Int) == 3)
    (ref2_Known.J1 R code_ ((t3 : Int) == 3) w)
    (ifP ((t3 : Int) == 132)
    (ref2_Known.J1 R code_ ((t3 : Int) == 132) w)
    (ifP ((t3 : Int) == 6)
    (ref2_Known.J1 R code_ ((t3 : Int) == 6) w)
    (ifP ((t3 : Int) == 22)
    (ref2_Known.J1 R code_ ((t3 : Int) == 22) w)
    (ifP ((t3 : Int) == 7)
    (ref2_Known.J1 R code_ ((t3 : Int) == 7) w)
    (ifP ((t3 : Int) == 135)
    (ref2_Known.J1 R code_ ((t3 : Int) == 135) w)
    (ref2_Known.J1 R code_ ((t3 : Int) == 5) w))))))))))))

@[reducible] def ref2_Known.vc (R : Value → World → Prop) (code_ : Int) (w : World) : Prop :=
  ifP ((code_ : Int) == 0)
    (ref2_Known.J0 R code_ code_ ((code_ : Int) == 0) w)
    (ifP ((code_ : Int) == 32)
    (ref2_Known.J0 R code_ code_ ((code_ : Int) == 32) w)
    (ifP ((code_ : Int) == 40)
    (ref2_Known.J0 R code_ code_ ((code_ : Int) == 40) w)
    (ifP ((code_ : Int) == 48)
    (ref2_Known.J0 R code_ code_ ((code_ : Int) == 48) w)
    (ifP ((code_ : Int) == 64)
    (ref2_Known.J0 R code_ code_ ((code_ : Int) == 64) w)
    (ifP ((code_ : Int) == 72)
    (ref2_Known.J0 R code_ code_ ((code_ : Int) == 72) w)
    (ifP ((code_ : Int) == 80)
    (ref2_Known.J0 R code_ code_ ((code_ : Int) == 80) w)
    (ifP ((code_ : Int) == 96)
    (ref2_Known.J0 R code_ code_ ((code_ : Int) == 96) w)
    (ref2_Known.J0 R code_ code_ ((code_ : Int) == 128) w))))))))

theorem ref2_Known.eq (R : Value → World → Prop) (code_ : Int) (w : World) : fnVC Try.prog ref2_Known.live Try.f27 R [(.int .u16 code_)] w = ref2_Known.vc R code_ w := by kernel_rfl
theorem ref2_Known.ok {R : Value → World → Prop} {code_ : Int} {w : World} (h : ref2_Known.vc R code_ w) : Run Try.prog 27 #[(.int .u16 code_)] w R :=
  fn_sound (args := [(.int .u16 code_)]) Try.mixed Try.func27 (by kernel_rfl) (Eq.mpr (ref2_Known.eq R code_ w) h)

/-! ### riddle/riddleref2.ByX: function 37 -/
noncomputable def ref2_ByX.body : Code := bodyOf Try.f37
def ref2_ByX.live : Nat → List Nat
  | _ => []
def ref2_ByX.J0 (R : Value → World → Prop) (t2 : Bool) (w : World) : Prop :=
  R (.bool t2) w

@[reducible] def ref2_ByX.vc (R : Value → World → Prop) (code_ : Int) (w : World) : Prop :=
  Run Try.prog 38 #[(.int .u16 code_)] w fun v w_2 => ∃ t4 : Bool, v = (.bool t4) ∧ ifP t4 (ref2_ByX.J0 R ((andI .u16 code_ 8 : Int) != 0) w_2) (Run Try.prog 41 #[(.int .u16 code_)] w_2 fun v_2 w_3 => ∃ t7 : Bool, v_2 = (.bool t7) ∧ ifP t7 (ref2_ByX.J0 R ((andI .u16 code_ 8 : Int) != 0) w_3) (ref2_ByX.J0 R false w_3))

theorem ref2_ByX.eq (R : Value → World → Prop) (code_ : Int) (w : World) : fnVC Try.prog ref2_ByX.live Try.f37 R [(.int .u16 code_)] w = ref2_ByX.vc R code_ w := by kernel_rfl
theorem ref2_ByX.ok {R : Value → World → Prop} {code_ : Int} {w : World} (h : ref2_ByX.vc R code_ w) : Run Try.prog 37 #[(.int .u16 code_)] w R :=
  fn_sound (args := [(.int .u16 code_)]) Try.mixed Try.func37 (by kernel_rfl) (Eq.mpr (ref2_ByX.eq R code_ w) h)

/-! ### riddle/riddleref2.Load: function 39 -/
noncomputable def ref2_Load.body : Code := bodyOf Try.f39
def ref2_Load.live : Nat → List Nat
  | _ => []
def ref2_Load.J0 (R : Value → World → Prop) (t4 : Bool) (w : World) : Prop :=
  ifP t4
    (R (.bool true) w)
    (R (.bool false) w)

@[reducible] def ref2_Load.vc (R : Value → World → Prop) (code_ : Int) (w : World) : Prop :=
  ifP ((code_ : Int) == 32)
    (ref2_Load.J0 R ((code_ : Int) == 32) w)
    (ifP ((code_ : Int) == 40)
    (ref2_Load.J0 R ((code_ : Int) == 40) w)
    (ifP ((code_ : Int) == 48)
    (ref2_Load.J0 R ((code_ : Int) == 48) w)
    (ifP ((code_ : Int) == 64)
    (ref2_Load.J0 R ((code_ : Int) == 64) w)
    (ifP ((code_ : Int) == 72)
    (ref2_Load.J0 R ((code_ : Int) == 72) w)
    (ifP ((code_ : Int) == 80)
    (ref2_Load.J0 R ((code_ : Int) == 80) w)
    (ref2_Load.J0 R ((code_ : Int) == 177) w))))))

theorem ref2_Load.eq (R : Value → World → Prop) (code_ : Int) (w : World) : fnVC Try.prog ref2_Load.live Try.f39 R [(.int .u16 code_)] w = ref2_Load.vc R code_ w := by kernel_rfl
theorem ref2_Load.ok {R : Value → World → Prop} {code_ : Int} {w : World} (h : ref2_Load.vc R code_ w) : Run Try.prog 39 #[(.int .u16 code_)] w R :=
  fn_sound (args := [(.int .u16 code_)]) Try.mixed Try.func39 (by kernel_rfl) (Eq.mpr (ref2_Load.eq R code_ w) h)

/-! ### riddle/riddleref2.Uses: function 25 -/
noncomputable def ref2_Uses.body : Code := bodyOf Try.f25
def ref2_Uses.live : Nat → List Nat
  | _ => []
def ref2_Uses.J2 (R : Value → World → Prop) (t2 : Bool) (t3 : Bool) (t4 : Bool) (w : World) : Prop :=
  R (.tuple #[(.bool t2), (.bool t3), (.bool t4)]) w

def ref2_Uses.J1 (R : Value → World → Prop) (code_ : Int) (k : Bool) (w : World) : Prop :=
  Run Try.prog 38 #[(.int .u16 code_)] w fun v w_2 => ∃ t22 : Bool, v = (.bool t22) ∧ Run Try.prog 39 #[(.int .u16 code_)] w_2 fun v_2 w_3 => ∃ t24 : Bool, v_2 = (.bool t24) ∧ ifP t24 (ref2_Uses.J2 R k t22 true w_3) (ifP ((code_ : Int) == 60) (ref2_Uses.J2 R k t22 true w_3) (ref2_Uses.J2 R k t22 ((code_ : Int) == 156) w_3))

def ref2_Uses.J0 (R : Value → World → Prop) (code_ : Int) (k : Bool) (t13 : Bool) (w : World) : Prop :=
  ifP t13
    (ref2_Uses.J1 R code_ false w)
    (ref2_Uses.J1 R code_ k w)

@[reducible] def ref2_Uses.vc (R : Value → World → Prop) (code_ : Int) (w : World) : Prop :=
  Run Try.prog 27 #[(.int .u16 code_)] w fun v w_2 => ∃ t7 : Bool, v = (.bool t7) ∧ ifP (!t7)
    (R (.tuple #[(.bool false), (.bool false), (.bool false)]) w_2)
    (Run Try.prog 37 #[(.int .u16 code_)] w_2 fun v_2 w_3 => ∃ t10 : Bool, v_2 = (.bool t10) ∧ ifP ((code_ : Int) == 128)
    (ref2_Uses.J0 R code_ (!t10) ((code_ : Int) == 128) w_3)
    (ifP ((code_ : Int) == 129)
    (ref2_Uses.J0 R code_ (!t10) ((code_ : Int) == 129) w_3)
    (ifP ((code_ : Int) == 132)
    (ref2_Uses.J0 R code_ (!t10) ((code_ : Int) == 132) w_3)
    (ifP ((code_ : Int) == 22)
    (ref2_Uses.J0 R code_ (!t10) ((code_ : Int) == 22) w_3)
    (ifP ((code_ : Int) == 7)
    (ref2_Uses.J0 R code_ (!t10) ((code_ : Int) == 7) w_3)
    (ref2_Uses.J0 R code_ (!t10) ((code_ : Int) == 135) w_3))))))

theorem ref2_Uses.eq (R : Value → World → Prop) (code_ : Int) (w : World) : fnVC Try.prog ref2_Uses.live Try.f25 R [(.int .u16 code_)] w = ref2_Uses.vc R code_ w := by kernel_rfl
theorem ref2_Uses.ok {R : Value → World → Prop} {code_ : Int} {w : World} (h : ref2_Uses.vc R code_ w) : Run Try.prog 25 #[(.int .u16 code_)] w R :=
  fn_sound (args := [(.int .u16 code_)]) Try.mixed Try.func25 (by kernel_rfl) (Eq.mpr (ref2_Uses.eq R code_ w) h)

/-! ### riddle/riddleref2.Class: function 29 -/
noncomputable def ref2_Class.body : Code := bodyOf Try.f29
def ref2_Class.live : Nat → List Nat
  | _ => []
@[reducible] def ref2_Class.vc (R : Value → World → Prop) (code_ : Int) (w : World) : Prop :=
  Run Try.prog 27 #[(.int .u16 code_)] w fun v w_2 => ∃ t4 : Bool, v = (.bool t4) ∧ ifP (!t4)
    (R (.int .i64 (-1)) w_2)
    (R (.int .i64 (IntKind.i64.wrap (andI .u16 code_ 7))) w_2)

theorem ref2_Class.eq (R : Value → World → Prop) (code_ : Int) (w : World) : fnVC Try.prog ref2_Class.live Try.f29 R [(.int .u16 code_)] w = ref2_Class.vc R code_ w := by kernel_rfl
theorem ref2_Class.ok {R : Value → World → Prop} {code_ : Int} {w : World} (h : ref2_Class.vc R code_ w) : Run Try.prog 29 #[(.int .u16 code_)] w R :=
  fn_sound (args := [(.int .u16 code_)]) Try.mixed Try.func29 (by kernel_rfl) (Eq.mpr (ref2_Class.eq R code_ w) h)

/-! ### riddle/riddlelaw2.InsnCodes: function 7 -/
noncomputable def law2_InsnCodes.body : Code := bodyOf Try.f7
def law2_InsnCodes.live : Nat → List Nat
  | 0 => [0, 3, 4]
  | _ => []
noncomputable def law2_InsnCodes.c0 : Code := sub law2_InsnCodes.body [1, 1, 0, 1, 0, 0]
def law2_InsnCodes.K0 (R : Value → World → Prop) : Ex → St → World → Prop := (blockK 0 (thenK (fun st w => code Try.prog law2_InsnCodes.live 0 (sub law2_InsnCodes.body [1, 1, 1]) (retK Try.prog Try.f7 R) st w) (retK Try.prog Try.f7 R)))
def law2_InsnCodes.L0 (R : Value → World → Prop) (code_ : Int) (many : Int) (i : Int) (w : World) : Prop :=
  loopVC (fun K => code Try.prog law2_InsnCodes.live 0 law2_InsnCodes.c0 K) (law2_InsnCodes.live 0) (law2_InsnCodes.K0 R) [(.int .u16 code_), undef, undef, (.int .i64 many), (.int .i64 i), undef, undef, undef, undef, undef, undef, undef, undef, undef, undef, undef, undef, undef, undef, undef, undef, undef, undef, undef, undef, undef, undef, undef, undef, undef, undef, undef, undef, undef, undef, undef, undef, undef, undef, undef, undef, undef, undef, undef, undef, undef, undef, undef, undef, undef, undef, undef, undef, undef, undef, undef, undef, undef, undef, undef, undef, undef, undef, undef, undef, undef, undef, undef, undef, undef, undef, undef, undef] w
def law2_InsnCodes.J3 (R : Value → World → Prop) (code_ : Int) (many : Int) (i : Int) (w : World) : Prop :=
  law2_InsnCodes.L0 R code_ many (IntKind.i64.wrap (i + 1)) w

def law2_InsnCodes.J2 (R : Value → World → Prop) (code_ : Int) (many : Int) (i : Int) (t65 : Bool) (w : World) : Prop :=
  ifP t65
    (law2_InsnCodes.J3 R code_ (IntKind.i64.wrap (many + 1)) i w)
    (law2_InsnCodes.J3 R code_ many i w)

def law2_InsnCodes.J1 (R : Value → World → Prop) (code_ : Int) (many : Int) (i : Int) (c : Int) (t59 : Bool) (w : World) : Prop :=
  ifP t59
    (R (.bool false) w)
    (ifP (decide ((i : Int) < 256)) (Run Try.prog 26 #[(.int .u16 c)] w fun v w_2 => ∃ t64 : Bool, v = (.bool t64) ∧ law2_InsnCodes.J2 R code_ many i t64 w_2) (law2_InsnCodes.J2 R code_ many i false w))

def law2_InsnCodes.J0 (R : Value → World → Prop) (code_ : Int) (many : Int) (i : Int) (c : Int) (w : World) : Prop :=
  Run Try.prog 24 #[(.int .u16 c)] w fun v w_2 => ∃ t230 : Bool, ∃ t231 : Bool, ∃ t232 : Bool, v = (.tuple #[(.bool t230), (.bool t231), (.bool t232)]) ∧ Run Try.prog 25 #[(.int .u16 c)] w_2 fun v_2 w_3 => ∃ t290 : Bool, ∃ t291 : Bool, ∃ t292 : Bool, v_2 = (.tuple #[(.bool t290), (.bool t291), (.bool t292)]) ∧ Run Try.prog 26 #[(.int .u16 c)] w_3 fun v_3 w_4 => ∃ t34 : Bool, v_3 = (.bool t34) ∧ Run Try.prog 27 #[(.int .u16 c)] w_4 fun v_4 w_5 => ∃ t36 : Bool, v_4 = (.bool t36) ∧ ifP (!(t34 == t36)) (law2_InsnCodes.J1 R code_ many i c true w_5) (Run Try.prog 28 #[(.int .u16 c)] w_5 fun v_5 w_6 => ∃ t40 : Int, v_5 = (.int .i64 t40) ∧ Run Try.prog 29 #[(.int .u16 c)] w_6 fun v_6 w_7 => ∃ t42 : Int, v_6 = (.int .i64 t42) ∧ ifP ((t40 : Int) != t42) (law2_InsnCodes.J1 R code_ many i c true w_7) (ifP (!(t230 == t290)) (law2_InsnCodes.J1 R code_ many i c true w_7) (ifP (!(t231 == t291)) (law2_InsnCodes.J1 R code_ many i c true w_7) (law2_InsnCodes.J1 R code_ many i c (!(t232 == t292)) w_7))))

def law2_InsnCodes.J4 (R : Value → World → Prop) (t2 : Bool) (w : World) : Prop :=
  R (.bool t2) w

@[reducible] def law2_InsnCodes.B0 (R : Value → World → Prop) (code_ : Int) (many : Int) (i : Int) (w : World) : Prop :=
  ifP (decide ((i : Int) < 257))
    (ifP ((i : Int) == 256)
    (law2_InsnCodes.J0 R code_ many i code_ w)
    (law2_InsnCodes.J0 R code_ many i (IntKind.u16.wrap i) w))
    (ifP ((many : Int) == 49) (Run Try.prog 15 #[] w fun v w_2 => ∃ t71 : Bool, v = (.bool t71) ∧ law2_InsnCodes.J4 R t71 w_2) (law2_InsnCodes.J4 R false w))

@[reducible] def law2_InsnCodes.vc (R : Value → World → Prop) (code_ : Int) (w : World) : Prop :=
  law2_InsnCodes.L0 R code_ 0 0 w

theorem law2_InsnCodes.B0_eq (R : Value → World → Prop) (code_ : Int) (many : Int) (i : Int) (w : World) (ts : Nat → Value) :
    code Try.prog law2_InsnCodes.live 0 law2_InsnCodes.c0 (thenK (fun st w => loopVC (fun K => code Try.prog law2_InsnCodes.live 0 law2_InsnCodes.c0 K) (law2_InsnCodes.live 0) (law2_InsnCodes.K0 R) (clearFrom (law2_InsnCodes.live 0) 0 st) w) (law2_InsnCodes.K0 R)) (mergeFrom (law2_InsnCodes.live 0) ts 0 (clearFrom (law2_InsnCodes.live 0) 0 [(.int .u16 code_), undef, undef, (.int .i64 many), (.int .i64 i), undef, undef, undef, undef, undef, undef, undef, undef, undef, undef, undef, undef, undef, undef, undef, undef, undef, undef, undef, undef, undef, undef, undef, undef, undef, undef, undef, undef, undef, undef, undef, undef, undef, undef, undef, undef, undef, undef, undef, undef, undef, undef, undef, undef, undef, undef, undef, undef, undef, undef, undef, undef, undef, undef, undef, undef, undef, undef, undef, undef, undef, undef, undef, undef, undef, undef, undef, undef])) w = law2_InsnCodes.B0 R code_ many i w := by kernel_rfl
theorem law2_InsnCodes.L0_step {R : Value → World → Prop} {code_ : Int} {many : Int} {i : Int} {w : World} (h : law2_InsnCodes.B0 R code_ many i w) : law2_InsnCodes.L0 R code_ many i w :=
  loop_step (live := law2_InsnCodes.live) (b := 0) (x := law2_InsnCodes.c0) fun ts => Eq.mpr (law2_InsnCodes.B0_eq R code_ many i w ts) h
theorem law2_InsnCodes.eq (R : Value → World → Prop) (code_ : Int) (w : World) : fnVC Try.prog law2_InsnCodes.live Try.f7 R [(.int .u16 code_)] w = law2_InsnCodes.vc R code_ w := by kernel_rfl
theorem law2_InsnCodes.ok {R : Value → World → Prop} {code_ : Int} {w : World} (h : law2_InsnCodes.vc R code_ w) : Run Try.prog 7 #[(.int .u16 code_)] w R :=
  fn_sound (args := [(.int .u16 code_)]) Try.mixed Try.func7 (by kernel_rfl) (Eq.mpr (law2_InsnCodes.eq R code_ w) h)

end
end Go.Proofs.Ytbbhjnhcdjjjeaa
