/- Printed by a program of this repo (wip/tools/gen.py) out of Lean's own print of the functions: each function's weakest precondition, and the equation that it is one. -/
import Derived.Test.YthedafjbhnibnaaProg
import Derived.Test.YthedafjbhnibnaaS3
import Derived.KernelRfl
namespace Go.Proofs.Ythedafjbhnibnaa
open Go.Rd
set_option linter.unusedVariables false
set_option maxRecDepth 100000
section
theorem Try.mixed : Try.prog.follows .mixedOrders = true := by kernel_rfl

/-! ### riddle/riddlelaw0.CopyBytes: function 13 -/
noncomputable def law0_CopyBytes.body : Code := bodyOf Try.f13
def law0_CopyBytes.live : Nat → List Nat
  | _ => []
@[reducible] def law0_CopyBytes.vc (R : Value → World → Prop) (aA : Option Addr) (an : Nat) (ac : Nat) (w : World) : Prop :=
  letW (w.alloc (.cells #[] 5)) fun w_2 => ∃ (v : Value) (w_3 : World), (Builtin.append_ #[22, 22] 22 #[(.slice (some (newA w)) 0 0), (.slice aA an ac)]).run Try.prog w_2 = .ok v w_3 ∧ ∃ (t5A : Option Addr) (t5n t5c : Nat), v = (.slice t5A t5n t5c) ∧ R (.slice t5A t5n t5c) w_3

theorem law0_CopyBytes.eq (R : Value → World → Prop) (aA : Option Addr) (an : Nat) (ac : Nat) (w : World) : fnVC Try.prog law0_CopyBytes.live Try.f13 R [(.slice aA an ac)] w = law0_CopyBytes.vc R aA an ac w := by kernel_rfl
theorem law0_CopyBytes.ok {R : Value → World → Prop} {aA : Option Addr} {an : Nat} {ac : Nat} {w : World} (h : law0_CopyBytes.vc R aA an ac w) : Run Try.prog 13 #[(.slice aA an ac)] w R :=
  fn_sound (args := [(.slice aA an ac)]) Try.mixed Try.func13 (by kernel_rfl) (Eq.mpr (law0_CopyBytes.eq R aA an ac w) h)

/-! ### riddle/riddlelaw0.LendBytes: function 9 -/
noncomputable def law0_LendBytes.body : Code := bodyOf Try.f9
def law0_LendBytes.live : Nat → List Nat
  | _ => []
@[reducible] def law0_LendBytes.vc (R : Value → World → Prop) (aA : Option Addr) (an : Nat) (ac : Nat) (w : World) : Prop :=
  Run Try.prog 13 #[(.slice aA an ac)] w fun v w_2 => ∃ (t5A : Option Addr) (t5n t5c : Nat), v = (.slice t5A t5n t5c) ∧ letW (w_2.alloc (.cells #[(.int .u8 201), (.int .u8 201), (.int .u8 201)] 5)) fun w_3 => ∃ (v_2 : Value) (w_4 : World), (Builtin.append_ #[22, 22] 22 #[(.slice t5A t5n t5c), (.slice (some (newA w_2)) 3 3)]).run Try.prog w_3 = .ok v_2 w_4 ∧ ∃ (t7A : Option Addr) (t7n t7c : Nat), v_2 = (.slice t7A t7n t7c) ∧ (0 : Int) ≤ 0 ∧ (0 : Int) ≤ ((an : Nat) : Int) ∧ (((an : Nat) : Int) : Int) ≤ ((t7c : Nat) : Int) ∧ R (.slice (subA t7A t7c 0 1) ((Int.toNat ((an : Nat) : Int)) - 0) (t7c - 0)) w_4

theorem law0_LendBytes.eq (R : Value → World → Prop) (aA : Option Addr) (an : Nat) (ac : Nat) (w : World) : fnVC Try.prog law0_LendBytes.live Try.f9 R [(.slice aA an ac)] w = law0_LendBytes.vc R aA an ac w := by kernel_rfl
theorem law0_LendBytes.ok {R : Value → World → Prop} {aA : Option Addr} {an : Nat} {ac : Nat} {w : World} (h : law0_LendBytes.vc R aA an ac w) : Run Try.prog 9 #[(.slice aA an ac)] w R :=
  fn_sound (args := [(.slice aA an ac)]) Try.mixed Try.func9 (by kernel_rfl) (Eq.mpr (law0_LendBytes.eq R aA an ac w) h)

/-! ### riddle/word.fits: function 28 -/
noncomputable def word_fits.body : Code := bodyOf Try.f28
def word_fits.live : Nat → List Nat
  | _ => []
def word_fits.J0 (R : Value → World → Prop) (t6 : Bool) (w : World) : Prop :=
  R (.bool t6) w

@[reducible] def word_fits.vc (R : Value → World → Prop) (n : Int) (at_ : Int) (size : Int) (w : World) : Prop :=
  ifP ((size : Int) == 1) (ifP (decide ((at_ : Int) ≥ 0)) (word_fits.J0 R (decide ((at_ : Int) ≤ (IntKind.i64.wrap (n - size)))) w) (word_fits.J0 R false w)) (ifP ((size : Int) == 2) (ifP (decide ((at_ : Int) ≥ 0)) (word_fits.J0 R (decide ((at_ : Int) ≤ (IntKind.i64.wrap (n - size)))) w) (word_fits.J0 R false w)) (ifP ((size : Int) == 4) (ifP (decide ((at_ : Int) ≥ 0)) (word_fits.J0 R (decide ((at_ : Int) ≤ (IntKind.i64.wrap (n - size)))) w) (word_fits.J0 R false w)) (word_fits.J0 R false w)))

theorem word_fits.eq (R : Value → World → Prop) (n : Int) (at_ : Int) (size : Int) (w : World) : fnVC Try.prog word_fits.live Try.f28 R [(.int .i64 n), (.int .i64 at_), (.int .i64 size)] w = word_fits.vc R n at_ size w := by kernel_rfl
theorem word_fits.ok {R : Value → World → Prop} {n : Int} {at_ : Int} {size : Int} {w : World} (h : word_fits.vc R n at_ size w) : Run Try.prog 28 #[(.int .i64 n), (.int .i64 at_), (.int .i64 size)] w R :=
  fn_sound (args := [(.int .i64 n), (.int .i64 at_), (.int .i64 size)]) Try.mixed Try.func28 (by kernel_rfl) (Eq.mpr (word_fits.eq R n at_ size w) h)

/-! ### riddle/word.Get: function 10 -/
noncomputable def word_Get.body : Code := bodyOf Try.f10
def word_Get.live : Nat → List Nat
  | 0 => [8, 22, 23, 24]
  | _ => []
noncomputable def word_Get.c0 : Code := sub word_Get.body [1, 1, 1, 0, 1, 0, 0]
def word_Get.K0 (R : Value → World → Prop) : Ex → St → World → Prop := (blockK 0 (thenK (fun st w => code Try.prog word_Get.live 0 (sub word_Get.body [1, 1, 1, 1]) (retK Try.prog Try.f10 R) st w) (retK Try.prog Try.f10 R)))
def word_Get.L0 (R : Value → World → Prop) (v : Int) (t22A : Option Addr) (t22n : Nat) (t22c : Nat) (t23 : Int) (t24 : Int) (w : World) : Prop :=
  loopVC (fun K => code Try.prog word_Get.live 0 word_Get.c0 K) (word_Get.live 0) (word_Get.K0 R) [undef, undef, undef, undef, undef, undef, undef, undef, (.int .u32 v), undef, undef, undef, undef, undef, undef, undef, undef, undef, undef, undef, undef, undef, (.slice t22A t22n t22c), (.int .i64 t23), (.int .i64 t24), undef, undef, undef, undef, undef, undef, undef, undef, undef, undef] w
@[reducible] def word_Get.B0 (R : Value → World → Prop) (v : Int) (t22A : Option Addr) (t22n : Nat) (t22c : Nat) (t23 : Int) (t24 : Int) (w : World) : Prop :=
  ifP (decide ((t24 : Int) < t23))
    (0 ≤ (t24 : Int) ∧ (t24 : Int) < ((t22n : Nat) : Int) ∧ ∃ t26p : Addr, t22A = some t26p ∧ ∃ t27 : Int, w.cell? (t26p.add (Int.toNat t24 * 1)) = some (.int .u8 t27) ∧ word_Get.L0 R (orI .u32 (IntKind.u32.wrap (v * 2 ^ 8)) (IntKind.u32.wrap t27)) t22A t22n t22c t23 (IntKind.i64.wrap (t24 + 1)) w)
    (R (.tuple #[(.int .u32 v), (.bool true)]) w)

@[reducible] def word_Get.vc (R : Value → World → Prop) (bA : Option Addr) (bn : Nat) (bc : Nat) (at_ : Int) (size : Int) (w : World) : Prop :=
  Run Try.prog 28 #[(.int .i64 ((bn : Nat) : Int)), (.int .i64 at_), (.int .i64 size)] w fun v w_2 => ∃ t15 : Bool, v = (.bool t15) ∧ ifP (!t15)
    (R (.tuple #[(.int .u32 0), (.bool false)]) w_2)
    ((0 : Int) ≤ at_ ∧ (at_ : Int) ≤ IntKind.i64.wrap (at_ + size) ∧ (IntKind.i64.wrap (at_ + size) : Int) ≤ ((bc : Nat) : Int) ∧ word_Get.L0 R 0 (subA bA bc (Int.toNat at_) 1) ((Int.toNat (IntKind.i64.wrap (at_ + size))) - (Int.toNat at_)) (bc - (Int.toNat at_)) (((Int.toNat (IntKind.i64.wrap (at_ + size))) - (Int.toNat at_) : Nat) : Int) 0 w_2)

theorem word_Get.B0_eq (R : Value → World → Prop) (v : Int) (t22A : Option Addr) (t22n : Nat) (t22c : Nat) (t23 : Int) (t24 : Int) (w : World) (ts : Nat → Value) :
    code Try.prog word_Get.live 0 word_Get.c0 (thenK (fun st w => loopVC (fun K => code Try.prog word_Get.live 0 word_Get.c0 K) (word_Get.live 0) (word_Get.K0 R) (clearFrom (word_Get.live 0) 0 st) w) (word_Get.K0 R)) (mergeFrom (word_Get.live 0) ts 0 (clearFrom (word_Get.live 0) 0 [undef, undef, undef, undef, undef, undef, undef, undef, (.int .u32 v), undef, undef, undef, undef, undef, undef, undef, undef, undef, undef, undef, undef, undef, (.slice t22A t22n t22c), (.int .i64 t23), (.int .i64 t24), undef, undef, undef, undef, undef, undef, undef, undef, undef, undef])) w = word_Get.B0 R v t22A t22n t22c t23 t24 w := by kernel_rfl
theorem word_Get.L0_step {R : Value → World → Prop} {v : Int} {t22A : Option Addr} {t22n : Nat} {t22c : Nat} {t23 : Int} {t24 : Int} {w : World} (h : word_Get.B0 R v t22A t22n t22c t23 t24 w) : word_Get.L0 R v t22A t22n t22c t23 t24 w :=
  loop_step (live := word_Get.live) (b := 0) (x := word_Get.c0) fun ts => Eq.mpr (word_Get.B0_eq R v t22A t22n t22c t23 t24 w ts) h
theorem word_Get.eq (R : Value → World → Prop) (bA : Option Addr) (bn : Nat) (bc : Nat) (at_ : Int) (size : Int) (w : World) : fnVC Try.prog word_Get.live Try.f10 R [(.slice bA bn bc), (.int .i64 at_), (.int .i64 size)] w = word_Get.vc R bA bn bc at_ size w := by kernel_rfl
theorem word_Get.ok {R : Value → World → Prop} {bA : Option Addr} {bn : Nat} {bc : Nat} {at_ : Int} {size : Int} {w : World} (h : word_Get.vc R bA bn bc at_ size w) : Run Try.prog 10 #[(.slice bA bn bc), (.int .i64 at_), (.int .i64 size)] w R :=
  fn_sound (args := [(.slice bA bn bc), (.int .i64 at_), (.int .i64 size)]) Try.mixed Try.func10 (by kernel_rfl) (Eq.mpr (word_Get.eq R bA bn bc at_ size w) h)

/-! ### riddle/riddleref1.In: function 29 -/
noncomputable def ref1_In.body : Code := bodyOf Try.f29
def ref1_In.live : Nat → List Nat
  | _ => []
def ref1_In.J0 (R : Value → World → Prop) (t6 : Bool) (w : World) : Prop :=
  R (.bool t6) w

@[reducible] def ref1_In.vc (R : Value → World → Prop) (many : Int) (at_ : Int) (size : Int) (w : World) : Prop :=
  ifP (decide ((at_ : Int) ≥ 0)) (ifP (decide ((size : Int) ≥ 0)) (ifP (decide ((size : Int) ≤ many)) (ref1_In.J0 R (decide ((at_ : Int) ≤ (IntKind.i64.wrap (many - size)))) w) (ref1_In.J0 R false w)) (ref1_In.J0 R false w)) (ref1_In.J0 R false w)

theorem ref1_In.eq (R : Value → World → Prop) (many : Int) (at_ : Int) (size : Int) (w : World) : fnVC Try.prog ref1_In.live Try.f29 R [(.int .i64 many), (.int .i64 at_), (.int .i64 size)] w = ref1_In.vc R many at_ size w := by kernel_rfl
theorem ref1_In.ok {R : Value → World → Prop} {many : Int} {at_ : Int} {size : Int} {w : World} (h : ref1_In.vc R many at_ size w) : Run Try.prog 29 #[(.int .i64 many), (.int .i64 at_), (.int .i64 size)] w R :=
  fn_sound (args := [(.int .i64 many), (.int .i64 at_), (.int .i64 size)]) Try.mixed Try.func29 (by kernel_rfl) (Eq.mpr (ref1_In.eq R many at_ size w) h)

/-! ### riddle/riddleref1.Get: function 11 -/
noncomputable def ref1_Get.body : Code := bodyOf Try.f11
def ref1_Get.live : Nat → List Nat
  | 0 => [0, 1, 2, 8, 9]
  | _ => []
noncomputable def ref1_Get.c0 : Code := sub ref1_Get.body [1, 1, 1, 0, 1, 0, 0]
def ref1_Get.K0 (R : Value → World → Prop) : Ex → St → World → Prop := (blockK 0 (thenK (fun st w => code Try.prog ref1_Get.live 0 (sub ref1_Get.body [1, 1, 1, 1]) (retK Try.prog Try.f11 R) st w) (retK Try.prog Try.f11 R)))
def ref1_Get.L0 (R : Value → World → Prop) (bA : Option Addr) (bn : Nat) (bc : Nat) (at_ : Int) (size : Int) (v : Int) (i : Int) (w : World) : Prop :=
  loopVC (fun K => code Try.prog ref1_Get.live 0 ref1_Get.c0 K) (ref1_Get.live 0) (ref1_Get.K0 R) [(.slice bA bn bc), (.int .i64 at_), (.int .i64 size), undef, undef, undef, undef, undef, (.int .u32 v), (.int .i64 i), undef, undef, undef, undef, undef, undef, undef, undef, undef, undef, undef, undef, undef, undef, undef, undef, undef, undef, undef, undef, undef, undef, undef, undef, undef, undef, undef, undef, undef, undef, undef, undef, undef, undef] w
@[reducible] def ref1_Get.B0 (R : Value → World → Prop) (bA : Option Addr) (bn : Nat) (bc : Nat) (at_ : Int) (size : Int) (v : Int) (i : Int) (w : World) : Prop :=
  ifP (decide ((i : Int) < size))
    (0 ≤ (IntKind.i64.wrap (at_ + i) : Int) ∧ (IntKind.i64.wrap (at_ + i) : Int) < ((bn : Nat) : Int) ∧ ∃ t39p : Addr, bA = some t39p ∧ ∃ t40 : Int, w.cell? (t39p.add (Int.toNat (IntKind.i64.wrap (at_ + i)) * 1)) = some (.int .u8 t40) ∧ ref1_Get.L0 R bA bn bc at_ size (orI .u32 (IntKind.u32.wrap (v * 2 ^ 8)) (IntKind.u32.wrap t40)) (IntKind.i64.wrap (i + 1)) w)
    (R (.tuple #[(.int .u32 v), (.bool true)]) w)

def ref1_Get.J0 (R : Value → World → Prop) (bA : Option Addr) (bn : Nat) (bc : Nat) (at_ : Int) (size : Int) (t27 : Bool) (w : World) : Prop :=
  ifP t27
    (R (.tuple #[(.int .u32 0), (.bool false)]) w)
    (ref1_Get.L0 R bA bn bc at_ size 0 0 w)

@[reducible] def ref1_Get.vc (R : Value → World → Prop) (bA : Option Addr) (bn : Nat) (bc : Nat) (at_ : Int) (size : Int) (w : World) : Prop :=
  ifP ((size : Int) != 1) (ifP ((size : Int) != 2) (ifP ((size : Int) != 4) (ref1_Get.J0 R bA bn bc at_ size true w) (Run Try.prog 29 #[(.int .i64 ((bn : Nat) : Int)), (.int .i64 at_), (.int .i64 size)] w fun v w_2 => ∃ t25 : Bool, v = (.bool t25) ∧ ref1_Get.J0 R bA bn bc at_ size (!t25) w_2)) (Run Try.prog 29 #[(.int .i64 ((bn : Nat) : Int)), (.int .i64 at_), (.int .i64 size)] w fun v_2 w_3 => ∃ t25_2 : Bool, v_2 = (.bool t25_2) ∧ ref1_Get.J0 R bA bn bc at_ size (!t25_2) w_3)) (Run Try.prog 29 #[(.int .i64 ((bn : Nat) : Int)), (.int .i64 at_), (.int .i64 size)] w fun v_3 w_4 => ∃ t25_3 : Bool, v_3 = (.bool t25_3) ∧ ref1_Get.J0 R bA bn bc at_ size (!t25_3) w_4)

theorem ref1_Get.B0_eq (R : Value → World → Prop) (bA : Option Addr) (bn : Nat) (bc : Nat) (at_ : Int) (size : Int) (v : Int) (i : Int) (w : World) (ts : Nat → Value) :
    code Try.prog ref1_Get.live 0 ref1_Get.c0 (thenK (fun st w => loopVC (fun K => code Try.prog ref1_Get.live 0 ref1_Get.c0 K) (ref1_Get.live 0) (ref1_Get.K0 R) (clearFrom (ref1_Get.live 0) 0 st) w) (ref1_Get.K0 R)) (mergeFrom (ref1_Get.live 0) ts 0 (clearFrom (ref1_Get.live 0) 0 [(.slice bA bn bc), (.int .i64 at_), (.int .i64 size), undef, undef, undef, undef, undef, (.int .u32 v), (.int .i64 i), undef, undef, undef, undef, undef, undef, undef, undef, undef, undef, undef, undef, undef, undef, undef, undef, undef, undef, undef, undef, undef, undef, undef, undef, undef, undef, undef, undef, undef, undef, undef, undef, undef, undef])) w = ref1_Get.B0 R bA bn bc at_ size v i w := by kernel_rfl
theorem ref1_Get.L0_step {R : Value → World → Prop} {bA : Option Addr} {bn : Nat} {bc : Nat} {at_ : Int} {size : Int} {v : Int} {i : Int} {w : World} (h : ref1_Get.B0 R bA bn bc at_ size v i w) : ref1_Get.L0 R bA bn bc at_ size v i w :=
  loop_step (live := ref1_Get.live) (b := 0) (x := ref1_Get.c0) fun ts => Eq.mpr (ref1_Get.B0_eq R bA bn bc at_ size v i w ts) h
theorem ref1_Get.eq (R : Value → World → Prop) (bA : Option Addr) (bn : Nat) (bc : Nat) (at_ : Int) (size : Int) (w : World) : fnVC Try.prog ref1_Get.live Try.f11 R [(.slice bA bn bc), (.int .i64 at_), (.int .i64 size)] w = ref1_Get.vc R bA bn bc at_ size w := by kernel_rfl
theorem ref1_Get.ok {R : Value → World → Prop} {bA : Option Addr} {bn : Nat} {bc : Nat} {at_ : Int} {size : Int} {w : World} (h : ref1_Get.vc R bA bn bc at_ size w) : Run Try.prog 11 #[(.slice bA bn bc), (.int .i64 at_), (.int .i64 size)] w R :=
  fn_sound (args := [(.slice bA bn bc), (.int .i64 at_), (.int .i64 size)]) Try.mixed Try.func11 (by kernel_rfl) (Eq.mpr (ref1_Get.eq R bA bn bc at_ size w) h)

/-! ### riddle/riddlelaw0.SameBytes: function 17 -/
noncomputable def law0_SameBytes.body : Code := bodyOf Try.f17
def law0_SameBytes.live : Nat → List Nat
  | 0 => [0, 1, 5]
  | _ => []
noncomputable def law0_SameBytes.c0 : Code := sub law0_SameBytes.body [1, 1, 0, 1, 0, 0]
def law0_SameBytes.K0 (R : Value → World → Prop) : Ex → St → World → Prop := (blockK 0 (thenK (fun st w => code Try.prog law0_SameBytes.live 0 (sub law0_SameBytes.body [1, 1, 1]) (retK Try.prog Try.f17 R) st w) (retK Try.prog Try.f17 R)))
def law0_SameBytes.L0 (R : Value → World → Prop) (aA : Option Addr) (an : Nat) (ac : Nat) (bA : Option Addr) (bn : Nat) (bc : Nat) (i : Int) (w : World) : Prop :=
  loopVC (fun K => code Try.prog law0_SameBytes.live 0 law0_SameBytes.c0 K) (law0_SameBytes.live 0) (law0_SameBytes.K0 R) [(.slice aA an ac), (.slice bA bn bc), undef, undef, undef, (.int .i64 i), undef, undef, undef, undef, undef, undef, undef, undef, undef, undef, undef, undef, undef, undef, undef, undef, undef, undef, undef, undef] w
@[reducible] def law0_SameBytes.B0 (R : Value → World → Prop) (aA : Option Addr) (an : Nat) (ac : Nat) (bA : Option Addr) (bn : Nat) (bc : Nat) (i : Int) (w : World) : Prop :=
  ifP (decide ((i : Int) < ((an : Nat) : Int)))
    (letW w.drew fun w_2 => 0 ≤ (i : Int) ∧ (i : Int) < ((an : Nat) : Int) ∧ ∃ t19p : Addr, aA = some t19p ∧ ∃ t20 : Int, w_2.cell? (t19p.add (Int.toNat i * 1)) = some (.int .u8 t20) ∧ 0 ≤ (i : Int) ∧ (i : Int) < ((bn : Nat) : Int) ∧ ∃ t23p : Addr, bA = some t23p ∧ ∃ t24 : Int, w_2.cell? (t23p.add (Int.toNat i * 1)) = some (.int .u8 t24) ∧ ifP ((t20 : Int) != t24)
    (R (.bool false) w_2)
    (law0_SameBytes.L0 R aA an ac bA bn bc (IntKind.i64.wrap (i + 1)) w_2))
    (R (.bool true) w)

@[reducible] def law0_SameBytes.vc (R : Value → World → Prop) (aA : Option Addr) (an : Nat) (ac : Nat) (bA : Option Addr) (bn : Nat) (bc : Nat) (w : World) : Prop :=
  ifP ((((an : Nat) : Int) : Int) != ((bn : Nat) : Int))
    (R (.bool false) w)
    (law0_SameBytes.L0 R aA an ac bA bn bc 0 w)

theorem law0_SameBytes.B0_eq (R : Value → World → Prop) (aA : Option Addr) (an : Nat) (ac : Nat) (bA : Option Addr) (bn : Nat) (bc : Nat) (i : Int) (w : World) (ts : Nat → Value) :
    code Try.prog law0_SameBytes.live 0 law0_SameBytes.c0 (thenK (fun st w => loopVC (fun K => code Try.prog law0_SameBytes.live 0 law0_SameBytes.c0 K) (law0_SameBytes.live 0) (law0_SameBytes.K0 R) (clearFrom (law0_SameBytes.live 0) 0 st) w) (law0_SameBytes.K0 R)) (mergeFrom (law0_SameBytes.live 0) ts 0 (clearFrom (law0_SameBytes.live 0) 0 [(.slice aA an ac), (.slice bA bn bc), undef, undef, undef, (.int .i64 i), undef, undef, undef, undef, undef, undef, undef, undef, undef, undef, undef, undef, undef, undef, undef, undef, undef, undef, undef, undef])) w = law0_SameBytes.B0 R aA an ac bA bn bc i w := by kernel_rfl
theorem law0_SameBytes.L0_step {R : Value → World → Prop} {aA : Option Addr} {an : Nat} {ac : Nat} {bA : Option Addr} {bn : Nat} {bc : Nat} {i : Int} {w : World} (h : law0_SameBytes.B0 R aA an ac bA bn bc i w) : law0_SameBytes.L0 R aA an ac bA bn bc i w :=
  loop_step (live := law0_SameBytes.live) (b := 0) (x := law0_SameBytes.c0) fun ts => Eq.mpr (law0_SameBytes.B0_eq R aA an ac bA bn bc i w ts) h
theorem law0_SameBytes.eq (R : Value → World → Prop) (aA : Option Addr) (an : Nat) (ac : Nat) (bA : Option Addr) (bn : Nat) (bc : Nat) (w : World) : fnVC Try.prog law0_SameBytes.live Try.f17 R [(.slice aA an ac), (.slice bA bn bc)] w = law0_SameBytes.vc R aA an ac bA bn bc w := by kernel_rfl
theorem law0_SameBytes.ok {R : Value → World → Prop} {aA : Option Addr} {an : Nat} {ac : Nat} {bA : Option Addr} {bn : Nat} {bc : Nat} {w : World} (h : law0_SameBytes.vc R aA an ac bA bn bc w) : Run Try.prog 17 #[(.slice aA an ac), (.slice bA bn bc)] w R :=
  fn_sound (args := [(.slice aA an ac), (.slice bA bn bc)]) Try.mixed Try.func17 (by kernel_rfl) (Eq.mpr (law0_SameBytes.eq R aA an ac bA bn bc w) h)

/-! ### riddle/riddlelaw0.SpoilBytes: function 18 -/
noncomputable def law0_SpoilBytes.body : Code := bodyOf Try.f18
def law0_SpoilBytes.live : Nat → List Nat
  | 0 => [0, 2, 3]
  | 2 => [0, 4]
  | _ => []
noncomputable def law0_SpoilBytes.c0 : Code := sub law0_SpoilBytes.body [1, 0, 1, 0, 0]
noncomputable def law0_SpoilBytes.c2 : Code := sub law0_SpoilBytes.body [1, 1, 1, 0, 0]
def law0_SpoilBytes.K0 (R : Value → World → Prop) : Ex → St → World → Prop := (blockK 0 (thenK (fun st w => code Try.prog law0_SpoilBytes.live 0 (sub law0_SpoilBytes.body [1, 1]) (retK Try.prog Try.f18 R) st w) (retK Try.prog Try.f18 R)))
def law0_SpoilBytes.L0 (R : Value → World → Prop) (aA : Option Addr) (an : Nat) (ac : Nat) (fullA : Option Addr) (fulln : Nat) (fullc : Nat) (i : Int) (w : World) : Prop :=
  loopVC (fun K => code Try.prog law0_SpoilBytes.live 0 law0_SpoilBytes.c0 K) (law0_SpoilBytes.live 0) (law0_SpoilBytes.K0 R) [(.slice aA an ac), undef, (.slice fullA fulln fullc), (.int .i64 i), undef, undef, undef, undef, undef, undef, undef, undef, undef, undef, undef, undef, undef, undef, undef, undef, undef, undef, undef, undef, undef, undef] w
def law0_SpoilBytes.K2 (R : Value → World → Prop) : Ex → St → World → Prop := (blockK 2 (retK Try.prog Try.f18 R))
def law0_SpoilBytes.L2 (R : Value → World → Prop) (aA : Option Addr) (an : Nat) (ac : Nat) (i : Int) (w : World) : Prop :=
  loopVC (fun K => code Try.prog law0_SpoilBytes.live 2 law0_SpoilBytes.c2 K) (law0_SpoilBytes.live 2) (law0_SpoilBytes.K2 R) [(.slice aA an ac), undef, undef, undef, (.int .i64 i), undef, undef, undef, undef, undef, undef, undef, undef, undef, undef, undef, undef, undef, undef, undef, undef, undef, undef, undef, undef, undef] w
@[reducible] def law0_SpoilBytes.B2 (R : Value → World → Prop) (aA : Option Addr) (an : Nat) (ac : Nat) (i : Int) (w : World) : Prop :=
  ifP (decide ((i : Int) < ((an : Nat) : Int)))
    (0 ≤ (i : Int) ∧ (i : Int) < ((an : Nat) : Int) ∧ ∃ t25p : Addr, aA = some t25p ∧ (∃ u : Value, w.cell? (t25p.add (Int.toNat i * 1)) = some u) ∧ w.frozen? (t25p.add (Int.toNat i * 1)) = false ∧ letW (w.setCell (t25p.add (Int.toNat i * 1)) (.int .u8 201)) fun w_2 => law0_SpoilBytes.L2 R aA an ac (IntKind.i64.wrap (i + 1)) w_2)
    (R (.tuple #[]) w)

@[reducible] def law0_SpoilBytes.B0 (R : Value → World → Prop) (aA : Option Addr) (an : Nat) (ac : Nat) (fullA : Option Addr) (fulln : Nat) (fullc : Nat) (i : Int) (w : World) : Prop :=
  ifP (decide ((i : Int) < ((fulln : Nat) : Int)))
    (0 ≤ (i : Int) ∧ (i : Int) < ((fulln : Nat) : Int) ∧ ∃ t16p : Addr, fullA = some t16p ∧ (∃ u : Value, w.cell? (t16p.add (Int.toNat i * 1)) = some u) ∧ w.frozen? (t16p.add (Int.toNat i * 1)) = false ∧ letW (w.setCell (t16p.add (Int.toNat i * 1)) (.int .u8 201)) fun w_2 => law0_SpoilBytes.L0 R aA an ac fullA fulln fullc (IntKind.i64.wrap (i + 1)) w_2)
    (law0_SpoilBytes.L2 R aA an ac 0 w)

@[reducible] def law0_SpoilBytes.vc (R : Value → World → Prop) (aA : Option Addr) (an : Nat) (ac : Nat) (w : World) : Prop :=
  letW (w.alloc (.cells #[(.int .u8 201)] 5)) fun w_2 => ∃ (v : Value) (w_3 : World), (Builtin.append_ #[22, 22] 22 #[(.slice aA an ac), (.slice (some (newA w)) 1 1)]).run Try.prog w_2 = .ok v w_3 ∧ ∃ (t7A : Option Addr) (t7n t7c : Nat), v = (.slice t7A t7n t7c) ∧ law0_SpoilBytes.L0 R aA an ac t7A t7n t7c 0 w_3

theorem law0_SpoilBytes.B0_eq (R : Value → World → Prop) (aA : Option Addr) (an : Nat) (ac : Nat) (fullA : Option Addr) (fulln : Nat) (fullc : Nat) (i : Int) (w : World) (ts : Nat → Value) :
    code Try.prog law0_SpoilBytes.live 0 law0_SpoilBytes.c0 (thenK (fun st w => loopVC (fun K => code Try.prog law0_SpoilBytes.live 0 law0_SpoilBytes.c0 K) (law0_SpoilBytes.live 0) (law0_SpoilBytes.K0 R) (clearFrom (law0_SpoilBytes.live 0) 0 st) w) (law0_SpoilBytes.K0 R)) (mergeFrom (law0_SpoilBytes.live 0) ts 0 (clearFrom (law0_SpoilBytes.live 0) 0 [(.slice aA an ac), undef, (.slice fullA fulln fullc), (.int .i64 i), undef, undef, undef, undef, undef, undef, undef, undef, undef, undef, undef, undef, undef, undef, undef, undef, undef, undef, undef, undef, undef, undef])) w = law0_SpoilBytes.B0 R aA an ac fullA fulln fullc i w := by kernel_rfl
theorem law0_SpoilBytes.L0_step {R : Value → World → Prop} {aA : Option Addr} {an : Nat} {ac : Nat} {fullA : Option Addr} {fulln : Nat} {fullc : Nat} {i : Int} {w : World} (h : law0_SpoilBytes.B0 R aA an ac fullA fulln fullc i w) : law0_SpoilBytes.L0 R aA an ac fullA fulln fullc i w :=
  loop_step (live := law0_SpoilBytes.live) (b := 0) (x := law0_SpoilBytes.c0) fun ts => Eq.mpr (law0_SpoilBytes.B0_eq R aA an ac fullA fulln fullc i w ts) h
theorem law0_SpoilBytes.B2_eq (R : Value → World → Prop) (aA : Option Addr) (an : Nat) (ac : Nat) (i : Int) (w : World) (ts : Nat → Value) :
    code Try.prog law0_SpoilBytes.live 2 law0_SpoilBytes.c2 (thenK (fun st w => loopVC (fun K => code Try.prog law0_SpoilBytes.live 2 law0_SpoilBytes.c2 K) (law0_SpoilBytes.live 2) (law0_SpoilBytes.K2 R) (clearFrom (law0_SpoilBytes.live 2) 0 st) w) (law0_SpoilBytes.K2 R)) (mergeFrom (law0_SpoilBytes.live 2) ts 0 (clearFrom (law0_SpoilBytes.live 2) 0 [(.slice aA an ac), undef, undef, undef, (.int .i64 i), undef, undef, undef, undef, undef, undef, undef, undef, undef, undef, undef, undef, undef, undef, undef, undef, undef, undef, undef, undef, undef])) w = law0_SpoilBytes.B2 R aA an ac i w := by kernel_rfl
theorem law0_SpoilBytes.L2_step {R : Value → World → Prop} {aA : Option Addr} {an : Nat} {ac : Nat} {i : Int} {w : World} (h : law0_SpoilBytes.B2 R aA an ac i w) : law0_SpoilBytes.L2 R aA an ac i w :=
  loop_step (live := law0_SpoilBytes.live) (b := 2) (x := law0_SpoilBytes.c2) fun ts => Eq.mpr (law0_SpoilBytes.B2_eq R aA an ac i w ts) h
theorem law0_SpoilBytes.eq (R : Value → World → Prop) (aA : Option Addr) (an : Nat) (ac : Nat) (w : World) : fnVC Try.prog law0_SpoilBytes.live Try.f18 R [(.slice aA an ac)] w = law0_SpoilBytes.vc R aA an ac w := by kernel_rfl
theorem law0_SpoilBytes.ok {R : Value → World → Prop} {aA : Option Addr} {an : Nat} {ac : Nat} {w : World} (h : law0_SpoilBytes.vc R aA an ac w) : Run Try.prog 18 #[(.slice aA an ac)] w R :=
  fn_sound (args := [(.slice aA an ac)]) Try.mixed Try.func18 (by kernel_rfl) (Eq.mpr (law0_SpoilBytes.eq R aA an ac w) h)

/-! ### riddle/riddlelaw0.KeptBytes: function 12 -/
noncomputable def law0_KeptBytes.body : Code := bodyOf Try.f12
def law0_KeptBytes.live : Nat → List Nat
  | _ => []
def law0_KeptBytes.J0 (R : Value → World → Prop) (fullA : Option Addr) (fulln : Nat) (fullc : Nat) (ok : Bool) (w : World) : Prop :=
  Run Try.prog 18 #[(.slice fullA fulln fullc)] w fun v w_2 => v = (.tuple #[]) ∧ R (.bool ok) w_2

@[reducible] def law0_KeptBytes.vc (R : Value → World → Prop) (lentA : Option Addr) (lentn : Nat) (lentc : Nat) (aA : Option Addr) (an : Nat) (ac : Nat) (w : World) : Prop :=
  (0 : Int) ≤ 0 ∧ (0 : Int) ≤ IntKind.i64.wrap (((lentn : Nat) : Int) + 3) ∧ (IntKind.i64.wrap (((lentn : Nat) : Int) + 3) : Int) ≤ ((lentc : Nat) : Int) ∧ Run Try.prog 17 #[(.slice lentA lentn lentc), (.slice aA an ac)] w fun v w_2 => ∃ t14 : Bool, v = (.bool t14) ∧ ifP t14 ((0 : Int) ≤ ((an : Nat) : Int) ∧ (((an : Nat) : Int) : Int) ≤ (((Int.toNat (IntKind.i64.wrap (((lentn : Nat) : Int) + 3))) - 0 : Nat) : Int) ∧ ((((Int.toNat (IntKind.i64.wrap (((lentn : Nat) : Int) + 3))) - 0 : Nat) : Int) : Int) ≤ ((lentc - 0 : Nat) : Int) ∧ letW (w_2.alloc (.cells #[(.int .u8 201), (.int .u8 201), (.int .u8 201)] 5)) fun w_3 => Run Try.prog 17 #[(.slice (subA (subA lentA lentc 0 1) (lentc - 0) (Int.toNat ((an : Nat) : Int)) 1) (((Int.toNat (IntKind.i64.wrap (((lentn : Nat) : Int) + 3))) - 0) - (Int.toNat ((an : Nat) : Int))) ((lentc - 0) - (Int.toNat ((an : Nat) : Int)))), (.slice (some (newA w_2)) 3 3)] w_3 fun v_2 w_4 => ∃ t21 : Bool, v_2 = (.bool t21) ∧ law0_KeptBytes.J0 R (subA lentA lentc 0 1) ((Int.toNat (IntKind.i64.wrap (((lentn : Nat) : Int) + 3))) - 0) (lentc - 0) t21 w_4) (law0_KeptBytes.J0 R (subA lentA lentc 0 1) ((Int.toNat (IntKind.i64.wrap (((lentn : Nat) : Int) + 3))) - 0) (lentc - 0) false w_2)

theorem law0_KeptBytes.eq (R : Value → World → Prop) (lentA : Option Addr) (lentn : Nat) (lentc : Nat) (aA : Option Addr) (an : Nat) (ac : Nat) (w : World) : fnVC Try.prog law0_KeptBytes.live Try.f12 R [(.slice lentA lentn lentc), (.slice aA an ac)] w = law0_KeptBytes.vc R lentA lentn lentc aA an ac w := by kernel_rfl
theorem law0_KeptBytes.ok {R : Value → World → Prop} {lentA : Option Addr} {lentn : Nat} {lentc : Nat} {aA : Option Addr} {an : Nat} {ac : Nat} {w : World} (h : law0_KeptBytes.vc R lentA lentn lentc aA an ac w) : Run Try.prog 12 #[(.slice lentA lentn lentc), (.slice aA an ac)] w R :=
  fn_sound (args := [(.slice lentA lentn lentc), (.slice aA an ac)]) Try.mixed Try.func12 (by kernel_rfl) (Eq.mpr (law0_KeptBytes.eq R lentA lentn lentc aA an ac w) h)

/-! ### riddle/word.Join: function 19 -/
noncomputable def word_Join.body : Code := bodyOf Try.f19
def word_Join.live : Nat → List Nat
  | 0 => [0, 3, 9, 10, 11]
  | 2 => [6, 22, 23, 24]
  | _ => []
noncomputable def word_Join.c0 : Code := sub word_Join.body [1, 1, 0, 1, 0, 0]
noncomputable def word_Join.c2 : Code := sub word_Join.body [1, 1, 1, 1, 0, 1, 0, 0]
def word_Join.K0 (R : Value → World → Prop) : Ex → St → World → Prop := (blockK 0 (thenK (fun st w => code Try.prog word_Join.live 0 (sub word_Join.body [1, 1, 1]) (retK Try.prog Try.f19 R) st w) (retK Try.prog Try.f19 R)))
def word_Join.L0 (R : Value → World → Prop) (partsA : Option Addr) (partsn : Nat) (partsc : Nat) (n : Int) (t9A : Option Addr) (t9n : Nat) (t9c : Nat) (t10 : Int) (t11 : Int) (w : World) : Prop :=
  loopVC (fun K => code Try.prog word_Join.live 0 word_Join.c0 K) (word_Join.live 0) (word_Join.K0 R) [(.slice partsA partsn partsc), undef, undef, (.int .i64 n), undef, undef, undef, undef, undef, (.slice t9A t9n t9c), (.int .i64 t10), (.int .i64 t11), undef, undef, undef, undef, undef, undef, undef, undef, undef, undef, undef, undef, undef, undef, undef, undef, undef, undef, undef, undef, undef] w
def word_Join.K2 (R : Value → World → Prop) : Ex → St → World → Prop := (blockK 2 (thenK (fun st w => code Try.prog word_Join.live 0 (sub word_Join.body [1, 1, 1, 1, 1]) (retK Try.prog Try.f19 R) st w) (retK Try.prog Try.f19 R)))
def word_Join.L2 (R : Value → World → Prop) (outA : Option Addr) (outn : Nat) (outc : Nat) (t22A : Option Addr) (t22n : Nat) (t22c : Nat) (t23 : Int) (t24 : Int) (w : World) : Prop :=
  loopVC (fun K => code Try.prog word_Join.live 2 word_Join.c2 K) (word_Join.live 2) (word_Join.K2 R) [undef, undef, undef, undef, undef, undef, (.slice outA outn outc), undef, undef, undef, undef, undef, undef, undef, undef, undef, undef, undef, undef, undef, undef, undef, (.slice t22A t22n t22c), (.int .i64 t23), (.int .i64 t24), undef, undef, undef, undef, undef, undef, undef, undef] w
@[reducible] def word_Join.B2 (R : Value → World → Prop) (outA : Option Addr) (outn : Nat) (outc : Nat) (t22A : Option Addr) (t22n : Nat) (t22c : Nat) (t23 : Int) (t24 : Int) (w : World) : Prop :=
  ifP (decide ((t24 : Int) < t23))
    (0 ≤ (t24 : Int) ∧ (t24 : Int) < ((t22n : Nat) : Int) ∧ ∃ t26p : Addr, t22A = some t26p ∧ ∃ (t27A : Option Addr) (t27n t27c : Nat), w.cell? (t26p.add (Int.toNat t24 * 1)) = some (.slice t27A t27n t27c) ∧ ∃ (v : Value) (w_2 : World), (Builtin.append_ #[22, 22] 22 #[(.slice outA outn outc), (.slice t27A t27n t27c)]).run Try.prog w = .ok v w_2 ∧ ∃ (t30A : Option Addr) (t30n t30c : Nat), v = (.slice t30A t30n t30c) ∧ word_Join.L2 R t30A t30n t30c t22A t22n t22c t23 (IntKind.i64.wrap (t24 + 1)) w_2)
    (R (.slice outA outn outc) w)

@[reducible] def word_Join.B0 (R : Value → World → Prop) (partsA : Option Addr) (partsn : Nat) (partsc : Nat) (n : Int) (t9A : Option Addr) (t9n : Nat) (t9c : Nat) (t10 : Int) (t11 : Int) (w : World) : Prop :=
  ifP (decide ((t11 : Int) < t10))
    (0 ≤ (t11 : Int) ∧ (t11 : Int) < ((t9n : Nat) : Int) ∧ ∃ t13p : Addr, t9A = some t13p ∧ ∃ (t14A : Option Addr) (t14n t14c : Nat), w.cell? (t13p.add (Int.toNat t11 * 1)) = some (.slice t14A t14n t14c) ∧ word_Join.L0 R partsA partsn partsc (IntKind.i64.wrap (n + ((t14n : Nat) : Int))) t9A t9n t9c t10 (IntKind.i64.wrap (t11 + 1)) w)
    (∃ (v : Value) (w_2 : World), (Instr.makeSlice 22 (.int .i64 0) (.int .i64 n)).run Try.prog w = .ok v w_2 ∧ ∃ (t21A : Option Addr) (t21n t21c : Nat), v = (.slice t21A t21n t21c) ∧ word_Join.L2 R t21A t21n t21c partsA partsn partsc ((partsn : Nat) : Int) 0 w_2)

@[reducible] def word_Join.vc (R : Value → World → Prop) (partsA : Option Addr) (partsn : Nat) (partsc : Nat) (w : World) : Prop :=
  word_Join.L0 R partsA partsn partsc 0 partsA partsn partsc ((partsn : Nat) : Int) 0 w

theorem word_Join.B0_eq (R : Value → World → Prop) (partsA : Option Addr) (partsn : Nat) (partsc : Nat) (n : Int) (t9A : Option Addr) (t9n : Nat) (t9c : Nat) (t10 : Int) (t11 : Int) (w : World) (ts : Nat → Value) :
    code Try.prog word_Join.live 0 word_Join.c0 (thenK (fun st w => loopVC (fun K => code Try.prog word_Join.live 0 word_Join.c0 K) (word_Join.live 0) (word_Join.K0 R) (clearFrom (word_Join.live 0) 0 st) w) (word_Join.K0 R)) (mergeFrom (word_Join.live 0) ts 0 (clearFrom (word_Join.live 0) 0 [(.slice partsA partsn partsc), undef, undef, (.int .i64 n), undef, undef, undef, undef, undef, (.slice t9A t9n t9c), (.int .i64 t10), (.int .i64 t11), undef, undef, undef, undef, undef, undef, undef, undef, undef, undef, undef, undef, undef, undef, undef, undef, undef, undef, undef, undef, undef])) w = word_Join.B0 R partsA partsn partsc n t9A t9n t9c t10 t11 w := by kernel_rfl
theorem word_Join.L0_step {R : Value → World → Prop} {partsA : Option Addr} {partsn : Nat} {partsc : Nat} {n : Int} {t9A : Option Addr} {t9n : Nat} {t9c : Nat} {t10 : Int} {t11 : Int} {w : World} (h : word_Join.B0 R partsA partsn partsc n t9A t9n t9c t10 t11 w) : word_Join.L0 R partsA partsn partsc n t9A t9n t9c t10 t11 w :=
  loop_step (live := word_Join.live) (b := 0) (x := word_Join.c0) fun ts => Eq.mpr (word_Join.B0_eq R partsA partsn partsc n t9A t9n t9c t10 t11 w ts) h
theorem word_Join.B2_eq (R : Value → World → Prop) (outA : Option Addr) (outn : Nat) (outc : Nat) (t22A : Option Addr) (t22n : Nat) (t22c : Nat) (t23 : Int) (t24 : Int) (w : World) (ts : Nat → Value) :
    code Try.prog word_Join.live 2 word_Join.c2 (thenK (fun st w => loopVC (fun K => code Try.prog word_Join.live 2 word_Join.c2 K) (word_Join.live 2) (word_Join.K2 R) (clearFrom (word_Join.live 2) 0 st) w) (word_Join.K2 R)) (mergeFrom (word_Join.live 2) ts 0 (clearFrom (word_Join.live 2) 0 [undef, undef, undef, undef, undef, undef, (.slice outA outn outc), undef, undef, undef, undef, undef, undef, undef, undef, undef, undef, undef, undef, undef, undef, undef, (.slice t22A t22n t22c), (.int .i64 t23), (.int .i64 t24), undef, undef, undef, undef, undef, undef, undef, undef])) w = word_Join.B2 R outA outn outc t22A t22n t22c t23 t24 w := by kernel_rfl
theorem word_Join.L2_step {R : Value → World → Prop} {outA : Option Addr} {outn : Nat} {outc : Nat} {t22A : Option Addr} {t22n : Nat} {t22c : Nat} {t23 : Int} {t24 : Int} {w : World} (h : word_Join.B2 R outA outn outc t22A t22n t22c t23 t24 w) : word_Join.L2 R outA outn outc t22A t22n t22c t23 t24 w :=
  loop_step (live := word_Join.live) (b := 2) (x := word_Join.c2) fun ts => Eq.mpr (word_Join.B2_eq R outA outn outc t22A t22n t22c t23 t24 w ts) h
theorem word_Join.eq (R : Value → World → Prop) (partsA : Option Addr) (partsn : Nat) (partsc : Nat) (w : World) : fnVC Try.prog word_Join.live Try.f19 R [(.slice partsA partsn partsc)] w = word_Join.vc R partsA partsn partsc w := by kernel_rfl
theorem word_Join.ok {R : Value → World → Prop} {partsA : Option Addr} {partsn : Nat} {partsc : Nat} {w : World} (h : word_Join.vc R partsA partsn partsc w) : Run Try.prog 19 #[(.slice partsA partsn partsc)] w R :=
  fn_sound (args := [(.slice partsA partsn partsc)]) Try.mixed Try.func19 (by kernel_rfl) (Eq.mpr (word_Join.eq R partsA partsn partsc w) h)

/-! ### riddle/word.Put: function 16 -/
noncomputable def word_Put.body : Code := bodyOf Try.f16
def word_Put.live : Nat → List Nat
  | 0 => [1, 3, 10, 11]
  | _ => []
noncomputable def word_Put.c0 : Code := sub word_Put.body [1, 1, 1, 0, 1, 0, 0]
def word_Put.K0 (R : Value → World → Prop) : Ex → St → World → Prop := (blockK 0 (thenK (fun st w => code Try.prog word_Put.live 0 (sub word_Put.body [1, 1, 1, 1]) (retK Try.prog Try.f16 R) st w) (retK Try.prog Try.f16 R)))
def word_Put.L0 (R : Value → World → Prop) (at_ : Int) (v : Int) (outA : Option Addr) (outn : Nat) (outc : Nat) (i : Int) (w : World) : Prop :=
  loopVC (fun K => code Try.prog word_Put.live 0 word_Put.c0 K) (word_Put.live 0) (word_Put.K0 R) [undef, (.int .i64 at_), undef, (.int .u32 v), undef, undef, undef, undef, undef, undef, (.slice outA outn outc), (.int .i64 i), undef, undef, undef, undef, undef, undef, undef, undef, undef, undef, undef, undef, undef, undef, undef, undef, undef, undef, undef, undef, undef, undef, undef, undef, undef, undef] w
@[reducible] def word_Put.B0 (R : Value → World → Prop) (at_ : Int) (v : Int) (outA : Option Addr) (outn : Nat) (outc : Nat) (i : Int) (w : World) : Prop :=
  ifP (decide ((i : Int) ≥ at_))
    (0 ≤ (i : Int) ∧ (i : Int) < ((outn : Nat) : Int) ∧ ∃ t34p : Addr, outA = some t34p ∧ (∃ u : Value, w.cell? (t34p.add (Int.toNat i * 1)) = some u) ∧ w.frozen? (t34p.add (Int.toNat i * 1)) = false ∧ letW (w.setCell (t34p.add (Int.toNat i * 1)) (.int .u8 (IntKind.u8.wrap v))) fun w_2 => word_Put.L0 R at_ (Int.fdiv v (2 ^ 8)) outA outn outc (IntKind.i64.wrap (i - 1)) w_2)
    (R (.tuple #[(.slice outA outn outc), (.bool true)]) w)

@[reducible] def word_Put.vc (R : Value → World → Prop) (bA : Option Addr) (bn : Nat) (bc : Nat) (at_ : Int) (size : Int) (v : Int) (w : World) : Prop :=
  Run Try.prog 28 #[(.int .i64 ((bn : Nat) : Int)), (.int .i64 at_), (.int .i64 size)] w fun v_2 w_2 => ∃ t16 : Bool, v_2 = (.bool t16) ∧ ifP (!t16)
    (R (.tuple #[(.slice none 0 0), (.bool false)]) w_2)
    (letW (w_2.alloc (.cells #[(.slice bA bn bc)] 22)) fun w_3 => Run Try.prog 19 #[(.slice (some (newA w_2)) 1 1)] w_3 fun v_3 w_4 => ∃ (t20A : Option Addr) (t20n t20c : Nat), v_3 = (.slice t20A t20n t20c) ∧ word_Put.L0 R at_ v t20A t20n t20c (IntKind.i64.wrap ((IntKind.i64.wrap (at_ + size)) - 1)) w_4)

theorem word_Put.B0_eq (R : Value → World → Prop) (at_ : Int) (v : Int) (outA : Option Addr) (outn : Nat) (outc : Nat) (i : Int) (w : World) (ts : Nat → Value) :
    code Try.prog word_Put.live 0 word_Put.c0 (thenK (fun st w => loopVC (fun K => code Try.prog word_Put.live 0 word_Put.c0 K) (word_Put.live 0) (word_Put.K0 R) (clearFrom (word_Put.live 0) 0 st) w) (word_Put.K0 R)) (mergeFrom (word_Put.live 0) ts 0 (clearFrom (word_Put.live 0) 0 [undef, (.int .i64 at_), undef, (.int .u32 v), undef, undef, undef, undef, undef, undef, (.slice outA outn outc), (.int .i64 i), undef, undef, undef, undef, undef, undef, undef, undef, undef, undef, undef, undef, undef, undef, undef, undef, undef, undef, undef, undef, undef, undef, undef, undef, undef, undef])) w = word_Put.B0 R at_ v outA outn outc i w := by kernel_rfl
theorem word_Put.L0_step {R : Value → World → Prop} {at_ : Int} {v : Int} {outA : Option Addr} {outn : Nat} {outc : Nat} {i : Int} {w : World} (h : word_Put.B0 R at_ v outA outn outc i w) : word_Put.L0 R at_ v outA outn outc i w :=
  loop_step (live := word_Put.live) (b := 0) (x := word_Put.c0) fun ts => Eq.mpr (word_Put.B0_eq R at_ v outA outn outc i w ts) h
theorem word_Put.eq (R : Value → World → Prop) (bA : Option Addr) (bn : Nat) (bc : Nat) (at_ : Int) (size : Int) (v : Int) (w : World) : fnVC Try.prog word_Put.live Try.f16 R [(.slice bA bn bc), (.int .i64 at_), (.int .i64 size), (.int .u32 v)] w = word_Put.vc R bA bn bc at_ size v w := by kernel_rfl
theorem word_Put.ok {R : Value → World → Prop} {bA : Option Addr} {bn : Nat} {bc : Nat} {at_ : Int} {size : Int} {v : Int} {w : World} (h : word_Put.vc R bA bn bc at_ size v w) : Run Try.prog 16 #[(.slice bA bn bc), (.int .i64 at_), (.int .i64 size), (.int .u32 v)] w R :=
  fn_sound (args := [(.slice bA bn bc), (.int .i64 at_), (.int .i64 size), (.int .u32 v)]) Try.mixed Try.func16 (by kernel_rfl) (Eq.mpr (word_Put.eq R bA bn bc at_ size v w) h)

/-! ### riddle/word.upTo: function 31 -/
noncomputable def word_upTo.body : Code := bodyOf Try.f31
def word_upTo.live : Nat → List Nat
  | 0 => [0, 5, 8, 9, 10]
  | _ => []
noncomputable def word_upTo.c0 : Code := sub word_upTo.body [1, 1, 0, 1, 0, 0]
def word_upTo.K0 (R : Value → World → Prop) : Ex → St → World → Prop := (blockK 0 (thenK (fun st w => code Try.prog word_upTo.live 0 (sub word_upTo.body [1, 1, 1]) (retK Try.prog Try.f31 R) st w) (retK Try.prog Try.f31 R)))
def word_upTo.L0 (R : Value → World → Prop) (most : Int) (s : Int) (t8A : Option Addr) (t8n : Nat) (t8c : Nat) (t9 : Int) (t10 : Int) (w : World) : Prop :=
  loopVC (fun K => code Try.prog word_upTo.live 0 word_upTo.c0 K) (word_upTo.live 0) (word_upTo.K0 R) [(.int .u64 most), undef, undef, undef, undef, (.int .u64 s), undef, undef, (.slice t8A t8n t8c), (.int .i64 t9), (.int .i64 t10), undef, undef, undef, undef, undef, undef, undef, undef, undef, undef, undef, undef] w
@[reducible] def word_upTo.B0 (R : Value → World → Prop) (most : Int) (s : Int) (t8A : Option Addr) (t8n : Nat) (t8c : Nat) (t9 : Int) (t10 : Int) (w : World) : Prop :=
  ifP (decide ((t10 : Int) < t9))
    (0 ≤ (t10 : Int) ∧ (t10 : Int) < ((t8n : Nat) : Int) ∧ ∃ t12p : Addr, t8A = some t12p ∧ ∃ t13 : Int, w.cell? (t12p.add (Int.toNat t10 * 1)) = some (.int .u32 t13) ∧ word_upTo.L0 R most (minI (IntKind.u64.wrap (s + (IntKind.u64.wrap t13))) most) t8A t8n t8c t9 (IntKind.i64.wrap (t10 + 1)) w)
    (R (.int .u32 (IntKind.u32.wrap s)) w)

@[reducible] def word_upTo.vc (R : Value → World → Prop) (most : Int) (xsA : Option Addr) (xsn : Nat) (xsc : Nat) (w : World) : Prop :=
  word_upTo.L0 R most 0 xsA xsn xsc ((xsn : Nat) : Int) 0 w

theorem word_upTo.B0_eq (R : Value → World → Prop) (most : Int) (s : Int) (t8A : Option Addr) (t8n : Nat) (t8c : Nat) (t9 : Int) (t10 : Int) (w : World) (ts : Nat → Value) :
    code Try.prog word_upTo.live 0 word_upTo.c0 (thenK (fun st w => loopVC (fun K => code Try.prog word_upTo.live 0 word_upTo.c0 K) (word_upTo.live 0) (word_upTo.K0 R) (clearFrom (word_upTo.live 0) 0 st) w) (word_upTo.K0 R)) (mergeFrom (word_upTo.live 0) ts 0 (clearFrom (word_upTo.live 0) 0 [(.int .u64 most), undef, undef, undef, undef, (.int .u64 s), undef, undef, (.slice t8A t8n t8c), (.int .i64 t9), (.int .i64 t10), undef, undef, undef, undef, undef, undef, undef, undef, undef, undef, undef, undef])) w = word_upTo.B0 R most s t8A t8n t8c t9 t10 w := by kernel_rfl
theorem word_upTo.L0_step {R : Value → World → Prop} {most : Int} {s : Int} {t8A : Option Addr} {t8n : Nat} {t8c : Nat} {t9 : Int} {t10 : Int} {w : World} (h : word_upTo.B0 R most s t8A t8n t8c t9 t10 w) : word_upTo.L0 R most s t8A t8n t8c t9 t10 w :=
  loop_step (live := word_upTo.live) (b := 0) (x := word_upTo.c0) fun ts => Eq.mpr (word_upTo.B0_eq R most s t8A t8n t8c t9 t10 w ts) h
theorem word_upTo.eq (R : Value → World → Prop) (most : Int) (xsA : Option Addr) (xsn : Nat) (xsc : Nat) (w : World) : fnVC Try.prog word_upTo.live Try.f31 R [(.int .u64 most), (.slice xsA xsn xsc)] w = word_upTo.vc R most xsA xsn xsc w := by kernel_rfl
theorem word_upTo.ok {R : Value → World → Prop} {most : Int} {xsA : Option Addr} {xsn : Nat} {xsc : Nat} {w : World} (h : word_upTo.vc R most xsA xsn xsc w) : Run Try.prog 31 #[(.int .u64 most), (.slice xsA xsn xsc)] w R :=
  fn_sound (args := [(.int .u64 most), (.slice xsA xsn xsc)]) Try.mixed Try.func31 (by kernel_rfl) (Eq.mpr (word_upTo.eq R most xsA xsn xsc w) h)

/-! ### riddle/word.Sum: function 21 -/
noncomputable def word_Sum.body : Code := bodyOf Try.f21
def word_Sum.live : Nat → List Nat
  | _ => []
@[reducible] def word_Sum.vc (R : Value → World → Prop) (xsA : Option Addr) (xsn : Nat) (xsc : Nat) (w : World) : Prop :=
  Run Try.prog 31 #[(.int .u64 4294967295), (.slice xsA xsn xsc)] w fun v w_2 => ∃ t4 : Int, v = (.int .u32 t4) ∧ R (.int .u32 t4) w_2

theorem word_Sum.eq (R : Value → World → Prop) (xsA : Option Addr) (xsn : Nat) (xsc : Nat) (w : World) : fnVC Try.prog word_Sum.live Try.f21 R [(.slice xsA xsn xsc)] w = word_Sum.vc R xsA xsn xsc w := by kernel_rfl
theorem word_Sum.ok {R : Value → World → Prop} {xsA : Option Addr} {xsn : Nat} {xsc : Nat} {w : World} (h : word_Sum.vc R xsA xsn xsc w) : Run Try.prog 21 #[(.slice xsA xsn xsc)] w R :=
  fn_sound (args := [(.slice xsA xsn xsc)]) Try.mixed Try.func21 (by kernel_rfl) (Eq.mpr (word_Sum.eq R xsA xsn xsc w) h)

/-! ### riddle/word.Hex: function 24 -/
noncomputable def word_Hex.body : Code := bodyOf Try.f24
def word_Hex.live : Nat → List Nat
  | 0 => [3, 10, 11, 12]
  | _ => []
noncomputable def word_Hex.c0 : Code := sub word_Hex.body [1, 1, 0, 1, 0, 0]
def word_Hex.K0 (R : Value → World → Prop) : Ex → St → World → Prop := (blockK 0 (thenK (fun st w => code Try.prog word_Hex.live 0 (sub word_Hex.body [1, 1, 1]) (retK Try.prog Try.f24 R) st w) (retK Try.prog Try.f24 R)))
def word_Hex.L0 (R : Value → World → Prop) (outA : Option Addr) (outn : Nat) (outc : Nat) (t10A : Option Addr) (t10n : Nat) (t10c : Nat) (t11 : Int) (t12 : Int) (w : World) : Prop :=
  loopVC (fun K => code Try.prog word_Hex.live 0 word_Hex.c0 K) (word_Hex.live 0) (word_Hex.K0 R) [undef, undef, undef, (.slice outA outn outc), undef, undef, undef, undef, undef, undef, (.slice t10A t10n t10c), (.int .i64 t11), (.int .i64 t12), undef, undef, undef, undef, undef, undef, undef, undef, undef, undef, undef, undef, undef, undef, undef] w
def word_Hex.J0 (R : Value → World → Prop) (outA : Option Addr) (outn : Nat) (outc : Nat) (t10A : Option Addr) (t10n : Nat) (t10c : Nat) (t11 : Int) (t12 : Int) (w : World) : Prop :=
  word_Hex.L0 R outA outn outc t10A t10n t10c t11 (IntKind.i64.wrap (t12 + 1)) w

@[reducible] def word_Hex.B0 (R : Value → World → Prop) (outA : Option Addr) (outn : Nat) (outc : Nat) (t10A : Option Addr) (t10n : Nat) (t10c : Nat) (t11 : Int) (t12 : Int) (w : World) : Prop :=
  ifP (decide ((t12 : Int) < t11))
    (0 ≤ (t12 : Int) ∧ (t12 : Int) < ((t10n : Nat) : Int) ∧ ∃ t14p : Addr, t10A = some t14p ∧ ∃ t15 : Int, w.cell? (t14p.add (Int.toNat t12 * 1)) = some (.int .u8 t15) ∧ letW w.drew fun w_2 => 0 ≤ (Int.fdiv t15 (2 ^ 4) : Int) ∧ (Int.fdiv t15 (2 ^ 4) : Int) < ((ByteArray.size (ByteArray.mk #[48, 49, 50, 51, 52, 53, 54, 55, 56, 57, 97, 98, 99, 100, 101, 102]) : Nat) : Int) ∧ 0 ≤ (andI .u8 t15 15 : Int) ∧ (andI .u8 t15 15 : Int) < ((ByteArray.size (ByteArray.mk #[48, 49, 50, 51, 52, 53, 54, 55, 56, 57, 97, 98, 99, 100, 101, 102]) : Nat) : Int) ∧ letW (w_2.alloc (.cells #[(.int .u8 (btAt (ByteArray.mk #[48, 49, 50, 51, 52, 53, 54, 55, 56, 57, 97, 98, 99, 100, 101, 102]) (Int.fdiv t15 (2 ^ 4)))), (.int .u8 (btAt (ByteArray.mk #[48, 49, 50, 51, 52, 53, 54, 55, 56, 57, 97, 98, 99, 100, 101, 102]) (andI .u8 t15 15)))] 5)) fun w_3 => ∃ (v : Value) (w_4 : World), (Builtin.append_ #[22, 22] 22 #[(.slice outA outn outc), (.slice (some (newA w_2)) 2 2)]).run Try.prog w_3 = .ok v w_4 ∧ ∃ (t24A : Option Addr) (t24n t24c : Nat), v = (.slice t24A t24n t24c) ∧ word_Hex.J0 R t24A t24n t24c t10A t10n t10c t11 t12 w_4)
    (∃ (v_2 : Value) (w_5 : World), (convert 22 9 (.slice outA outn outc)).run Try.prog w = .ok v_2 w_5 ∧ ∃ t27 : ByteArray, v_2 = (.string t27) ∧ R (.string t27) w_5)

@[reducible] def word_Hex.vc (R : Value → World → Prop) (bA : Option Addr) (bn : Nat) (bc : Nat) (w : World) : Prop :=
  ∃ (v : Value) (w_2 : World), (Instr.makeSlice 22 (.int .i64 0) (.int .i64 (IntKind.i64.wrap (2 * ((bn : Nat) : Int))))).run Try.prog w = .ok v w_2 ∧ ∃ (t9A : Option Addr) (t9n t9c : Nat), v = (.slice t9A t9n t9c) ∧ word_Hex.L0 R t9A t9n t9c bA bn bc ((bn : Nat) : Int) 0 w_2

theorem word_Hex.B0_eq (R : Value → World → Prop) (outA : Option Addr) (outn : Nat) (outc : Nat) (t10A : Option Addr) (t10n : Nat) (t10c : Nat) (t11 : Int) (t12 : Int) (w : World) (ts : Nat → Value) :
    code Try.prog word_Hex.live 0 word_Hex.c0 (thenK (fun st w => loopVC (fun K => code Try.prog word_Hex.live 0 word_Hex.c0 K) (word_Hex.live 0) (word_Hex.K0 R) (clearFrom (word_Hex.live 0) 0 st) w) (word_Hex.K0 R)) (mergeFrom (word_Hex.live 0) ts 0 (clearFrom (word_Hex.live 0) 0 [undef, undef, undef, (.slice outA outn outc), undef, undef, undef, undef, undef, undef, (.slice t10A t10n t10c), (.int .i64 t11), (.int .i64 t12), undef, undef, undef, undef, undef, undef, undef, undef, undef, undef, undef, undef, undef, undef, undef])) w = word_Hex.B0 R outA outn outc t10A t10n t10c t11 t12 w := by kernel_rfl
theorem word_Hex.L0_step {R : Value → World → Prop} {outA : Option Addr} {outn : Nat} {outc : Nat} {t10A : Option Addr} {t10n : Nat} {t10c : Nat} {t11 : Int} {t12 : Int} {w : World} (h : word_Hex.B0 R outA outn outc t10A t10n t10c t11 t12 w) : word_Hex.L0 R outA outn outc t10A t10n t10c t11 t12 w :=
  loop_step (live := word_Hex.live) (b := 0) (x := word_Hex.c0) fun ts => Eq.mpr (word_Hex.B0_eq R outA outn outc t10A t10n t10c t11 t12 w ts) h
theorem word_Hex.eq (R : Value → World → Prop) (bA : Option Addr) (bn : Nat) (bc : Nat) (w : World) : fnVC Try.prog word_Hex.live Try.f24 R [(.slice bA bn bc)] w = word_Hex.vc R bA bn bc w := by kernel_rfl
theorem word_Hex.ok {R : Value → World → Prop} {bA : Option Addr} {bn : Nat} {bc : Nat} {w : World} (h : word_Hex.vc R bA bn bc w) : Run Try.prog 24 #[(.slice bA bn bc)] w R :=
  fn_sound (args := [(.slice bA bn bc)]) Try.mixed Try.func24 (by kernel_rfl) (Eq.mpr (word_Hex.eq R bA bn bc w) h)

/-! ### riddle/word.digit: function 34 -/
noncomputable def word_digit.body : Code := bodyOf Try.f34
def word_digit.live : Nat → List Nat
  | _ => []
def word_digit.J1 (R : Value → World → Prop) (c : Int) (t13 : Bool) (w : World) : Prop :=
  ifP t13
    (R (.int .i64 (IntKind.i64.wrap ((IntKind.i64.wrap (IntKind.u8.wrap (c - 97))) + 10))) w)
    (R (.int .i64 (-1)) w)

def word_digit.J0 (R : Value → World → Prop) (c : Int) (t3 : Bool) (w : World) : Prop :=
  ifP t3
    (R (.int .i64 (IntKind.i64.wrap (IntKind.u8.wrap (c - 48)))) w)
    (ifP (decide ((c : Int) ≥ 97)) (word_digit.J1 R c (decide ((c : Int) ≤ 102)) w) (word_digit.J1 R c false w))

@[reducible] def word_digit.vc (R : Value → World → Prop) (c : Int) (w : World) : Prop :=
  ifP (decide ((c : Int) ≥ 48)) (word_digit.J0 R c (decide ((c : Int) ≤ 57)) w) (word_digit.J0 R c false w)

theorem word_digit.eq (R : Value → World → Prop) (c : Int) (w : World) : fnVC Try.prog word_digit.live Try.f34 R [(.int .u8 c)] w = word_digit.vc R c w := by kernel_rfl
theorem word_digit.ok {R : Value → World → Prop} {c : Int} {w : World} (h : word_digit.vc R c w) : Run Try.prog 34 #[(.int .u8 c)] w R :=
  fn_sound (args := [(.int .u8 c)]) Try.mixed Try.func34 (by kernel_rfl) (Eq.mpr (word_digit.eq R c w) h)

/-! ### riddle/word.Unhex: function 26 -/
noncomputable def word_Unhex.body : Code := bodyOf Try.f26
def word_Unhex.live : Nat → List Nat
  | 0 => [0, 4, 5]
  | _ => []
noncomputable def word_Unhex.c0 : Code := sub word_Unhex.body [1, 1, 1, 0, 1, 0, 0]
def word_Unhex.K0 (R : Value → World → Prop) : Ex → St → World → Prop := (blockK 0 (thenK (fun st w => code Try.prog word_Unhex.live 0 (sub word_Unhex.body [1, 1, 1, 1]) (retK Try.prog Try.f26 R) st w) (retK Try.prog Try.f26 R)))
def word_Unhex.L0 (R : Value → World → Prop) (s : ByteArray) (outA : Option Addr) (outn : Nat) (outc : Nat) (i : Int) (w : World) : Prop :=
  loopVC (fun K => code Try.prog word_Unhex.live 0 word_Unhex.c0 K) (word_Unhex.live 0) (word_Unhex.K0 R) [(.string s), undef, undef, undef, (.slice outA outn outc), (.int .i64 i), undef, undef, undef, undef, undef, undef, undef, undef, undef, undef, undef, undef, undef, undef, undef, undef, undef, undef, undef, undef, undef, undef, undef, undef, undef, undef, undef, undef, undef, undef, undef, undef, undef, undef, undef, undef, undef, undef, undef, undef] w
def word_Unhex.J1 (R : Value → World → Prop) (s : ByteArray) (outA : Option Addr) (outn : Nat) (outc : Nat) (i : Int) (hi : Int) (lo : Int) (t36 : Bool) (w : World) : Prop :=
  ifP t36
    (R (.tuple #[(.slice none 0 0), (.bool false)]) w)
    (letW (w.alloc (.cells #[(.int .u8 (IntKind.u8.wrap (orI .i64 (IntKind.i64.wrap (hi * 2 ^ 4)) lo)))] 5)) fun w_2 => ∃ (v : Value) (w_3 : World), (Builtin.append_ #[22, 22] 22 #[(.slice outA outn outc), (.slice (some (newA w)) 1 1)]).run Try.prog w_2 = .ok v w_3 ∧ ∃ (t44A : Option Addr) (t44n t44c : Nat), v = (.slice t44A t44n t44c) ∧ word_Unhex.L0 R s t44A t44n t44c (IntKind.i64.wrap (i + 2)) w_3)

def word_Unhex.J0 (R : Value → World → Prop) (s : ByteArray) (outA : Option Addr) (outn : Nat) (outc : Nat) (i : Int) (hi : Int) (lo : Int) (w : World) : Prop :=
  ifP (decide ((hi : Int) < 0)) (word_Unhex.J1 R s outA outn outc i hi lo true w) (word_Unhex.J1 R s outA outn outc i hi lo (decide ((lo : Int) < 0)) w)

@[reducible] def word_Unhex.B0 (R : Value → World → Prop) (s : ByteArray) (outA : Option Addr) (outn : Nat) (outc : Nat) (i : Int) (w : World) : Prop :=
  ifP (decide ((i : Int) < ((ByteArray.size s : Nat) : Int)))
    (letW w.drew fun w_2 => 0 ≤ (i : Int) ∧ (i : Int) < ((ByteArray.size s : Nat) : Int) ∧ 0 ≤ (IntKind.i64.wrap (i + 1) : Int) ∧ (IntKind.i64.wrap (i + 1) : Int) < ((ByteArray.size s : Nat) : Int) ∧ Run Try.prog 34 #[(.int .u8 (btAt s i))] w_2 fun v w_3 => ∃ t25 : Int, v = (.int .i64 t25) ∧ Run Try.prog 34 #[(.int .u8 (btAt s (IntKind.i64.wrap (i + 1))))] w_3 fun v_2 w_4 => ∃ t30 : Int, v_2 = (.int .i64 t30) ∧ word_Unhex.J0 R s outA outn outc i t25 t30 w_4)
    (R (.tuple #[(.slice outA outn outc), (.bool true)]) w)

@[reducible] def word_Unhex.vc (R : Value → World → Prop) (s : ByteArray) (w : World) : Prop :=
  ifP ((Int.tmod ((ByteArray.size s : Nat) : Int) 2 : Int) != 0)
    (R (.tuple #[(.slice none 0 0), (.bool false)]) w)
    (∃ (v : Value) (w_2 : World), (Instr.makeSlice 22 (.int .i64 0) (.int .i64 (IntKind.i64.wrap (Int.tdiv ((ByteArray.size s : Nat) : Int) 2)))).run Try.prog w = .ok v w_2 ∧ ∃ (t15A : Option Addr) (t15n t15c : Nat), v = (.slice t15A t15n t15c) ∧ word_Unhex.L0 R s t15A t15n t15c 0 w_2)

theorem word_Unhex.B0_eq (R : Value → World → Prop) (s : ByteArray) (outA : Option Addr) (outn : Nat) (outc : Nat) (i : Int) (w : World) (ts : Nat → Value) :
    code Try.prog word_Unhex.live 0 word_Unhex.c0 (thenK (fun st w => loopVC (fun K => code Try.prog word_Unhex.live 0 word_Unhex.c0 K) (word_Unhex.live 0) (word_Unhex.K0 R) (clearFrom (word_Unhex.live 0) 0 st) w) (word_Unhex.K0 R)) (mergeFrom (word_Unhex.live 0) ts 0 (clearFrom (word_Unhex.live 0) 0 [(.string s), undef, undef, undef, (.slice outA outn outc), (.int .i64 i), undef, undef, undef, undef, undef, undef, undef, undef, undef, undef, undef, undef, undef, undef, undef, undef, undef, undef, undef, undef, undef, undef, undef, undef, undef, undef, undef, undef, undef, undef, undef, undef, undef, undef, undef, undef, undef, undef, undef, undef])) w = word_Unhex.B0 R s outA outn outc i w := by kernel_rfl
theorem word_Unhex.L0_step {R : Value → World → Prop} {s : ByteArray} {outA : Option Addr} {outn : Nat} {outc : Nat} {i : Int} {w : World} (h : word_Unhex.B0 R s outA outn outc i w) : word_Unhex.L0 R s outA outn outc i w :=
  loop_step (live := word_Unhex.live) (b := 0) (x := word_Unhex.c0) fun ts => Eq.mpr (word_Unhex.B0_eq R s outA outn outc i w ts) h
theorem word_Unhex.eq (R : Value → World → Prop) (s : ByteArray) (w : World) : fnVC Try.prog word_Unhex.live Try.f26 R [(.string s)] w = word_Unhex.vc R s w := by kernel_rfl
theorem word_Unhex.ok {R : Value → World → Prop} {s : ByteArray} {w : World} (h : word_Unhex.vc R s w) : Run Try.prog 26 #[(.string s)] w R :=
  fn_sound (args := [(.string s)]) Try.mixed Try.func26 (by kernel_rfl) (Eq.mpr (word_Unhex.eq R s w) h)

/-! ### riddle/riddlelaw1.awake: function 14 -/
noncomputable def law1_awake.body : Code := bodyOf Try.f14
def law1_awake.live : Nat → List Nat
  | _ => []
def law1_awake.J0 (R : Value → World → Prop) (t0 : Bool) (w : World) : Prop :=
  R (.bool t0) w

@[reducible] def law1_awake.vc (R : Value → World → Prop) (w : World) : Prop :=
  letW (w.alloc (.cells #[(.int .u8 1), (.int .u8 2), (.int .u8 3)] 5)) fun w_2 => Run Try.prog 10 #[(.slice (some (newA w)) 3 3), (.int .i64 1), (.int .i64 2)] w_2 fun v w_3 => ∃ t90 : Int, ∃ t91 : Bool, v = (.tuple #[(.int .u32 t90), (.bool t91)]) ∧ letW (w_3.alloc (.cells #[(.int .u8 0), (.int .u8 0)] 5)) fun w_4 => Run Try.prog 16 #[(.slice (some (newA w_3)) 2 2), (.int .i64 1), (.int .i64 1), (.int .u32 511)] w_4 fun v_2 w_5 => ∃ (t140A : Option Addr) (t140n t140c : Nat), ∃ t141 : Bool, v_2 = (.tuple #[(.slice t140A t140n t140c), (.bool t141)]) ∧ Run Try.prog 26 #[(.string (ByteArray.mk #[48, 48, 102, 102]))] w_5 fun v_3 w_6 => ∃ (t180A : Option Addr) (t180n t180c : Nat), ∃ t181 : Bool, v_3 = (.tuple #[(.slice t180A t180n t180c), (.bool t181)]) ∧ ifP t91 (ifP ((t90 : Int) == 515) (ifP t141 (letW (w_6.alloc (.cells #[(.int .u8 0), (.int .u8 255)] 5)) fun w_7 => Run Try.prog 17 #[(.slice t140A t140n t140c), (.slice (some (newA w_6)) 2 2)] w_7 fun v_4 w_8 => ∃ t32 : Bool, v_4 = (.bool t32) ∧ ifP t32 (ifP t181 (letW (w_8.alloc (.cells #[(.int .u8 0), (.int .u8 255)] 5)) fun w_9 => Run Try.prog 17 #[(.slice t180A t180n t180c), (.slice (some (newA w_8)) 2 2)] w_9 fun v_5 w_10 => ∃ t40 : Bool, v_5 = (.bool t40) ∧ ifP t40 (Run Try.prog 24 #[(.slice t180A t180n t180c)] w_10 fun v_6 w_11 => ∃ t44 : ByteArray, v_6 = (.string t44) ∧ ifP (t44.toList == (ByteArray.mk #[48, 48, 102, 102]).toList) (letW (w_11.alloc (.cells #[(.int .u32 1), (.int .u32 2)] 24)) fun w_12 => Run Try.prog 21 #[(.slice (some (newA w_11)) 2 2)] w_12 fun v_7 w_13 => ∃ t49 : Int, v_7 = (.int .u32 t49) ∧ ifP ((t49 : Int) == 3) (letW (w_13.alloc (.cells #[(.int .u8 1)] 5)) fun w_14 => letW (w_14.alloc (.cells #[(.int .u8 2)] 5)) fun w_15 => letW (w_15.alloc (.cells #[(.slice (some (newA w_13)) 1 1), (.slice (some (newA w_14)) 1 1)] 22)) fun w_16 => Run Try.prog 19 #[(.slice (some (newA w_15)) 2 2)] w_16 fun v_8 w_17 => ∃ (t56A : Option Addr) (t56n t56c : Nat), v_8 = (.slice t56A t56n t56c) ∧ law1_awake.J0 R ((((t56n : Nat) : Int) : Int) == 2) w_17) (law1_awake.J0 R false w_13)) (law1_awake.J0 R false w_11)) (law1_awake.J0 R false w_10)) (law1_awake.J0 R false w_8)) (law1_awake.J0 R false w_8)) (law1_awake.J0 R false w_6)) (law1_awake.J0 R false w_6)) (law1_awake.J0 R false w_6)

theorem law1_awake.eq (R : Value → World → Prop) (w : World) : fnVC Try.prog law1_awake.live Try.f14 R [] w = law1_awake.vc R  w := by kernel_rfl
theorem law1_awake.ok {R : Value → World → Prop} {w : World} (h : law1_awake.vc R  w) : Run Try.prog 14 #[] w R :=
  fn_sound (args := []) Try.mixed Try.func14 (by kernel_rfl) (Eq.mpr (law1_awake.eq R  w) h)

/-! ### riddle/riddlelaw1.WordGets: function 3 -/
noncomputable def law1_WordGets.body : Code := bodyOf Try.f3
def law1_WordGets.live : Nat → List Nat
  | 0 => [0, 1, 2, 7]
  | _ => []
noncomputable def law1_WordGets.c0 : Code := sub law1_WordGets.body [1, 0, 1, 0, 0]
def law1_WordGets.K0 (R : Value → World → Prop) : Ex → St → World → Prop := (blockK 0 (thenK (fun st w => code Try.prog law1_WordGets.live 0 (sub law1_WordGets.body [1, 1]) (retK Try.prog Try.f3 R) st w) (retK Try.prog Try.f3 R)))
def law1_WordGets.L0 (R : Value → World → Prop) (bA : Option Addr) (bn : Nat) (bc : Nat) (at_ : Int) (size : Int) (s : Int) (w : World) : Prop :=
  loopVC (fun K => code Try.prog law1_WordGets.live 0 law1_WordGets.c0 K) (law1_WordGets.live 0) (law1_WordGets.K0 R) [(.slice bA bn bc), (.int .i64 at_), (.int .i64 size), undef, undef, undef, undef, (.int .i64 s), undef, undef, undef, undef, undef, undef, undef, undef, undef, undef, undef, undef, undef, undef, undef, undef, undef, undef, undef, undef, undef, undef, undef, undef, undef, undef, undef, undef, undef, undef, undef, undef, undef, undef, undef, undef, undef, undef, undef, undef, undef, undef, undef, undef, undef, undef, undef, undef, undef, undef, undef, undef, undef, undef, undef, undef, undef, undef, undef, undef, undef, undef, undef, undef, undef, undef, undef, undef, undef, undef, undef, undef, undef, undef, undef] w
def law1_WordGets.J2 (R : Value → World → Prop) (bA : Option Addr) (bn : Nat) (bc : Nat) (at_ : Int) (size : Int) (s : Int) (w : World) : Prop :=
  law1_WordGets.L0 R bA bn bc at_ size (IntKind.i64.wrap (s + 1)) w

def law1_WordGets.J1 (R : Value → World → Prop) (bA : Option Addr) (bn : Nat) (bc : Nat) (at_ : Int) (size : Int) (s : Int) (t56 : Bool) (w : World) : Prop :=
  ifP t56
    (R (.bool false) w)
    (law1_WordGets.J2 R bA bn bc at_ size s w)

def law1_WordGets.J0 (R : Value → World → Prop) (bA : Option Addr) (bn : Nat) (bc : Nat) (at_ : Int) (size : Int) (s : Int) (t26 : Bool) (w : World) : Prop :=
  ifP t26
    (Run Try.prog 9 #[(.slice bA bn bc)] w fun v w_2 => ∃ (t28A : Option Addr) (t28n t28c : Nat), v = (.slice t28A t28n t28c) ∧ Run Try.prog 10 #[(.slice t28A t28n t28c), (.int .i64 at_), (.int .i64 s)] w_2 fun v_2 w_3 => ∃ t330 : Int, ∃ t331 : Bool, v_2 = (.tuple #[(.int .u32 t330), (.bool t331)]) ∧ Run Try.prog 11 #[(.slice bA bn bc), (.int .i64 at_), (.int .i64 s)] w_3 fun v_3 w_4 => ∃ t400 : Int, ∃ t401 : Bool, v_3 = (.tuple #[(.int .u32 t400), (.bool t401)]) ∧ ifP ((t330 : Int) != t400) (law1_WordGets.J1 R bA bn bc at_ size s true w_4) (ifP (!(t331 == t401)) (law1_WordGets.J1 R bA bn bc at_ size s true w_4) (Run Try.prog 12 #[(.slice t28A t28n t28c), (.slice bA bn bc)] w_4 fun v_4 w_5 => ∃ t54 : Bool, v_4 = (.bool t54) ∧ law1_WordGets.J1 R bA bn bc at_ size s (!t54) w_5)))
    (law1_WordGets.J2 R bA bn bc at_ size s w)

def law1_WordGets.J3 (R : Value → World → Prop) (t6 : Bool) (w : World) : Prop :=
  R (.bool t6) w

@[reducible] def law1_WordGets.B0 (R : Value → World → Prop) (bA : Option Addr) (bn : Nat) (bc : Nat) (at_ : Int) (size : Int) (s : Int) (w : World) : Prop :=
  ifP (decide ((s : Int) < 6))
    (ifP (decide ((s : Int) < 5)) (law1_WordGets.J0 R bA bn bc at_ size s true w) (law1_WordGets.J0 R bA bn bc at_ size s ((size : Int) == 3) w))
    (Run Try.prog 13 #[(.slice bA bn bc)] w fun v w_2 => ∃ (t59A : Option Addr) (t59n t59c : Nat), v = (.slice t59A t59n t59c) ∧ Run Try.prog 10 #[(.slice t59A t59n t59c), (.int .i64 at_), (.int .i64 size)] w_2 fun v_2 w_3 => ∃ t620 : Int, ∃ t621 : Bool, v_2 = (.tuple #[(.int .u32 t620), (.bool t621)]) ∧ Run Try.prog 11 #[(.slice bA bn bc), (.int .i64 at_), (.int .i64 size)] w_3 fun v_3 w_4 => ∃ t690 : Int, ∃ t691 : Bool, v_3 = (.tuple #[(.int .u32 t690), (.bool t691)]) ∧ ifP ((t620 : Int) == t690) (ifP (t621 == t691) (Run Try.prog 14 #[] w_4 fun v_4 w_5 => ∃ t81 : Bool, v_4 = (.bool t81) ∧ law1_WordGets.J3 R t81 w_5) (law1_WordGets.J3 R false w_4)) (law1_WordGets.J3 R false w_4))

@[reducible] def law1_WordGets.vc (R : Value → World → Prop) (bA : Option Addr) (bn : Nat) (bc : Nat) (at_ : Int) (size : Int) (w : World) : Prop :=
  law1_WordGets.L0 R bA bn bc at_ size (-1) w

theorem law1_WordGets.B0_eq (R : Value → World → Prop) (bA : Option Addr) (bn : Nat) (bc : Nat) (at_ : Int) (size : Int) (s : Int) (w : World) (ts : Nat → Value) :
    code Try.prog law1_WordGets.live 0 law1_WordGets.c0 (thenK (fun st w => loopVC (fun K => code Try.prog law1_WordGets.live 0 law1_WordGets.c0 K) (law1_WordGets.live 0) (law1_WordGets.K0 R) (clearFrom (law1_WordGets.live 0) 0 st) w) (law1_WordGets.K0 R)) (mergeFrom (law1_WordGets.live 0) ts 0 (clearFrom (law1_WordGets.live 0) 0 [(.slice bA bn bc), (.int .i64 at_), (.int .i64 size), undef, undef, undef, undef, (.int .i64 s), undef, undef, undef, undef, undef, undef, undef, undef, undef, undef, undef, undef, undef, undef, undef, undef, undef, undef, undef, undef, undef, undef, undef, undef, undef, undef, undef, undef, undef, undef, undef, undef, undef, undef, undef, undef, undef, undef, undef, undef, undef, undef, undef, undef, undef, undef, undef, undef, undef, undef, undef, undef, undef, undef, undef, undef, undef, undef, undef, undef, undef, undef, undef, undef, undef, undef, undef, undef, undef, undef, undef, undef, undef, undef, undef])) w = law1_WordGets.B0 R bA bn bc at_ size s w := by kernel_rfl
theorem law1_WordGets.L0_step {R : Value → World → Prop} {bA : Option Addr} {bn : Nat} {bc : Nat} {at_ : Int} {size : Int} {s : Int} {w : World} (h : law1_WordGets.B0 R bA bn bc at_ size s w) : law1_WordGets.L0 R bA bn bc at_ size s w :=
  loop_step (live := law1_WordGets.live) (b := 0) (x := law1_WordGets.c0) fun ts => Eq.mpr (law1_WordGets.B0_eq R bA bn bc at_ size s w ts) h
theorem law1_WordGets.eq (R : Value → World → Prop) (bA : Option Addr) (bn : Nat) (bc : Nat) (at_ : Int) (size : Int) (w : World) : fnVC Try.prog law1_WordGets.live Try.f3 R [(.slice bA bn bc), (.int .i64 at_), (.int .i64 size)] w = law1_WordGets.vc R bA bn bc at_ size w := by kernel_rfl
theorem law1_WordGets.ok {R : Value → World → Prop} {bA : Option Addr} {bn : Nat} {bc : Nat} {at_ : Int} {size : Int} {w : World} (h : law1_WordGets.vc R bA bn bc at_ size w) : Run Try.prog 3 #[(.slice bA bn bc), (.int .i64 at_), (.int .i64 size)] w R :=
  fn_sound (args := [(.slice bA bn bc), (.int .i64 at_), (.int .i64 size)]) Try.mixed Try.func3 (by kernel_rfl) (Eq.mpr (law1_WordGets.eq R bA bn bc at_ size w) h)

/-! ### riddle/riddleref1.Put: function 15 -/
noncomputable def ref1_Put.body : Code := bodyOf Try.f15
def ref1_Put.live : Nat → List Nat
  | 0 => [1, 3, 10, 11]
  | _ => []
noncomputable def ref1_Put.c0 : Code := sub ref1_Put.body [1, 1, 1, 0, 1, 0, 0]
def ref1_Put.K0 (R : Value → World → Prop) : Ex → St → World → Prop := (blockK 0 (thenK (fun st w => code Try.prog ref1_Put.live 0 (sub ref1_Put.body [1, 1, 1, 1]) (retK Try.prog Try.f15 R) st w) (retK Try.prog Try.f15 R)))
def ref1_Put.L0 (R : Value → World → Prop) (at_ : Int) (v : Int) (outA : Option Addr) (outn : Nat) (outc : Nat) (i : Int) (w : World) : Prop :=
  loopVC (fun K => code Try.prog ref1_Put.live 0 ref1_Put.c0 K) (ref1_Put.live 0) (ref1_Put.K0 R) [undef, (.int .i64 at_), undef, (.int .u32 v), undef, undef, undef, undef, undef, undef, (.slice outA outn outc), (.int .i64 i), undef, undef, undef, undef, undef, undef, undef, undef, undef, undef, undef, undef, undef, undef, undef, undef, undef, undef, undef, undef, undef, undef, undef, undef, undef, undef, undef, undef, undef, undef, undef, undef, undef, undef, undef, undef, undef] w
@[reducible] def ref1_Put.B0 (R : Value → World → Prop) (at_ : Int) (v : Int) (outA : Option Addr) (outn : Nat) (outc : Nat) (i : Int) (w : World) : Prop :=
  ifP (decide ((i : Int) ≥ 0))
    (0 ≤ (IntKind.i64.wrap (at_ + i) : Int) ∧ (IntKind.i64.wrap (at_ + i) : Int) < ((outn : Nat) : Int) ∧ ∃ t45p : Addr, outA = some t45p ∧ (∃ u : Value, w.cell? (t45p.add (Int.toNat (IntKind.i64.wrap (at_ + i)) * 1)) = some u) ∧ w.frozen? (t45p.add (Int.toNat (IntKind.i64.wrap (at_ + i)) * 1)) = false ∧ letW (w.setCell (t45p.add (Int.toNat (IntKind.i64.wrap (at_ + i)) * 1)) (.int .u8 (IntKind.u8.wrap v))) fun w_2 => ref1_Put.L0 R at_ (Int.fdiv v (2 ^ 8)) outA outn outc (IntKind.i64.wrap (i - 1)) w_2)
    (R (.tuple #[(.slice outA outn outc), (.bool true)]) w)

def ref1_Put.J0 (R : Value → World → Prop) (bA : Option Addr) (bn : Nat) (bc : Nat) (at_ : Int) (size : Int) (v : Int) (t29 : Bool) (w : World) : Prop :=
  ifP t29
    (R (.tuple #[(.slice none 0 0), (.bool false)]) w)
    (letW (w.alloc (.cells #[] 5)) fun w_2 => ∃ (v_2 : Value) (w_3 : World), (Builtin.append_ #[22, 22] 22 #[(.slice (some (newA w)) 0 0), (.slice bA bn bc)]).run Try.prog w_2 = .ok v_2 w_3 ∧ ∃ (t32A : Option Addr) (t32n t32c : Nat), v_2 = (.slice t32A t32n t32c) ∧ ref1_Put.L0 R at_ v t32A t32n t32c (IntKind.i64.wrap (size - 1)) w_3)

@[reducible] def ref1_Put.vc (R : Value → World → Prop) (bA : Option Addr) (bn : Nat) (bc : Nat) (at_ : Int) (size : Int) (v : Int) (w : World) : Prop :=
  ifP ((size : Int) != 1) (ifP ((size : Int) != 2) (ifP ((size : Int) != 4) (ref1_Put.J0 R bA bn bc at_ size v true w) (Run Try.prog 29 #[(.int .i64 ((bn : Nat) : Int)), (.int .i64 at_), (.int .i64 size)] w fun v_2 w_2 => ∃ t27 : Bool, v_2 = (.bool t27) ∧ ref1_Put.J0 R bA bn bc at_ size v (!t27) w_2)) (Run Try.prog 29 #[(.int .i64 ((bn : Nat) : Int)), (.int .i64 at_), (.int .i64 size)] w fun v_3 w_3 => ∃ t27_2 : Bool, v_3 = (.bool t27_2) ∧ ref1_Put.J0 R bA bn bc at_ size v (!t27_2) w_3)) (Run Try.prog 29 #[(.int .i64 ((bn : Nat) : Int)), (.int .i64 at_), (.int .i64 size)] w fun v_4 w_4 => ∃ t27_3 : Bool, v_4 = (.bool t27_3) ∧ ref1_Put.J0 R bA bn bc at_ size v (!t27_3) w_4)

theorem ref1_Put.B0_eq (R : Value → World → Prop) (at_ : Int) (v : Int) (outA : Option Addr) (outn : Nat) (outc : Nat) (i : Int) (w : World) (ts : Nat → Value) :
    code Try.prog ref1_Put.live 0 ref1_Put.c0 (thenK (fun st w => loopVC (fun K => code Try.prog ref1_Put.live 0 ref1_Put.c0 K) (ref1_Put.live 0) (ref1_Put.K0 R) (clearFrom (ref1_Put.live 0) 0 st) w) (ref1_Put.K0 R)) (mergeFrom (ref1_Put.live 0) ts 0 (clearFrom (ref1_Put.live 0) 0 [undef, (.int .i64 at_), undef, (.int .u32 v), undef, undef, undef, undef, undef, undef, (.slice outA outn outc), (.int .i64 i), undef, undef, undef, undef, undef, undef, undef, undef, undef, undef, undef, undef, undef, undef, undef, undef, undef, undef, undef, undef, undef, undef, undef, undef, undef, undef, undef, undef, undef, undef, undef, undef, undef, undef, undef, undef, undef])) w = ref1_Put.B0 R at_ v outA outn outc i w := by kernel_rfl
theorem ref1_Put.L0_step {R : Value → World → Prop} {at_ : Int} {v : Int} {outA : Option Addr} {outn : Nat} {outc : Nat} {i : Int} {w : World} (h : ref1_Put.B0 R at_ v outA outn outc i w) : ref1_Put.L0 R at_ v outA outn outc i w :=
  loop_step (live := ref1_Put.live) (b := 0) (x := ref1_Put.c0) fun ts => Eq.mpr (ref1_Put.B0_eq R at_ v outA outn outc i w ts) h
theorem ref1_Put.eq (R : Value → World → Prop) (bA : Option Addr) (bn : Nat) (bc : Nat) (at_ : Int) (size : Int) (v : Int) (w : World) : fnVC Try.prog ref1_Put.live Try.f15 R [(.slice bA bn bc), (.int .i64 at_), (.int .i64 size), (.int .u32 v)] w = ref1_Put.vc R bA bn bc at_ size v w := by kernel_rfl
theorem ref1_Put.ok {R : Value → World → Prop} {bA : Option Addr} {bn : Nat} {bc : Nat} {at_ : Int} {size : Int} {v : Int} {w : World} (h : ref1_Put.vc R bA bn bc at_ size v w) : Run Try.prog 15 #[(.slice bA bn bc), (.int .i64 at_), (.int .i64 size), (.int .u32 v)] w R :=
  fn_sound (args := [(.slice bA bn bc), (.int .i64 at_), (.int .i64 size), (.int .u32 v)]) Try.mixed Try.func15 (by kernel_rfl) (Eq.mpr (ref1_Put.eq R bA bn bc at_ size v w) h)

/-! ### riddle/riddlelaw1.WordPuts: function 4 -/
noncomputable def law1_WordPuts.body : Code := bodyOf Try.f4
def law1_WordPuts.live : Nat → List Nat
  | _ => []
def law1_WordPuts.J1 (R : Value → World → Prop) (t8 : Bool) (w : World) : Prop :=
  R (.bool t8) w

def law1_WordPuts.J0 (R : Value → World → Prop) (wantA : Option Addr) (wantn : Nat) (wantc : Nat) (xA : Option Addr) (xn : Nat) (xc : Nat) (yA : Option Addr) (yn : Nat) (yc : Nat) (t60 : Bool) (w : World) : Prop :=
  ifP t60
    (R (.bool false) w)
    (Run Try.prog 18 #[(.slice xA xn xc)] w fun v w_2 => v = (.tuple #[]) ∧ Run Try.prog 17 #[(.slice yA yn yc), (.slice wantA wantn wantc)] w_2 fun v_2 w_3 => ∃ t65 : Bool, v_2 = (.bool t65) ∧ ifP t65 (Run Try.prog 14 #[] w_3 fun v_3 w_4 => ∃ t67 : Bool, v_3 = (.bool t67) ∧ law1_WordPuts.J1 R t67 w_4) (law1_WordPuts.J1 R false w_3))

@[reducible] def law1_WordPuts.vc (R : Value → World → Prop) (bA : Option Addr) (bn : Nat) (bc : Nat) (at_ : Int) (size : Int) (v : Int) (w : World) : Prop :=
  Run Try.prog 15 #[(.slice bA bn bc), (.int .i64 at_), (.int .i64 size), (.int .u32 v)] w fun v_2 w_2 => ∃ (t210A : Option Addr) (t210n t210c : Nat), ∃ t211 : Bool, v_2 = (.tuple #[(.slice t210A t210n t210c), (.bool t211)]) ∧ Run Try.prog 9 #[(.slice bA bn bc)] w_2 fun v_3 w_3 => ∃ (t25A : Option Addr) (t25n t25c : Nat), v_3 = (.slice t25A t25n t25c) ∧ Run Try.prog 16 #[(.slice t25A t25n t25c), (.int .i64 at_), (.int .i64 size), (.int .u32 v)] w_3 fun v_4 w_4 => ∃ (t310A : Option Addr) (t310n t310c : Nat), ∃ t311 : Bool, v_4 = (.tuple #[(.slice t310A t310n t310c), (.bool t311)]) ∧ Run Try.prog 12 #[(.slice t25A t25n t25c), (.slice bA bn bc)] w_4 fun v_5 w_5 => ∃ t36 : Bool, v_5 = (.bool t36) ∧ ifP (!t36)
    (R (.bool false) w_5)
    (Run Try.prog 13 #[(.slice bA bn bc)] w_5 fun v_6 w_6 => ∃ (t40A : Option Addr) (t40n t40c : Nat), v_6 = (.slice t40A t40n t40c) ∧ Run Try.prog 16 #[(.slice t40A t40n t40c), (.int .i64 at_), (.int .i64 size), (.int .u32 v)] w_6 fun v_7 w_7 => ∃ (t440A : Option Addr) (t440n t440c : Nat), ∃ t441 : Bool, v_7 = (.tuple #[(.slice t440A t440n t440c), (.bool t441)]) ∧ ifP (!(t311 == t211)) (law1_WordPuts.J0 R t210A t210n t210c t310A t310n t310c t440A t440n t440c true w_7) (ifP (!(t441 == t211)) (law1_WordPuts.J0 R t210A t210n t210c t310A t310n t310c t440A t440n t440c true w_7) (Run Try.prog 17 #[(.slice t310A t310n t310c), (.slice t210A t210n t210c)] w_7 fun v_8 w_8 => ∃ t58 : Bool, v_8 = (.bool t58) ∧ law1_WordPuts.J0 R t210A t210n t210c t310A t310n t310c t440A t440n t440c (!t58) w_8)))

theorem law1_WordPuts.eq (R : Value → World → Prop) (bA : Option Addr) (bn : Nat) (bc : Nat) (at_ : Int) (size : Int) (v : Int) (w : World) : fnVC Try.prog law1_WordPuts.live Try.f4 R [(.slice bA bn bc), (.int .i64 at_), (.int .i64 size), (.int .u32 v)] w = law1_WordPuts.vc R bA bn bc at_ size v w := by kernel_rfl
theorem law1_WordPuts.ok {R : Value → World → Prop} {bA : Option Addr} {bn : Nat} {bc : Nat} {at_ : Int} {size : Int} {v : Int} {w : World} (h : law1_WordPuts.vc R bA bn bc at_ size v w) : Run Try.prog 4 #[(.slice bA bn bc), (.int .i64 at_), (.int .i64 size), (.int .u32 v)] w R :=
  fn_sound (args := [(.slice bA bn bc), (.int .i64 at_), (.int .i64 size), (.int .u32 v)]) Try.mixed Try.func4 (by kernel_rfl) (Eq.mpr (law1_WordPuts.eq R bA bn bc at_ size v w) h)

/-! ### riddle/riddlelaw1.WordBack: function 5 -/
noncomputable def law1_WordBack.body : Code := bodyOf Try.f5
def law1_WordBack.live : Nat → List Nat
  | 0 => [0, 1, 2, 7]
  | 2 => [0, 1, 2, 7, 8, 20]
  | _ => []
noncomputable def law1_WordBack.c0 : Code := sub law1_WordBack.body [1, 0, 1, 0, 0]
noncomputable def law1_WordBack.c2 : Code := sub law1_WordBack.body [1, 0, 1, 0, 0, 1, 0, 0, 1, 1, 1, 1, 1, 1, 1, 1, 1, 1, 1, 1, 0, 0]
def law1_WordBack.K0 (R : Value → World → Prop) : Ex → St → World → Prop := (blockK 0 (thenK (fun st w => code Try.prog law1_WordBack.live 0 (sub law1_WordBack.body [1, 1]) (retK Try.prog Try.f5 R) st w) (retK Try.prog Try.f5 R)))
def law1_WordBack.L0 (R : Value → World → Prop) (bA : Option Addr) (bn : Nat) (bc : Nat) (at_ : Int) (v : Int) (s : Int) (w : World) : Prop :=
  loopVC (fun K => code Try.prog law1_WordBack.live 0 law1_WordBack.c0 K) (law1_WordBack.live 0) (law1_WordBack.K0 R) [(.slice bA bn bc), (.int .i64 at_), (.int .u32 v), undef, undef, undef, undef, (.int .i64 s), undef, undef, undef, undef, undef, undef, undef, undef, undef, undef, undef, undef, undef, undef, undef, undef, undef, undef, undef, undef, undef, undef, undef, undef, undef, undef, undef, undef, undef, undef, undef, undef, undef, undef, undef, undef, undef, undef, undef, undef, undef, undef, undef, undef, undef, undef, undef, undef, undef, undef, undef, undef, undef, undef, undef, undef, undef, undef, undef, undef, undef, undef, undef, undef, undef, undef, undef, undef, undef, undef, undef, undef, undef, undef, undef, undef, undef, undef, undef, undef, undef, undef, undef, undef, undef, undef, undef, undef, undef, undef, undef, undef, undef, undef, undef, undef, undef, undef, undef, undef, undef, undef, undef, undef, undef, undef, undef, undef, undef, undef, undef, undef, undef, undef, undef, undef, undef, undef, undef, undef, undef, undef, undef, undef, undef, undef, undef, undef, undef, undef, undef, undef, undef, undef, undef, undef, undef, undef, undef] w
def law1_WordBack.K2 (R : Value → World → Prop) : Ex → St → World → Prop := (blockK 2 (blockK 1 (thenK (fun st w => code Try.prog law1_WordBack.live 0 (sub law1_WordBack.body [1, 0, 1, 0, 0, 1, 1]) (thenK (fun st w => loopVC (fun K => code Try.prog law1_WordBack.live 0 law1_WordBack.c0 K) (law1_WordBack.live 0) (law1_WordBack.K0 R) (clearFrom (law1_WordBack.live 0) 0 st) w) (law1_WordBack.K0 R)) st w) (thenK (fun st w => loopVC (fun K => code Try.prog law1_WordBack.live 0 law1_WordBack.c0 K) (law1_WordBack.live 0) (law1_WordBack.K0 R) (clearFrom (law1_WordBack.live 0) 0 st) w) (law1_WordBack.K0 R)))))
def law1_WordBack.L2 (R : Value → World → Prop) (bA : Option Addr) (bn : Nat) (bc : Nat) (at_ : Int) (v : Int) (s : Int) (xA : Option Addr) (xn : Nat) (xc : Nat) (i : Int) (w : World) : Prop :=
  loopVC (fun K => code Try.prog law1_WordBack.live 2 law1_WordBack.c2 K) (law1_WordBack.live 2) (law1_WordBack.K2 R) [(.slice bA bn bc), (.int .i64 at_), (.int .u32 v), undef, undef, undef, undef, (.int .i64 s), (.slice xA xn xc), undef, undef, undef, undef, undef, undef, undef, undef, undef, undef, undef, (.int .i64 i), undef, undef, undef, undef, undef, undef, undef, undef, undef, undef, undef, undef, undef, undef, undef, undef, undef, undef, undef, undef, undef, undef, undef, undef, undef, undef, undef, undef, undef, undef, undef, undef, undef, undef, undef, undef, undef, undef, undef, undef, undef, undef, undef, undef, undef, undef, undef, undef, undef, undef, undef, undef, undef, undef, undef, undef, undef, undef, undef, undef, undef, undef, undef, undef, undef, undef, undef, undef, undef, undef, undef, undef, undef, undef, undef, undef, undef, undef, undef, undef, undef, undef, undef, undef, undef, undef, undef, undef, undef, undef, undef, undef, undef, undef, undef, undef, undef, undef, undef, undef, undef, undef, undef, undef, undef, undef, undef, undef, undef, undef, undef, undef, undef, undef, undef, undef, undef, undef, undef, undef, undef, undef, undef, undef, undef, undef] w
def law1_WordBack.J1 (R : Value → World → Prop) (bA : Option Addr) (bn : Nat) (bc : Nat) (at_ : Int) (v : Int) (s : Int) (w : World) : Prop :=
  law1_WordBack.L0 R bA bn bc at_ v (IntKind.i64.wrap (2 * s)) w

def law1_WordBack.J4 (R : Value → World → Prop) (bA : Option Addr) (bn : Nat) (bc : Nat) (at_ : Int) (v : Int) (s : Int) (xA : Option Addr) (xn : Nat) (xc : Nat) (i : Int) (t145 : Bool) (w : World) : Prop :=
  ifP t145
    (R (.bool false) w)
    (law1_WordBack.L2 R bA bn bc at_ v s xA xn xc (IntKind.i64.wrap (i + 1)) w)

@[reducible] def law1_WordBack.B2 (R : Value → World → Prop) (bA : Option Addr) (bn : Nat) (bc : Nat) (at_ : Int) (v : Int) (s : Int) (xA : Option Addr) (xn : Nat) (xc : Nat) (i : Int) (w : World) : Prop :=
  ifP (decide ((i : Int) < ((bn : Nat) : Int)))
    (letW w.drew fun w_2 => ifP (decide ((i : Int) < at_)) (0 ≤ (i : Int) ∧ (i : Int) < ((xn : Nat) : Int) ∧ ∃ t138p : Addr, xA = some t138p ∧ ∃ t139 : Int, w_2.cell? (t138p.add (Int.toNat i * 1)) = some (.int .u8 t139) ∧ 0 ≤ (i : Int) ∧ (i : Int) < ((bn : Nat) : Int) ∧ ∃ t142p : Addr, bA = some t142p ∧ ∃ t143 : Int, w_2.cell? (t142p.add (Int.toNat i * 1)) = some (.int .u8 t143) ∧ law1_WordBack.J4 R bA bn bc at_ v s xA xn xc i ((t139 : Int) != t143) w_2) (ifP (decide ((i : Int) ≥ (IntKind.i64.wrap (at_ + s)))) (0 ≤ (i : Int) ∧ (i : Int) < ((xn : Nat) : Int) ∧ ∃ t138p_2 : Addr, xA = some t138p_2 ∧ ∃ t139_2 : Int, w_2.cell? (t138p_2.add (Int.toNat i * 1)) = some (.int .u8 t139_2) ∧ 0 ≤ (i : Int) ∧ (i : Int) < ((bn : Nat) : Int) ∧ ∃ t142p_2 : Addr, bA = some t142p_2 ∧ ∃ t143_2 : Int, w_2.cell? (t142p_2.add (Int.toNat i * 1)) = some (.int .u8 t143_2) ∧ law1_WordBack.J4 R bA bn bc at_ v s xA xn xc i ((t139_2 : Int) != t143_2) w_2) (law1_WordBack.J4 R bA bn bc at_ v s xA xn xc i false w_2)))
    (law1_WordBack.J1 R bA bn bc at_ v s w)

def law1_WordBack.J3 (R : Value → World → Prop) (bA : Option Addr) (bn : Nat) (bc : Nat) (at_ : Int) (v : Int) (s : Int) (xA : Option Addr) (xn : Nat) (xc : Nat) (t118 : Bool) (w : World) : Prop :=
  ifP t118
    (R (.bool false) w)
    (law1_WordBack.L2 R bA bn bc at_ v s xA xn xc 0 w)

def law1_WordBack.J2 (R : Value → World → Prop) (bA : Option Addr) (bn : Nat) (bc : Nat) (at_ : Int) (v : Int) (s : Int) (xA : Option Addr) (xn : Nat) (xc : Nat) (low : Int) (w : World) : Prop :=
  Run Try.prog 13 #[(.slice xA xn xc)] w fun v_2 w_2 => ∃ (t60A : Option Addr) (t60n t60c : Nat), v_2 = (.slice t60A t60n t60c) ∧ Run Try.prog 10 #[(.slice t60A t60n t60c), (.int .i64 at_), (.int .i64 s)] w_2 fun v_3 w_3 => ∃ t630 : Int, ∃ t631 : Bool, v_3 = (.tuple #[(.int .u32 t630), (.bool t631)]) ∧ Run Try.prog 13 #[(.slice xA xn xc)] w_3 fun v_4 w_4 => ∃ (t68A : Option Addr) (t68n t68c : Nat), v_4 = (.slice t68A t68n t68c) ∧ Run Try.prog 10 #[(.slice t68A t68n t68c), (.int .i64 at_), (.int .i64 1)] w_4 fun v_5 w_5 => ∃ t700 : Int, ∃ t701 : Bool, v_5 = (.tuple #[(.int .u32 t700), (.bool t701)]) ∧ Run Try.prog 13 #[(.slice bA bn bc)] w_5 fun v_6 w_6 => ∃ (t75A : Option Addr) (t75n t75c : Nat), v_6 = (.slice t75A t75n t75c) ∧ Run Try.prog 10 #[(.slice t75A t75n t75c), (.int .i64 at_), (.int .i64 s)] w_6 fun v_7 w_7 => ∃ t780 : Int, ∃ t781 : Bool, v_7 = (.tuple #[(.int .u32 t780), (.bool t781)]) ∧ Run Try.prog 13 #[(.slice xA xn xc)] w_7 fun v_8 w_8 => ∃ (t83A : Option Addr) (t83n t83c : Nat), v_8 = (.slice t83A t83n t83c) ∧ Run Try.prog 16 #[(.slice t83A t83n t83c), (.int .i64 at_), (.int .i64 s), (.int .u32 t780)] w_8 fun v_9 w_9 => ∃ (t870A : Option Addr) (t870n t870c : Nat), ∃ t871 : Bool, v_9 = (.tuple #[(.slice t870A t870n t870c), (.bool t871)]) ∧ ifP (!t631) (law1_WordBack.J3 R bA bn bc at_ v s xA xn xc true w_9) (ifP ((t630 : Int) != low) (law1_WordBack.J3 R bA bn bc at_ v s xA xn xc true w_9) (ifP ((((xn : Nat) : Int) : Int) != ((bn : Nat) : Int)) (law1_WordBack.J3 R bA bn bc at_ v s xA xn xc true w_9) (0 ≤ (IntKind.i64.wrap ((IntKind.i64.wrap (8 * s)) - 8)) ∧ ifP ((t700 : Int) != (Int.fdiv low (2 ^ (min (Int.toNat (IntKind.i64.wrap ((IntKind.i64.wrap (8 * s)) - 8))) (IntKind.bits .u32))))) (law1_WordBack.J3 R bA bn bc at_ v s xA xn xc true w_9) (Run Try.prog 17 #[(.slice t870A t870n t870c), (.slice bA bn bc)] w_9 fun v_10 w_10 => ∃ t116 : Bool, v_10 = (.bool t116) ∧ law1_WordBack.J3 R bA bn bc at_ v s xA xn xc (!t116) w_10))))

def law1_WordBack.J0 (R : Value → World → Prop) (bA : Option Addr) (bn : Nat) (bc : Nat) (at_ : Int) (v : Int) (s : Int) (xA : Option Addr) (xn : Nat) (xc : Nat) (ok : Bool) (in_ : Bool) (w : World) : Prop :=
  ifP (!(ok == in_))
    (R (.bool false) w)
    (ifP (!ok)
    (law1_WordBack.J1 R bA bn bc at_ v s w)
    (ifP (decide ((s : Int) < 4))
    (0 ≤ (IntKind.i64.wrap (8 * s)) ∧ law1_WordBack.J2 R bA bn bc at_ v s xA xn xc (andI .u32 v (IntKind.u32.wrap ((IntKind.u32.wrap (1 * 2 ^ (min (Int.toNat (IntKind.i64.wrap (8 * s))) (IntKind.bits .u32)))) - 1))) w)
    (law1_WordBack.J2 R bA bn bc at_ v s xA xn xc v w)))

@[reducible] def law1_WordBack.B0 (R : Value → World → Prop) (bA : Option Addr) (bn : Nat) (bc : Nat) (at_ : Int) (v : Int) (s : Int) (w : World) : Prop :=
  ifP (decide ((s : Int) ≤ 4))
    (Run Try.prog 13 #[(.slice bA bn bc)] w fun v_2 w_2 => ∃ (t27A : Option Addr) (t27n t27c : Nat), v_2 = (.slice t27A t27n t27c) ∧ Run Try.prog 16 #[(.slice t27A t27n t27c), (.int .i64 at_), (.int .i64 s), (.int .u32 v)] w_2 fun v_3 w_3 => ∃ (t310A : Option Addr) (t310n t310c : Nat), ∃ t311 : Bool, v_3 = (.tuple #[(.slice t310A t310n t310c), (.bool t311)]) ∧ ifP (decide ((at_ : Int) ≥ 0)) (law1_WordBack.J0 R bA bn bc at_ v s t310A t310n t310c t311 (decide ((at_ : Int) ≤ (IntKind.i64.wrap (((bn : Nat) : Int) - s)))) w_3) (law1_WordBack.J0 R bA bn bc at_ v s t310A t310n t310c t311 false w_3))
    (Run Try.prog 14 #[] w fun v_4 w_4 => ∃ t146 : Bool, v_4 = (.bool t146) ∧ R (.bool t146) w_4)

@[reducible] def law1_WordBack.vc (R : Value → World → Prop) (bA : Option Addr) (bn : Nat) (bc : Nat) (at_ : Int) (v : Int) (w : World) : Prop :=
  law1_WordBack.L0 R bA bn bc at_ v 1 w

theorem law1_WordBack.B0_eq (R : Value → World → Prop) (bA : Option Addr) (bn : Nat) (bc : Nat) (at_ : Int) (v : Int) (s : Int) (w : World) (ts : Nat → Value) :
    code Try.prog law1_WordBack.live 0 law1_WordBack.c0 (thenK (fun st w => loopVC (fun K => code Try.prog law1_WordBack.live 0 law1_WordBack.c0 K) (law1_WordBack.live 0) (law1_WordBack.K0 R) (clearFrom (law1_WordBack.live 0) 0 st) w) (law1_WordBack.K0 R)) (mergeFrom (law1_WordBack.live 0) ts 0 (clearFrom (law1_WordBack.live 0) 0 [(.slice bA bn bc), (.int .i64 at_), (.int .u32 v), undef, undef, undef, undef, (.int .i64 s), undef, undef, undef, undef, undef, undef, undef, undef, undef, undef, undef, undef, undef, undef, undef, undef, undef, undef, undef, undef, undef, undef, undef, undef, undef, undef, undef, undef, undef, undef, undef, undef, undef, undef, undef, undef, undef, undef, undef, undef, undef, undef, undef, undef, undef, undef, undef, undef, undef, undef, undef, undef, undef, undef, undef, undef, undef, undef, undef, undef, undef, undef, undef, undef, undef, undef, undef, undef, undef, undef, undef, undef, undef, undef, undef, undef, undef, undef, undef, undef, undef, undef, undef, undef, undef, undef, undef, undef, undef, undef, undef, undef, undef, undef, undef, undef, undef, undef, undef, undef, undef, undef, undef, undef, undef, undef, undef, undef, undef, undef, undef, undef, undef, undef, undef, undef, undef, undef, undef, undef, undef, undef, undef, undef, undef, undef, undef, undef, undef, undef, undef, undef, undef, undef, undef, undef, undef, undef, undef])) w = law1_WordBack.B0 R bA bn bc at_ v s w := by kernel_rfl
theorem law1_WordBack.L0_step {R : Value → World → Prop} {bA : Option Addr} {bn : Nat} {bc : Nat} {at_ : Int} {v : Int} {s : Int} {w : World} (h : law1_WordBack.B0 R bA bn bc at_ v s w) : law1_WordBack.L0 R bA bn bc at_ v s w :=
  loop_step (live := law1_WordBack.live) (b := 0) (x := law1_WordBack.c0) fun ts => Eq.mpr (law1_WordBack.B0_eq R bA bn bc at_ v s w ts) h
theorem law1_WordBack.B2_eq (R : Value → World → Prop) (bA : Option Addr) (bn : Nat) (bc : Nat) (at_ : Int) (v : Int) (s : Int) (xA : Option Addr) (xn : Nat) (xc : Nat) (i : Int) (w : World) (ts : Nat → Value) :
    code Try.prog law1_WordBack.live 2 law1_WordBack.c2 (thenK (fun st w => loopVC (fun K => code Try.prog law1_WordBack.live 2 law1_WordBack.c2 K) (law1_WordBack.live 2) (law1_WordBack.K2 R) (clearFrom (law1_WordBack.live 2) 0 st) w) (law1_WordBack.K2 R)) (mergeFrom (law1_WordBack.live 2) ts 0 (clearFrom (law1_WordBack.live 2) 0 [(.slice bA bn bc), (.int .i64 at_), (.int .u32 v), undef, undef, undef, undef, (.int .i64 s), (.slice xA xn xc), undef, undef, undef, undef, undef, undef, undef, undef, undef, undef, undef, (.int .i64 i), undef, undef, undef, undef, undef, undef, undef, undef, undef, undef, undef, undef, undef, undef, undef, undef, undef, undef, undef, undef, undef, undef, undef, undef, undef, undef, undef, undef, undef, undef, undef, undef, undef, undef, undef, undef, undef, undef, undef, undef, undef, undef, undef, undef, undef, undef, undef, undef, undef, undef, undef, undef, undef, undef, undef, undef, undef, undef, undef, undef, undef, undef, undef, undef, undef, undef, undef, undef, undef, undef, undef, undef, undef, undef, undef, undef, undef, undef, undef, undef, undef, undef, undef, undef, undef, undef, undef, undef, undef, undef, undef, undef, undef, undef, undef, undef, undef, undef, undef, undef, undef, undef, undef, undef, undef, undef, undef, undef, undef, undef, undef, undef, undef, undef, undef, undef, undef, undef, undef, undef, undef, undef, undef, undef, undef, undef])) w = law1_WordBack.B2 R bA bn bc at_ v s xA xn xc i w := by kernel_rfl
theorem law1_WordBack.L2_step {R : Value → World → Prop} {bA : Option Addr} {bn : Nat} {bc : Nat} {at_ : Int} {v : Int} {s : Int} {xA : Option Addr} {xn : Nat} {xc : Nat} {i : Int} {w : World} (h : law1_WordBack.B2 R bA bn bc at_ v s xA xn xc i w) : law1_WordBack.L2 R bA bn bc at_ v s xA xn xc i w :=
  loop_step (live := law1_WordBack.live) (b := 2) (x := law1_WordBack.c2) fun ts => Eq.mpr (law1_WordBack.B2_eq R bA bn bc at_ v s xA xn xc i w ts) h
theorem law1_WordBack.eq (R : Value → World → Prop) (bA : Option Addr) (bn : Nat) (bc : Nat) (at_ : Int) (v : Int) (w : World) : fnVC Try.prog law1_WordBack.live Try.f5 R [(.slice bA bn bc), (.int .i64 at_), (.int .u32 v)] w = law1_WordBack.vc R bA bn bc at_ v w := by kernel_rfl
theorem law1_WordBack.ok {R : Value → World → Prop} {bA : Option Addr} {bn : Nat} {bc : Nat} {at_ : Int} {v : Int} {w : World} (h : law1_WordBack.vc R bA bn bc at_ v w) : Run Try.prog 5 #[(.slice bA bn bc), (.int .i64 at_), (.int .u32 v)] w R :=
  fn_sound (args := [(.slice bA bn bc), (.int .i64 at_), (.int .u32 v)]) Try.mixed Try.func5 (by kernel_rfl) (Eq.mpr (law1_WordBack.eq R bA bn bc at_ v w) h)

/-! ### riddle/riddlelaw1.WordJoins: function 6 -/
noncomputable def law1_WordJoins.body : Code := bodyOf Try.f6
def law1_WordJoins.live : Nat → List Nat
  | _ => []
def law1_WordJoins.J1 (R : Value → World → Prop) (t6 : Bool) (w : World) : Prop :=
  R (.bool t6) w

def law1_WordJoins.J0 (R : Value → World → Prop) (aA : Option Addr) (an : Nat) (ac : Nat) (bA : Option Addr) (bn : Nat) (bc : Nat) (cA : Option Addr) (cn : Nat) (cc : Nat) (wantA : Option Addr) (wantn : Nat) (wantc : Nat) (oneA : Option Addr) (onen : Nat) (onec : Nat) (t52 : Bool) (w : World) : Prop :=
  ifP t52
    (R (.bool false) w)
    (Run Try.prog 13 #[(.slice aA an ac)] w fun v w_2 => ∃ (t54A : Option Addr) (t54n t54c : Nat), v = (.slice t54A t54n t54c) ∧ Run Try.prog 13 #[(.slice bA bn bc)] w_2 fun v_2 w_3 => ∃ (t56A : Option Addr) (t56n t56c : Nat), v_2 = (.slice t56A t56n t56c) ∧ letW (w_3.alloc (.cells #[(.slice t54A t54n t54c), (.slice t56A t56n t56c)] 22)) fun w_4 => Run Try.prog 19 #[(.slice (some (newA w_3)) 2 2)] w_4 fun v_3 w_5 => ∃ (t58A : Option Addr) (t58n t58c : Nat), v_3 = (.slice t58A t58n t58c) ∧ Run Try.prog 13 #[(.slice cA cn cc)] w_5 fun v_4 w_6 => ∃ (t60A : Option Addr) (t60n t60c : Nat), v_4 = (.slice t60A t60n t60c) ∧ letW (w_6.alloc (.cells #[(.slice t58A t58n t58c), (.slice t60A t60n t60c)] 22)) fun w_7 => Run Try.prog 19 #[(.slice (some (newA w_6)) 2 2)] w_7 fun v_5 w_8 => ∃ (t62A : Option Addr) (t62n t62c : Nat), v_5 = (.slice t62A t62n t62c) ∧ Run Try.prog 13 #[(.slice aA an ac)] w_8 fun v_6 w_9 => ∃ (t64A : Option Addr) (t64n t64c : Nat), v_6 = (.slice t64A t64n t64c) ∧ Run Try.prog 19 #[(.slice none 0 0)] w_9 fun v_7 w_10 => ∃ (t65A : Option Addr) (t65n t65c : Nat), v_7 = (.slice t65A t65n t65c) ∧ Run Try.prog 13 #[(.slice bA bn bc)] w_10 fun v_8 w_11 => ∃ (t67A : Option Addr) (t67n t67c : Nat), v_8 = (.slice t67A t67n t67c) ∧ Run Try.prog 13 #[(.slice cA cn cc)] w_11 fun v_9 w_12 => ∃ (t69A : Option Addr) (t69n t69c : Nat), v_9 = (.slice t69A t69n t69c) ∧ letW (w_12.alloc (.cells #[(.slice t67A t67n t67c), (.slice t69A t69n t69c)] 22)) fun w_13 => Run Try.prog 19 #[(.slice (some (newA w_12)) 2 2)] w_13 fun v_10 w_14 => ∃ (t71A : Option Addr) (t71n t71c : Nat), v_10 = (.slice t71A t71n t71c) ∧ letW (w_14.alloc (.cells #[(.slice t64A t64n t64c), (.slice t65A t65n t65c), (.slice t71A t71n t71c)] 22)) fun w_15 => Run Try.prog 19 #[(.slice (some (newA w_14)) 3 3)] w_15 fun v_11 w_16 => ∃ (t73A : Option Addr) (t73n t73c : Nat), v_11 = (.slice t73A t73n t73c) ∧ Run Try.prog 18 #[(.slice oneA onen onec)] w_16 fun v_12 w_17 => v_12 = (.tuple #[]) ∧ Run Try.prog 17 #[(.slice t62A t62n t62c), (.slice wantA wantn wantc)] w_17 fun v_13 w_18 => ∃ t78 : Bool, v_13 = (.bool t78) ∧ ifP t78 (Run Try.prog 17 #[(.slice t73A t73n t73c), (.slice wantA wantn wantc)] w_18 fun v_14 w_19 => ∃ t82 : Bool, v_14 = (.bool t82) ∧ ifP t82 (Run Try.prog 19 #[(.slice none 0 0)] w_19 fun v_15 w_20 => ∃ (t85A : Option Addr) (t85n t85c : Nat), v_15 = (.slice t85A t85n t85c) ∧ ifP ((((t85n : Nat) : Int) : Int) == 0) (Run Try.prog 14 #[] w_20 fun v_16 w_21 => ∃ t90 : Bool, v_16 = (.bool t90) ∧ law1_WordJoins.J1 R t90 w_21) (law1_WordJoins.J1 R false w_20)) (law1_WordJoins.J1 R false w_19)) (law1_WordJoins.J1 R false w_18))

@[reducible] def law1_WordJoins.vc (R : Value → World → Prop) (aA : Option Addr) (an : Nat) (ac : Nat) (bA : Option Addr) (bn : Nat) (bc : Nat) (cA : Option Addr) (cn : Nat) (cc : Nat) (w : World) : Prop :=
  Run Try.prog 13 #[(.slice aA an ac)] w fun v w_2 => ∃ (t15A : Option Addr) (t15n t15c : Nat), v = (.slice t15A t15n t15c) ∧ ∃ (v_2 : Value) (w_3 : World), (Builtin.append_ #[22, 22] 22 #[(.slice t15A t15n t15c), (.slice bA bn bc)]).run Try.prog w_2 = .ok v_2 w_3 ∧ ∃ (t17A : Option Addr) (t17n t17c : Nat), v_2 = (.slice t17A t17n t17c) ∧ ∃ (v_3 : Value) (w_4 : World), (Builtin.append_ #[22, 22] 22 #[(.slice t17A t17n t17c), (.slice cA cn cc)]).run Try.prog w_3 = .ok v_3 w_4 ∧ ∃ (t19A : Option Addr) (t19n t19c : Nat), v_3 = (.slice t19A t19n t19c) ∧ Run Try.prog 9 #[(.slice aA an ac)] w_4 fun v_4 w_5 => ∃ (t21A : Option Addr) (t21n t21c : Nat), v_4 = (.slice t21A t21n t21c) ∧ Run Try.prog 9 #[(.slice bA bn bc)] w_5 fun v_5 w_6 => ∃ (t23A : Option Addr) (t23n t23c : Nat), v_5 = (.slice t23A t23n t23c) ∧ Run Try.prog 9 #[(.slice cA cn cc)] w_6 fun v_6 w_7 => ∃ (t25A : Option Addr) (t25n t25c : Nat), v_6 = (.slice t25A t25n t25c) ∧ letW (w_7.alloc (.cells #[(.slice t21A t21n t21c), (.slice t23A t23n t23c), (.slice t25A t25n t25c)] 22)) fun w_8 => Run Try.prog 19 #[(.slice (some (newA w_7)) 3 3)] w_8 fun v_7 w_9 => ∃ (t30A : Option Addr) (t30n t30c : Nat), v_7 = (.slice t30A t30n t30c) ∧ Run Try.prog 12 #[(.slice t21A t21n t21c), (.slice aA an ac)] w_9 fun v_8 w_10 => ∃ t33 : Bool, v_8 = (.bool t33) ∧ ifP (!t33) (law1_WordJoins.J0 R aA an ac bA bn bc cA cn cc t19A t19n t19c t30A t30n t30c true w_10) (Run Try.prog 12 #[(.slice t23A t23n t23c), (.slice bA bn bc)] w_10 fun v_9 w_11 => ∃ t38 : Bool, v_9 = (.bool t38) ∧ ifP (!t38) (law1_WordJoins.J0 R aA an ac bA bn bc cA cn cc t19A t19n t19c t30A t30n t30c true w_11) (Run Try.prog 12 #[(.slice t25A t25n t25c), (.slice cA cn cc)] w_11 fun v_10 w_12 => ∃ t44 : Bool, v_10 = (.bool t44) ∧ ifP (!t44) (law1_WordJoins.J0 R aA an ac bA bn bc cA cn cc t19A t19n t19c t30A t30n t30c true w_12) (Run Try.prog 17 #[(.slice t30A t30n t30c), (.slice t19A t19n t19c)] w_12 fun v_11 w_13 => ∃ t50 : Bool, v_11 = (.bool t50) ∧ law1_WordJoins.J0 R aA an ac bA bn bc cA cn cc t19A t19n t19c t30A t30n t30c (!t50) w_13)))

theorem law1_WordJoins.eq (R : Value → World → Prop) (aA : Option Addr) (an : Nat) (ac : Nat) (bA : Option Addr) (bn : Nat) (bc : Nat) (cA : Option Addr) (cn : Nat) (cc : Nat) (w : World) : fnVC Try.prog law1_WordJoins.live Try.f6 R [(.slice aA an ac), (.slice bA bn bc), (.slice cA cn cc)] w = law1_WordJoins.vc R aA an ac bA bn bc cA cn cc w := by kernel_rfl
theorem law1_WordJoins.ok {R : Value → World → Prop} {aA : Option Addr} {an : Nat} {ac : Nat} {bA : Option Addr} {bn : Nat} {bc : Nat} {cA : Option Addr} {cn : Nat} {cc : Nat} {w : World} (h : law1_WordJoins.vc R aA an ac bA bn bc cA cn cc w) : Run Try.prog 6 #[(.slice aA an ac), (.slice bA bn bc), (.slice cA cn cc)] w R :=
  fn_sound (args := [(.slice aA an ac), (.slice bA bn bc), (.slice cA cn cc)]) Try.mixed Try.func6 (by kernel_rfl) (Eq.mpr (law1_WordJoins.eq R aA an ac bA bn bc cA cn cc w) h)

/-! ### riddle/riddlelaw0.CopyWords: function 30 -/
noncomputable def law0_CopyWords.body : Code := bodyOf Try.f30
def law0_CopyWords.live : Nat → List Nat
  | _ => []
@[reducible] def law0_CopyWords.vc (R : Value → World → Prop) (aA : Option Addr) (an : Nat) (ac : Nat) (w : World) : Prop :=
  letW (w.alloc (.cells #[] 24)) fun w_2 => ∃ (v : Value) (w_3 : World), (Builtin.append_ #[37, 37] 37 #[(.slice (some (newA w)) 0 0), (.slice aA an ac)]).run Try.prog w_2 = .ok v w_3 ∧ ∃ (t5A : Option Addr) (t5n t5c : Nat), v = (.slice t5A t5n t5c) ∧ R (.slice t5A t5n t5c) w_3

theorem law0_CopyWords.eq (R : Value → World → Prop) (aA : Option Addr) (an : Nat) (ac : Nat) (w : World) : fnVC Try.prog law0_CopyWords.live Try.f30 R [(.slice aA an ac)] w = law0_CopyWords.vc R aA an ac w := by kernel_rfl
theorem law0_CopyWords.ok {R : Value → World → Prop} {aA : Option Addr} {an : Nat} {ac : Nat} {w : World} (h : law0_CopyWords.vc R aA an ac w) : Run Try.prog 30 #[(.slice aA an ac)] w R :=
  fn_sound (args := [(.slice aA an ac)]) Try.mixed Try.func30 (by kernel_rfl) (Eq.mpr (law0_CopyWords.eq R aA an ac w) h)

/-! ### riddle/riddlelaw0.LendWords: function 20 -/
noncomputable def law0_LendWords.body : Code := bodyOf Try.f20
def law0_LendWords.live : Nat → List Nat
  | _ => []
@[reducible] def law0_LendWords.vc (R : Value → World → Prop) (aA : Option Addr) (an : Nat) (ac : Nat) (w : World) : Prop :=
  Run Try.prog 30 #[(.slice aA an ac)] w fun v w_2 => ∃ (t5A : Option Addr) (t5n t5c : Nat), v = (.slice t5A t5n t5c) ∧ letW (w_2.alloc (.cells #[(.int .u32 77), (.int .u32 77), (.int .u32 77)] 24)) fun w_3 => ∃ (v_2 : Value) (w_4 : World), (Builtin.append_ #[37, 37] 37 #[(.slice t5A t5n t5c), (.slice (some (newA w_2)) 3 3)]).run Try.prog w_3 = .ok v_2 w_4 ∧ ∃ (t7A : Option Addr) (t7n t7c : Nat), v_2 = (.slice t7A t7n t7c) ∧ (0 : Int) ≤ 0 ∧ (0 : Int) ≤ ((an : Nat) : Int) ∧ (((an : Nat) : Int) : Int) ≤ ((t7c : Nat) : Int) ∧ R (.slice (subA t7A t7c 0 1) ((Int.toNat ((an : Nat) : Int)) - 0) (t7c - 0)) w_4

theorem law0_LendWords.eq (R : Value → World → Prop) (aA : Option Addr) (an : Nat) (ac : Nat) (w : World) : fnVC Try.prog law0_LendWords.live Try.f20 R [(.slice aA an ac)] w = law0_LendWords.vc R aA an ac w := by kernel_rfl
theorem law0_LendWords.ok {R : Value → World → Prop} {aA : Option Addr} {an : Nat} {ac : Nat} {w : World} (h : law0_LendWords.vc R aA an ac w) : Run Try.prog 20 #[(.slice aA an ac)] w R :=
  fn_sound (args := [(.slice aA an ac)]) Try.mixed Try.func20 (by kernel_rfl) (Eq.mpr (law0_LendWords.eq R aA an ac w) h)

/-! ### riddle/riddlelaw0.SameWords: function 32 -/
noncomputable def law0_SameWords.body : Code := bodyOf Try.f32
def law0_SameWords.live : Nat → List Nat
  | 0 => [0, 1, 5]
  | _ => []
noncomputable def law0_SameWords.c0 : Code := sub law0_SameWords.body [1, 1, 0, 1, 0, 0]
def law0_SameWords.K0 (R : Value → World → Prop) : Ex → St → World → Prop := (blockK 0 (thenK (fun st w => code Try.prog law0_SameWords.live 0 (sub law0_SameWords.body [1, 1, 1]) (retK Try.prog Try.f32 R) st w) (retK Try.prog Try.f32 R)))
def law0_SameWords.L0 (R : Value → World → Prop) (aA : Option Addr) (an : Nat) (ac : Nat) (bA : Option Addr) (bn : Nat) (bc : Nat) (i : Int) (w : World) : Prop :=
  loopVC (fun K => code Try.prog law0_SameWords.live 0 law0_SameWords.c0 K) (law0_SameWords.live 0) (law0_SameWords.K0 R) [(.slice aA an ac), (.slice bA bn bc), undef, undef, undef, (.int .i64 i), undef, undef, undef, undef, undef, undef, undef, undef, undef, undef, undef, undef, undef, undef, undef, undef, undef, undef, undef, undef] w
@[reducible] def law0_SameWords.B0 (R : Value → World → Prop) (aA : Option Addr) (an : Nat) (ac : Nat) (bA : Option Addr) (bn : Nat) (bc : Nat) (i : Int) (w : World) : Prop :=
  ifP (decide ((i : Int) < ((an : Nat) : Int)))
    (letW w.drew fun w_2 => 0 ≤ (i : Int) ∧ (i : Int) < ((an : Nat) : Int) ∧ ∃ t19p : Addr, aA = some t19p ∧ ∃ t20 : Int, w_2.cell? (t19p.add (Int.toNat i * 1)) = some (.int .u32 t20) ∧ 0 ≤ (i : Int) ∧ (i : Int) < ((bn : Nat) : Int) ∧ ∃ t23p : Addr, bA = some t23p ∧ ∃ t24 : Int, w_2.cell? (t23p.add (Int.toNat i * 1)) = some (.int .u32 t24) ∧ ifP ((t20 : Int) != t24)
    (R (.bool false) w_2)
    (law0_SameWords.L0 R aA an ac bA bn bc (IntKind.i64.wrap (i + 1)) w_2))
    (R (.bool true) w)

@[reducible] def law0_SameWords.vc (R : Value → World → Prop) (aA : Option Addr) (an : Nat) (ac : Nat) (bA : Option Addr) (bn : Nat) (bc : Nat) (w : World) : Prop :=
  ifP ((((an : Nat) : Int) : Int) != ((bn : Nat) : Int))
    (R (.bool false) w)
    (law0_SameWords.L0 R aA an ac bA bn bc 0 w)

theorem law0_SameWords.B0_eq (R : Value → World → Prop) (aA : Option Addr) (an : Nat) (ac : Nat) (bA : Option Addr) (bn : Nat) (bc : Nat) (i : Int) (w : World) (ts : Nat → Value) :
    code Try.prog law0_SameWords.live 0 law0_SameWords.c0 (thenK (fun st w => loopVC (fun K => code Try.prog law0_SameWords.live 0 law0_SameWords.c0 K) (law0_SameWords.live 0) (law0_SameWords.K0 R) (clearFrom (law0_SameWords.live 0) 0 st) w) (law0_SameWords.K0 R)) (mergeFrom (law0_SameWords.live 0) ts 0 (clearFrom (law0_SameWords.live 0) 0 [(.slice aA an ac), (.slice bA bn bc), undef, undef, undef, (.int .i64 i), undef, undef, undef, undef, undef, undef, undef, undef, undef, undef, undef, undef, undef, undef, undef, undef, undef, undef, undef, undef])) w = law0_SameWords.B0 R aA an ac bA bn bc i w := by kernel_rfl
theorem law0_SameWords.L0_step {R : Value → World → Prop} {aA : Option Addr} {an : Nat} {ac : Nat} {bA : Option Addr} {bn : Nat} {bc : Nat} {i : Int} {w : World} (h : law0_SameWords.B0 R aA an ac bA bn bc i w) : law0_SameWords.L0 R aA an ac bA bn bc i w :=
  loop_step (live := law0_SameWords.live) (b := 0) (x := law0_SameWords.c0) fun ts => Eq.mpr (law0_SameWords.B0_eq R aA an ac bA bn bc i w ts) h
theorem law0_SameWords.eq (R : Value → World → Prop) (aA : Option Addr) (an : Nat) (ac : Nat) (bA : Option Addr) (bn : Nat) (bc : Nat) (w : World) : fnVC Try.prog law0_SameWords.live Try.f32 R [(.slice aA an ac), (.slice bA bn bc)] w = law0_SameWords.vc R aA an ac bA bn bc w := by kernel_rfl
theorem law0_SameWords.ok {R : Value → World → Prop} {aA : Option Addr} {an : Nat} {ac : Nat} {bA : Option Addr} {bn : Nat} {bc : Nat} {w : World} (h : law0_SameWords.vc R aA an ac bA bn bc w) : Run Try.prog 32 #[(.slice aA an ac), (.slice bA bn bc)] w R :=
  fn_sound (args := [(.slice aA an ac), (.slice bA bn bc)]) Try.mixed Try.func32 (by kernel_rfl) (Eq.mpr (law0_SameWords.eq R aA an ac bA bn bc w) h)

/-! ### riddle/riddlelaw0.SpoilWords: function 33 -/
noncomputable def law0_SpoilWords.body : Code := bodyOf Try.f33
def law0_SpoilWords.live : Nat → List Nat
  | 0 => [0, 2, 3]
  | 2 => [0, 4]
  | _ => []
noncomputable def law0_SpoilWords.c0 : Code := sub law0_SpoilWords.body [1, 0, 1, 0, 0]
noncomputable def law0_SpoilWords.c2 : Code := sub law0_SpoilWords.body [1, 1, 1, 0, 0]
def law0_SpoilWords.K0 (R : Value → World → Prop) : Ex → St → World → Prop := (blockK 0 (thenK (fun st w => code Try.prog law0_SpoilWords.live 0 (sub law0_SpoilWords.body [1, 1]) (retK Try.prog Try.f33 R) st w) (retK Try.prog Try.f33 R)))
def law0_SpoilWords.L0 (R : Value → World → Prop) (aA : Option Addr) (an : Nat) (ac : Nat) (fullA : Option Addr) (fulln : Nat) (fullc : Nat) (i : Int) (w : World) : Prop :=
  loopVC (fun K => code Try.prog law0_SpoilWords.live 0 law0_SpoilWords.c0 K) (law0_SpoilWords.live 0) (law0_SpoilWords.K0 R) [(.slice aA an ac), undef, (.slice fullA fulln fullc), (.int .i64 i), undef, undef, undef, undef, undef, undef, undef, undef, undef, undef, undef, undef, undef, undef, undef, undef, undef, undef, undef, undef, undef, undef] w
def law0_SpoilWords.K2 (R : Value → World → Prop) : Ex → St → World → Prop := (blockK 2 (retK Try.prog Try.f33 R))
def law0_SpoilWords.L2 (R : Value → World → Prop) (aA : Option Addr) (an : Nat) (ac : Nat) (i : Int) (w : World) : Prop :=
  loopVC (fun K => code Try.prog law0_SpoilWords.live 2 law0_SpoilWords.c2 K) (law0_SpoilWords.live 2) (law0_SpoilWords.K2 R) [(.slice aA an ac), undef, undef, undef, (.int .i64 i), undef, undef, undef, undef, undef, undef, undef, undef, undef, undef, undef, undef, undef, undef, undef, undef, undef, undef, undef, undef, undef] w
@[reducible] def law0_SpoilWords.B2 (R : Value → World → Prop) (aA : Option Addr) (an : Nat) (ac : Nat) (i : Int) (w : World) : Prop :=
  ifP (decide ((i : Int) < ((an : Nat) : Int)))
    (0 ≤ (i : Int) ∧ (i : Int) < ((an : Nat) : Int) ∧ ∃ t25p : Addr, aA = some t25p ∧ (∃ u : Value, w.cell? (t25p.add (Int.toNat i * 1)) = some u) ∧ w.frozen? (t25p.add (Int.toNat i * 1)) = false ∧ letW (w.setCell (t25p.add (Int.toNat i * 1)) (.int .u32 77)) fun w_2 => law0_SpoilWords.L2 R aA an ac (IntKind.i64.wrap (i + 1)) w_2)
    (R (.tuple #[]) w)

@[reducible] def law0_SpoilWords.B0 (R : Value → World → Prop) (aA : Option Addr) (an : Nat) (ac : Nat) (fullA : Option Addr) (fulln : Nat) (fullc : Nat) (i : Int) (w : World) : Prop :=
  ifP (decide ((i : Int) < ((fulln : Nat) : Int)))
    (0 ≤ (i : Int) ∧ (i : Int) < ((fulln : Nat) : Int) ∧ ∃ t16p : Addr, fullA = some t16p ∧ (∃ u : Value, w.cell? (t16p.add (Int.toNat i * 1)) = some u) ∧ w.frozen? (t16p.add (Int.toNat i * 1)) = false ∧ letW (w.setCell (t16p.add (Int.toNat i * 1)) (.int .u32 77)) fun w_2 => law0_SpoilWords.L0 R aA an ac fullA fulln fullc (IntKind.i64.wrap (i + 1)) w_2)
    (law0_SpoilWords.L2 R aA an ac 0 w)

@[reducible] def law0_SpoilWords.vc (R : Value → World → Prop) (aA : Option Addr) (an : Nat) (ac : Nat) (w : World) : Prop :=
  letW (w.alloc (.cells #[(.int .u32 77)] 24)) fun w_2 => ∃ (v : Value) (w_3 : World), (Builtin.append_ #[37, 37] 37 #[(.slice aA an ac), (.slice (some (newA w)) 1 1)]).run Try.prog w_2 = .ok v w_3 ∧ ∃ (t7A : Option Addr) (t7n t7c : Nat), v = (.slice t7A t7n t7c) ∧ law0_SpoilWords.L0 R aA an ac t7A t7n t7c 0 w_3

theorem law0_SpoilWords.B0_eq (R : Value → World → Prop) (aA : Option Addr) (an : Nat) (ac : Nat) (fullA : Option Addr) (fulln : Nat) (fullc : Nat) (i : Int) (w : World) (ts : Nat → Value) :
    code Try.prog law0_SpoilWords.live 0 law0_SpoilWords.c0 (thenK (fun st w => loopVC (fun K => code Try.prog law0_SpoilWords.live 0 law0_SpoilWords.c0 K) (law0_SpoilWords.live 0) (law0_SpoilWords.K0 R) (clearFrom (law0_SpoilWords.live 0) 0 st) w) (law0_SpoilWords.K0 R)) (mergeFrom (law0_SpoilWords.live 0) ts 0 (clearFrom (law0_SpoilWords.live 0) 0 [(.slice aA an ac), undef, (.slice fullA fulln fullc), (.int .i64 i), undef, undef, undef, undef, undef, undef, undef, undef, undef, undef, undef, undef, undef, undef, undef, undef, undef, undef, undef, undef, undef, undef])) w = law0_SpoilWords.B0 R aA an ac fullA fulln fullc i w := by kernel_rfl
theorem law0_SpoilWords.L0_step {R : Value → World → Prop} {aA : Option Addr} {an : Nat} {ac : Nat} {fullA : Option Addr} {fulln : Nat} {fullc : Nat} {i : Int} {w : World} (h : law0_SpoilWords.B0 R aA an ac fullA fulln fullc i w) : law0_SpoilWords.L0 R aA an ac fullA fulln fullc i w :=
  loop_step (live := law0_SpoilWords.live) (b := 0) (x := law0_SpoilWords.c0) fun ts => Eq.mpr (law0_SpoilWords.B0_eq R aA an ac fullA fulln fullc i w ts) h
theorem law0_SpoilWords.B2_eq (R : Value → World → Prop) (aA : Option Addr) (an : Nat) (ac : Nat) (i : Int) (w : World) (ts : Nat → Value) :
    code Try.prog law0_SpoilWords.live 2 law0_SpoilWords.c2 (thenK (fun st w => loopVC (fun K => code Try.prog law0_SpoilWords.live 2 law0_SpoilWords.c2 K) (law0_SpoilWords.live 2) (law0_SpoilWords.K2 R) (clearFrom (law0_SpoilWords.live 2) 0 st) w) (law0_SpoilWords.K2 R)) (mergeFrom (law0_SpoilWords.live 2) ts 0 (clearFrom (law0_SpoilWords.live 2) 0 [(.slice aA an ac), undef, undef, undef, (.int .i64 i), undef, undef, undef, undef, undef, undef, undef, undef, undef, undef, undef, undef, undef, undef, undef, undef, undef, undef, undef, undef, undef])) w = law0_SpoilWords.B2 R aA an ac i w := by kernel_rfl
theorem law0_SpoilWords.L2_step {R : Value → World → Prop} {aA : Option Addr} {an : Nat} {ac : Nat} {i : Int} {w : World} (h : law0_SpoilWords.B2 R aA an ac i w) : law0_SpoilWords.L2 R aA an ac i w :=
  loop_step (live := law0_SpoilWords.live) (b := 2) (x := law0_SpoilWords.c2) fun ts => Eq.mpr (law0_SpoilWords.B2_eq R aA an ac i w ts) h
theorem law0_SpoilWords.eq (R : Value → World → Prop) (aA : Option Addr) (an : Nat) (ac : Nat) (w : World) : fnVC Try.prog law0_SpoilWords.live Try.f33 R [(.slice aA an ac)] w = law0_SpoilWords.vc R aA an ac w := by kernel_rfl
theorem law0_SpoilWords.ok {R : Value → World → Prop} {aA : Option Addr} {an : Nat} {ac : Nat} {w : World} (h : law0_SpoilWords.vc R aA an ac w) : Run Try.prog 33 #[(.slice aA an ac)] w R :=
  fn_sound (args := [(.slice aA an ac)]) Try.mixed Try.func33 (by kernel_rfl) (Eq.mpr (law0_SpoilWords.eq R aA an ac w) h)

/-! ### riddle/riddlelaw0.KeptWords: function 22 -/
noncomputable def law0_KeptWords.body : Code := bodyOf Try.f22
def law0_KeptWords.live : Nat → List Nat
  | _ => []
def law0_KeptWords.J0 (R : Value → World → Prop) (fullA : Option Addr) (fulln : Nat) (fullc : Nat) (ok : Bool) (w : World) : Prop :=
  Run Try.prog 33 #[(.slice fullA fulln fullc)] w fun v w_2 => v = (.tuple #[]) ∧ R (.bool ok) w_2

@[reducible] def law0_KeptWords.vc (R : Value → World → Prop) (lentA : Option Addr) (lentn : Nat) (lentc : Nat) (aA : Option Addr) (an : Nat) (ac : Nat) (w : World) : Prop :=
  (0 : Int) ≤ 0 ∧ (0 : Int) ≤ IntKind.i64.wrap (((lentn : Nat) : Int) + 3) ∧ (IntKind.i64.wrap (((lentn : Nat) : Int) + 3) : Int) ≤ ((lentc : Nat) : Int) ∧ Run Try.prog 32 #[(.slice lentA lentn lentc), (.slice aA an ac)] w fun v w_2 => ∃ t14 : Bool, v = (.bool t14) ∧ ifP t14 ((0 : Int) ≤ ((an : Nat) : Int) ∧ (((an : Nat) : Int) : Int) ≤ (((Int.toNat (IntKind.i64.wrap (((lentn : Nat) : Int) + 3))) - 0 : Nat) : Int) ∧ ((((Int.toNat (IntKind.i64.wrap (((lentn : Nat) : Int) + 3))) - 0 : Nat) : Int) : Int) ≤ ((lentc - 0 : Nat) : Int) ∧ letW (w_2.alloc (.cells #[(.int .u32 77), (.int .u32 77), (.int .u32 77)] 24)) fun w_3 => Run Try.prog 32 #[(.slice (subA (subA lentA lentc 0 1) (lentc - 0) (Int.toNat ((an : Nat) : Int)) 1) (((Int.toNat (IntKind.i64.wrap (((lentn : Nat) : Int) + 3))) - 0) - (Int.toNat ((an : Nat) : Int))) ((lentc - 0) - (Int.toNat ((an : Nat) : Int)))), (.slice (some (newA w_2)) 3 3)] w_3 fun v_2 w_4 => ∃ t21 : Bool, v_2 = (.bool t21) ∧ law0_KeptWords.J0 R (subA lentA lentc 0 1) ((Int.toNat (IntKind.i64.wrap (((lentn : Nat) : Int) + 3))) - 0) (lentc - 0) t21 w_4) (law0_KeptWords.J0 R (subA lentA lentc 0 1) ((Int.toNat (IntKind.i64.wrap (((lentn : Nat) : Int) + 3))) - 0) (lentc - 0) false w_2)

theorem law0_KeptWords.eq (R : Value → World → Prop) (lentA : Option Addr) (lentn : Nat) (lentc : Nat) (aA : Option Addr) (an : Nat) (ac : Nat) (w : World) : fnVC Try.prog law0_KeptWords.live Try.f22 R [(.slice lentA lentn lentc), (.slice aA an ac)] w = law0_KeptWords.vc R lentA lentn lentc aA an ac w := by kernel_rfl
theorem law0_KeptWords.ok {R : Value → World → Prop} {lentA : Option Addr} {lentn : Nat} {lentc : Nat} {aA : Option Addr} {an : Nat} {ac : Nat} {w : World} (h : law0_KeptWords.vc R lentA lentn lentc aA an ac w) : Run Try.prog 22 #[(.slice lentA lentn lentc), (.slice aA an ac)] w R :=
  fn_sound (args := [(.slice lentA lentn lentc), (.slice aA an ac)]) Try.mixed Try.func22 (by kernel_rfl) (Eq.mpr (law0_KeptWords.eq R lentA lentn lentc aA an ac w) h)

/-! ### riddle/riddlelaw0.Low: function 23 -/
noncomputable def law0_Low.body : Code := bodyOf Try.f23
def law0_Low.live : Nat → List Nat
  | _ => []
@[reducible] def law0_Low.vc (R : Value → World → Prop) (x : Int) (w : World) : Prop :=
  R (.int .i64 (andI .i64 x 9223372036854775807)) w

theorem law0_Low.eq (R : Value → World → Prop) (x : Int) (w : World) : fnVC Try.prog law0_Low.live Try.f23 R [(.int .i64 x)] w = law0_Low.vc R x w := by kernel_rfl
theorem law0_Low.ok {R : Value → World → Prop} {x : Int} {w : World} (h : law0_Low.vc R x w) : Run Try.prog 23 #[(.int .i64 x)] w R :=
  fn_sound (args := [(.int .i64 x)]) Try.mixed Try.func23 (by kernel_rfl) (Eq.mpr (law0_Low.eq R x w) h)

/-! ### riddle/riddlelaw1.WordSums: function 7 -/
noncomputable def law1_WordSums.body : Code := bodyOf Try.f7
def law1_WordSums.live : Nat → List Nat
  | 0 => [0, 1, 5, 6]
  | 2 => [0, 1, 8, 9, 10]
  | _ => []
noncomputable def law1_WordSums.c0 : Code := sub law1_WordSums.body [1, 1, 0, 1, 0, 0]
noncomputable def law1_WordSums.c2 : Code := sub law1_WordSums.body [1, 1, 1, 1, 1, 1, 1, 0, 1, 0, 0]
def law1_WordSums.K0 (R : Value → World → Prop) : Ex → St → World → Prop := (blockK 0 (thenK (fun st w => code Try.prog law1_WordSums.live 0 (sub law1_WordSums.body [1, 1, 1]) (retK Try.prog Try.f7 R) st w) (retK Try.prog Try.f7 R)))
def law1_WordSums.L0 (R : Value → World → Prop) (xsA : Option Addr) (xsn : Nat) (xsc : Nat) (at_ : Int) (exact : Int) (i : Int) (w : World) : Prop :=
  loopVC (fun K => code Try.prog law1_WordSums.live 0 law1_WordSums.c0 K) (law1_WordSums.live 0) (law1_WordSums.K0 R) [(.slice xsA xsn xsc), (.int .i64 at_), undef, undef, undef, (.int .u64 exact), (.int .i64 i), undef, undef, undef, undef, undef, undef, undef, undef, undef, undef, undef, undef, undef, undef, undef, undef, undef, undef, undef, undef, undef, undef, undef, undef, undef, undef, undef, undef, undef, undef, undef, undef, undef, undef, undef, undef, undef, undef, undef, undef, undef, undef, undef, undef, undef, undef, undef, undef, undef, undef, undef, undef, undef, undef, undef, undef, undef, undef, undef, undef, undef, undef, undef, undef, undef, undef, undef, undef, undef, undef, undef, undef, undef, undef, undef, undef, undef, undef] w
def law1_WordSums.K2 (R : Value → World → Prop) : Ex → St → World → Prop := (blockK 2 (thenK (fun st w => code Try.prog law1_WordSums.live 0 (sub law1_WordSums.body [1, 1, 1, 1, 1, 1, 1, 1]) (retK Try.prog Try.f7 R) st w) (retK Try.prog Try.f7 R)))
def law1_WordSums.L2 (R : Value → World → Prop) (xsA : Option Addr) (xsn : Nat) (xsc : Nat) (at_ : Int) (s : Int) (backA : Option Addr) (backn : Nat) (backc : Nat) (i : Int) (w : World) : Prop :=
  loopVC (fun K => code Try.prog law1_WordSums.live 2 law1_WordSums.c2 K) (law1_WordSums.live 2) (law1_WordSums.K2 R) [(.slice xsA xsn xsc), (.int .i64 at_), undef, undef, undef, undef, undef, undef, (.int .u32 s), (.slice backA backn backc), (.int .i64 i), undef, undef, undef, undef, undef, undef, undef, undef, undef, undef, undef, undef, undef, undef, undef, undef, undef, undef, undef, undef, undef, undef, undef, undef, undef, undef, undef, undef, undef, undef, undef, undef, undef, undef, undef, undef, undef, undef, undef, undef, undef, undef, undef, undef, undef, undef, undef, undef, undef, undef, undef, undef, undef, undef, undef, undef, undef, undef, undef, undef, undef, undef, undef, undef, undef, undef, undef, undef, undef, undef, undef, undef, undef, undef] w
def law1_WordSums.J1 (R : Value → World → Prop) (t4 : Bool) (w : World) : Prop :=
  R (.bool t4) w

@[reducible] def law1_WordSums.B2 (R : Value → World → Prop) (xsA : Option Addr) (xsn : Nat) (xsc : Nat) (at_ : Int) (s : Int) (backA : Option Addr) (backn : Nat) (backc : Nat) (i : Int) (w : World) : Prop :=
  ifP (decide ((i : Int) ≥ 0))
    (0 ≤ (i : Int) ∧ (i : Int) < ((xsn : Nat) : Int) ∧ ∃ t50p : Addr, xsA = some t50p ∧ ∃ t51 : Int, w.cell? (t50p.add (Int.toNat i * 1)) = some (.int .u32 t51) ∧ letW (w.alloc (.cells #[(.int .u32 t51)] 24)) fun w_2 => ∃ (v : Value) (w_3 : World), (Builtin.append_ #[37, 37] 37 #[(.slice backA backn backc), (.slice (some (newA w)) 1 1)]).run Try.prog w_2 = .ok v w_3 ∧ ∃ (t53A : Option Addr) (t53n t53c : Nat), v = (.slice t53A t53n t53c) ∧ law1_WordSums.L2 R xsA xsn xsc at_ s t53A t53n t53c (IntKind.i64.wrap (i - 1)) w_3)
    (Run Try.prog 23 #[(.int .i64 at_)] w fun v_2 w_4 => ∃ t55 : Int, v_2 = (.int .i64 t55) ∧ (IntKind.i64.wrap (((xsn : Nat) : Int) + 1)) ≠ 0 ∧ letW w_4.drew fun w_5 => Run Try.prog 21 #[(.slice backA backn backc)] w_5 fun v_3 w_6 => ∃ t61 : Int, v_3 = (.int .u32 t61) ∧ ifP ((t61 : Int) == s) ((0 : Int) ≤ 0 ∧ (0 : Int) ≤ Int.tmod t55 (IntKind.i64.wrap (((xsn : Nat) : Int) + 1)) ∧ (Int.tmod t55 (IntKind.i64.wrap (((xsn : Nat) : Int) + 1)) : Int) ≤ ((xsc : Nat) : Int) ∧ (0 : Int) ≤ Int.tmod t55 (IntKind.i64.wrap (((xsn : Nat) : Int) + 1)) ∧ (Int.tmod t55 (IntKind.i64.wrap (((xsn : Nat) : Int) + 1)) : Int) ≤ ((xsn : Nat) : Int) ∧ (((xsn : Nat) : Int) : Int) ≤ ((xsc : Nat) : Int) ∧ Run Try.prog 21 #[(.slice (subA xsA xsc 0 1) ((Int.toNat (Int.tmod t55 (IntKind.i64.wrap (((xsn : Nat) : Int) + 1)))) - 0) (xsc - 0))] w_6 fun v_4 w_7 => ∃ t68 : Int, v_4 = (.int .u32 t68) ∧ Run Try.prog 21 #[(.slice (subA xsA xsc (Int.toNat (Int.tmod t55 (IntKind.i64.wrap (((xsn : Nat) : Int) + 1)))) 1) (xsn - (Int.toNat (Int.tmod t55 (IntKind.i64.wrap (((xsn : Nat) : Int) + 1))))) (xsc - (Int.toNat (Int.tmod t55 (IntKind.i64.wrap (((xsn : Nat) : Int) + 1))))))] w_7 fun v_5 w_8 => ∃ t72 : Int, v_5 = (.int .u32 t72) ∧ letW (w_8.alloc (.cells #[(.int .u32 t68), (.int .u32 t72)] 24)) fun w_9 => Run Try.prog 21 #[(.slice (some (newA w_8)) 2 2)] w_9 fun v_6 w_10 => ∃ t74 : Int, v_6 = (.int .u32 t74) ∧ ifP ((t74 : Int) == s) (Run Try.prog 21 #[(.slice none 0 0)] w_10 fun v_7 w_11 => ∃ t79 : Int, v_7 = (.int .u32 t79) ∧ ifP ((t79 : Int) == 0) (Run Try.prog 14 #[] w_11 fun v_8 w_12 => ∃ t83 : Bool, v_8 = (.bool t83) ∧ law1_WordSums.J1 R t83 w_12) (law1_WordSums.J1 R false w_11)) (law1_WordSums.J1 R false w_10)) (law1_WordSums.J1 R false w_6))

def law1_WordSums.J0 (R : Value → World → Prop) (xsA : Option Addr) (xsn : Nat) (xsc : Nat) (at_ : Int) (s : Int) (t39 : Bool) (w : World) : Prop :=
  ifP t39
    (R (.bool false) w)
    (law1_WordSums.L2 R xsA xsn xsc at_ s none 0 0 (IntKind.i64.wrap (((xsn : Nat) : Int) - 1)) w)

@[reducible] def law1_WordSums.B0 (R : Value → World → Prop) (xsA : Option Addr) (xsn : Nat) (xsc : Nat) (at_ : Int) (exact : Int) (i : Int) (w : World) : Prop :=
  ifP (decide ((i : Int) < ((xsn : Nat) : Int)))
    (0 ≤ (i : Int) ∧ (i : Int) < ((xsn : Nat) : Int) ∧ ∃ t21p : Addr, xsA = some t21p ∧ ∃ t22 : Int, w.cell? (t21p.add (Int.toNat i * 1)) = some (.int .u32 t22) ∧ law1_WordSums.L0 R xsA xsn xsc at_ (minI (IntKind.u64.wrap (exact + (IntKind.u64.wrap t22))) 4294967295) (IntKind.i64.wrap (i + 1)) w)
    (Run Try.prog 20 #[(.slice xsA xsn xsc)] w fun v w_2 => ∃ (t27A : Option Addr) (t27n t27c : Nat), v = (.slice t27A t27n t27c) ∧ Run Try.prog 21 #[(.slice t27A t27n t27c)] w_2 fun v_2 w_3 => ∃ t29 : Int, v_2 = (.int .u32 t29) ∧ Run Try.prog 22 #[(.slice t27A t27n t27c), (.slice xsA xsn xsc)] w_3 fun v_3 w_4 => ∃ t32 : Bool, v_3 = (.bool t32) ∧ ifP (!t32) (law1_WordSums.J0 R xsA xsn xsc at_ t29 true w_4) (law1_WordSums.J0 R xsA xsn xsc at_ t29 ((IntKind.u64.wrap t29 : Int) != exact) w_4))

@[reducible] def law1_WordSums.vc (R : Value → World → Prop) (xsA : Option Addr) (xsn : Nat) (xsc : Nat) (at_ : Int) (w : World) : Prop :=
  law1_WordSums.L0 R xsA xsn xsc at_ 0 0 w

theorem law1_WordSums.B0_eq (R : Value → World → Prop) (xsA : Option Addr) (xsn : Nat) (xsc : Nat) (at_ : Int) (exact : Int) (i : Int) (w : World) (ts : Nat → Value) :
    code Try.prog law1_WordSums.live 0 law1_WordSums.c0 (thenK (fun st w => loopVC (fun K => code Try.prog law1_WordSums.live 0 law1_WordSums.c0 K) (law1_WordSums.live 0) (law1_WordSums.K0 R) (clearFrom (law1_WordSums.live 0) 0 st) w) (law1_WordSums.K0 R)) (mergeFrom (law1_WordSums.live 0) ts 0 (clearFrom (law1_WordSums.live 0) 0 [(.slice xsA xsn xsc), (.int .i64 at_), undef, undef, undef, (.int .u64 exact), (.int .i64 i), undef, undef, undef, undef, undef, undef, undef, undef, undef, undef, undef, undef, undef, undef, undef, undef, undef, undef, undef, undef, undef, undef, undef, undef, undef, undef, undef, undef, undef, undef, undef, undef, undef, undef, undef, undef, undef, undef, undef, undef, undef, undef, undef, undef, undef, undef, undef, undef, undef, undef, undef, undef, undef, undef, undef, undef, undef, undef, undef, undef, undef, undef, undef, undef, undef, undef, undef, undef, undef, undef, undef, undef, undef, undef, undef, undef, undef, undef])) w = law1_WordSums.B0 R xsA xsn xsc at_ exact i w := by kernel_rfl
theorem law1_WordSums.L0_step {R : Value → World → Prop} {xsA : Option Addr} {xsn : Nat} {xsc : Nat} {at_ : Int} {exact : Int} {i : Int} {w : World} (h : law1_WordSums.B0 R xsA xsn xsc at_ exact i w) : law1_WordSums.L0 R xsA xsn xsc at_ exact i w :=
  loop_step (live := law1_WordSums.live) (b := 0) (x := law1_WordSums.c0) fun ts => Eq.mpr (law1_WordSums.B0_eq R xsA xsn xsc at_ exact i w ts) h
theorem law1_WordSums.B2_eq (R : Value → World → Prop) (xsA : Option Addr) (xsn : Nat) (xsc : Nat) (at_ : Int) (s : Int) (backA : Option Addr) (backn : Nat) (backc : Nat) (i : Int) (w : World) (ts : Nat → Value) :
    code Try.prog law1_WordSums.live 2 law1_WordSums.c2 (thenK (fun st w => loopVC (fun K => code Try.prog law1_WordSums.live 2 law1_WordSums.c2 K) (law1_WordSums.live 2) (law1_WordSums.K2 R) (clearFrom (law1_WordSums.live 2) 0 st) w) (law1_WordSums.K2 R)) (mergeFrom (law1_WordSums.live 2) ts 0 (clearFrom (law1_WordSums.live 2) 0 [(.slice xsA xsn xsc), (.int .i64 at_), undef, undef, undef, undef, undef, undef, (.int .u32 s), (.slice backA backn backc), (.int .i64 i), undef, undef, undef, undef, undef, undef, undef, undef, undef, undef, undef, undef, undef, undef, undef, undef, undef, undef, undef, undef, undef, undef, undef, undef, undef, undef, undef, undef, undef, undef, undef, undef, undef, undef, undef, undef, undef, undef, undef, undef, undef, undef, undef, undef, undef, undef, undef, undef, undef, undef, undef, undef, undef, undef, undef, undef, undef, undef, undef, undef, undef, undef, undef, undef, undef, undef, undef, undef, undef, undef, undef, undef, undef, undef])) w = law1_WordSums.B2 R xsA xsn xsc at_ s backA backn backc i w := by kernel_rfl
theorem law1_WordSums.L2_step {R : Value → World → Prop} {xsA : Option Addr} {xsn : Nat} {xsc : Nat} {at_ : Int} {s : Int} {backA : Option Addr} {backn : Nat} {backc : Nat} {i : Int} {w : World} (h : law1_WordSums.B2 R xsA xsn xsc at_ s backA backn backc i w) : law1_WordSums.L2 R xsA xsn xsc at_ s backA backn backc i w :=
  loop_step (live := law1_WordSums.live) (b := 2) (x := law1_WordSums.c2) fun ts => Eq.mpr (law1_WordSums.B2_eq R xsA xsn xsc at_ s backA backn backc i w ts) h
theorem law1_WordSums.eq (R : Value → World → Prop) (xsA : Option Addr) (xsn : Nat) (xsc : Nat) (at_ : Int) (w : World) : fnVC Try.prog law1_WordSums.live Try.f7 R [(.slice xsA xsn xsc), (.int .i64 at_)] w = law1_WordSums.vc R xsA xsn xsc at_ w := by kernel_rfl
theorem law1_WordSums.ok {R : Value → World → Prop} {xsA : Option Addr} {xsn : Nat} {xsc : Nat} {at_ : Int} {w : World} (h : law1_WordSums.vc R xsA xsn xsc at_ w) : Run Try.prog 7 #[(.slice xsA xsn xsc), (.int .i64 at_)] w R :=
  fn_sound (args := [(.slice xsA xsn xsc), (.int .i64 at_)]) Try.mixed Try.func7 (by kernel_rfl) (Eq.mpr (law1_WordSums.eq R xsA xsn xsc at_ w) h)

/-! ### riddle/riddleref1.Hex: function 25 -/
noncomputable def ref1_Hex.body : Code := bodyOf Try.f25
def ref1_Hex.live : Nat → List Nat
  | 0 => [0, 3, 4]
  | _ => []
noncomputable def ref1_Hex.c0 : Code := sub ref1_Hex.body [1, 1, 0, 1, 0, 0]
def ref1_Hex.K0 (R : Value → World → Prop) : Ex → St → World → Prop := (blockK 0 (thenK (fun st w => code Try.prog ref1_Hex.live 0 (sub ref1_Hex.body [1, 1, 1]) (retK Try.prog Try.f25 R) st w) (retK Try.prog Try.f25 R)))
def ref1_Hex.L0 (R : Value → World → Prop) (bA : Option Addr) (bn : Nat) (bc : Nat) (outA : Option Addr) (outn : Nat) (outc : Nat) (i : Int) (w : World) : Prop :=
  loopVC (fun K => code Try.prog ref1_Hex.live 0 ref1_Hex.c0 K) (ref1_Hex.live 0) (ref1_Hex.K0 R) [(.slice bA bn bc), undef, undef, (.slice outA outn outc), (.int .i64 i), undef, undef, undef, undef, undef, undef, undef, undef, undef, undef, undef, undef, undef, undef, undef, undef, undef, undef, undef, undef, undef, undef, undef] w
def ref1_Hex.J0 (R : Value → World → Prop) (bA : Option Addr) (bn : Nat) (bc : Nat) (outA : Option Addr) (outn : Nat) (outc : Nat) (i : Int) (w : World) : Prop :=
  ref1_Hex.L0 R bA bn bc outA outn outc (IntKind.i64.wrap (i + 1)) w

@[reducible] def ref1_Hex.B0 (R : Value → World → Prop) (bA : Option Addr) (bn : Nat) (bc : Nat) (outA : Option Addr) (outn : Nat) (outc : Nat) (i : Int) (w : World) : Prop :=
  ifP (decide ((i : Int) < ((bn : Nat) : Int)))
    (∃ S_ : World → Prop, S_ w.drew ∧ letW w.drew fun w_2 => 0 ≤ (i : Int) ∧ (i : Int) < ((bn : Nat) : Int) ∧ ∃ t14p : Addr, bA = some t14p ∧ ∃ t15 : Int, (∀ u : World, S_ u → u.cell? (t14p.add (Int.toNat i * 1)) = some (.int .u8 t15)) ∧ 0 ≤ (Int.fdiv t15 (2 ^ 4) : Int) ∧ (Int.fdiv t15 (2 ^ 4) : Int) < ((ByteArray.size (ByteArray.mk #[48, 49, 50, 51, 52, 53, 54, 55, 56, 57, 97, 98, 99, 100, 101, 102]) : Nat) : Int) ∧ 0 ≤ (i : Int) ∧ (i : Int) < ((bn : Nat) : Int) ∧ ∃ t20p : Addr, bA = some t20p ∧ ∃ t21 : Int, (∀ u_2 : World, S_ u_2 → u_2.cell? (t20p.add (Int.toNat i * 1)) = some (.int .u8 t21)) ∧ 0 ≤ (andI .u8 t21 15 : Int) ∧ (andI .u8 t21 15 : Int) < ((ByteArray.size (ByteArray.mk #[48, 49, 50, 51, 52, 53, 54, 55, 56, 57, 97, 98, 99, 100, 101, 102]) : Nat) : Int) ∧ letW (w_2.alloc (.cells #[(.int .u8 (btAt (ByteArray.mk #[48, 49, 50, 51, 52, 53, 54, 55, 56, 57, 97, 98, 99, 100, 101, 102]) (Int.fdiv t15 (2 ^ 4)))), (.int .u8 (btAt (ByteArray.mk #[48, 49, 50, 51, 52, 53, 54, 55, 56, 57, 97, 98, 99, 100, 101, 102]) (andI .u8 t21 15)))] 5)) fun w_3 => S_ w_3 ∧ ∃ (v : Value) (w_4 : World), (Builtin.append_ #[22, 22] 22 #[(.slice outA outn outc), (.slice (some (newA w_2)) 2 2)]).run Try.prog w_3 = .ok v w_4 ∧ ∃ (t25A : Option Addr) (t25n t25c : Nat), v = (.slice t25A t25n t25c) ∧ S_ w_4 ∧ ref1_Hex.J0 R bA bn bc t25A t25n t25c i w_4)
    (∃ (v_2 : Value) (w_5 : World), (convert 22 9 (.slice outA outn outc)).run Try.prog w = .ok v_2 w_5 ∧ ∃ t27 : ByteArray, v_2 = (.string t27) ∧ R (.string t27) w_5)

@[reducible] def ref1_Hex.vc (R : Value → World → Prop) (bA : Option Addr) (bn : Nat) (bc : Nat) (w : World) : Prop :=
  ref1_Hex.L0 R bA bn bc none 0 0 0 w

theorem ref1_Hex.B0_eq (R : Value → World → Prop) (bA : Option Addr) (bn : Nat) (bc : Nat) (outA : Option Addr) (outn : Nat) (outc : Nat) (i : Int) (w : World) (ts : Nat → Value) :
    code Try.prog ref1_Hex.live 0 ref1_Hex.c0 (thenK (fun st w => loopVC (fun K => code Try.prog ref1_Hex.live 0 ref1_Hex.c0 K) (ref1_Hex.live 0) (ref1_Hex.K0 R) (clearFrom (ref1_Hex.live 0) 0 st) w) (ref1_Hex.K0 R)) (mergeFrom (ref1_Hex.live 0) ts 0 (clearFrom (ref1_Hex.live 0) 0 [(.slice bA bn bc), undef, undef, (.slice outA outn outc), (.int .i64 i), undef, undef, undef, undef, undef, undef, undef, undef, undef, undef, undef, undef, undef, undef, undef, undef, undef, undef, undef, undef, undef, undef, undef])) w = ref1_Hex.B0 R bA bn bc outA outn outc i w := by kernel_rfl
theorem ref1_Hex.L0_step {R : Value → World → Prop} {bA : Option Addr} {bn : Nat} {bc : Nat} {outA : Option Addr} {outn : Nat} {outc : Nat} {i : Int} {w : World} (h : ref1_Hex.B0 R bA bn bc outA outn outc i w) : ref1_Hex.L0 R bA bn bc outA outn outc i w :=
  loop_step (live := ref1_Hex.live) (b := 0) (x := ref1_Hex.c0) fun ts => Eq.mpr (ref1_Hex.B0_eq R bA bn bc outA outn outc i w ts) h
theorem ref1_Hex.eq (R : Value → World → Prop) (bA : Option Addr) (bn : Nat) (bc : Nat) (w : World) : fnVC Try.prog ref1_Hex.live Try.f25 R [(.slice bA bn bc)] w = ref1_Hex.vc R bA bn bc w := by kernel_rfl
theorem ref1_Hex.ok {R : Value → World → Prop} {bA : Option Addr} {bn : Nat} {bc : Nat} {w : World} (h : ref1_Hex.vc R bA bn bc w) : Run Try.prog 25 #[(.slice bA bn bc)] w R :=
  fn_sound (args := [(.slice bA bn bc)]) Try.mixed Try.func25 (by kernel_rfl) (Eq.mpr (ref1_Hex.eq R bA bn bc w) h)

/-! ### riddle/riddleref1.Digit: function 35 -/
noncomputable def ref1_Digit.body : Code := bodyOf Try.f35
def ref1_Digit.live : Nat → List Nat
  | _ => []
def ref1_Digit.J1 (R : Value → World → Prop) (c : Int) (t17 : Bool) (w : World) : Prop :=
  ifP t17
    (R (.int .i64 (IntKind.i64.wrap ((IntKind.i64.wrap ((IntKind.i64.wrap c) - 97)) + 10))) w)
    (R (.int .i64 (-1)) w)

def ref1_Digit.J0 (R : Value → World → Prop) (c : Int) (t8 : Bool) (w : World) : Prop :=
  ifP t8
    (R (.int .i64 (IntKind.i64.wrap ((IntKind.i64.wrap c) - 48))) w)
    (ifP (decide ((c : Int) ≥ 97)) (ref1_Digit.J1 R c (decide ((c : Int) ≤ 102)) w) (ref1_Digit.J1 R c false w))

@[reducible] def ref1_Digit.vc (R : Value → World → Prop) (c : Int) (w : World) : Prop :=
  ifP (decide ((c : Int) ≥ 48)) (ref1_Digit.J0 R c (decide ((c : Int) ≤ 57)) w) (ref1_Digit.J0 R c false w)

theorem ref1_Digit.eq (R : Value → World → Prop) (c : Int) (w : World) : fnVC Try.prog ref1_Digit.live Try.f35 R [(.int .u8 c)] w = ref1_Digit.vc R c w := by kernel_rfl
theorem ref1_Digit.ok {R : Value → World → Prop} {c : Int} {w : World} (h : ref1_Digit.vc R c w) : Run Try.prog 35 #[(.int .u8 c)] w R :=
  fn_sound (args := [(.int .u8 c)]) Try.mixed Try.func35 (by kernel_rfl) (Eq.mpr (ref1_Digit.eq R c w) h)

/-! ### riddle/riddleref1.Unhex: function 27 -/
noncomputable def ref1_Unhex.body : Code := bodyOf Try.f27
def ref1_Unhex.live : Nat → List Nat
  | 0 => [0, 4, 5]
  | _ => []
noncomputable def ref1_Unhex.c0 : Code := sub ref1_Unhex.body [1, 1, 1, 0, 1, 0, 0]
def ref1_Unhex.K0 (R : Value → World → Prop) : Ex → St → World → Prop := (blockK 0 (thenK (fun st w => code Try.prog ref1_Unhex.live 0 (sub ref1_Unhex.body [1, 1, 1, 1]) (retK Try.prog Try.f27 R) st w) (retK Try.prog Try.f27 R)))
def ref1_Unhex.L0 (R : Value → World → Prop) (s : ByteArray) (outA : Option Addr) (outn : Nat) (outc : Nat) (i : Int) (w : World) : Prop :=
  loopVC (fun K => code Try.prog ref1_Unhex.live 0 ref1_Unhex.c0 K) (ref1_Unhex.live 0) (ref1_Unhex.K0 R) [(.string s), undef, undef, undef, (.slice outA outn outc), (.int .i64 i), undef, undef, undef, undef, undef, undef, undef, undef, undef, undef, undef, undef, undef, undef, undef, undef, undef, undef, undef, undef, undef, undef, undef, undef, undef, undef, undef, undef, undef, undef, undef, undef, undef, undef, undef, undef] w
def ref1_Unhex.J1 (R : Value → World → Prop) (s : ByteArray) (outA : Option Addr) (outn : Nat) (outc : Nat) (i : Int) (a : Int) (b : Int) (t32 : Bool) (w : World) : Prop :=
  ifP t32
    (R (.tuple #[(.slice none 0 0), (.bool false)]) w)
    (letW (w.alloc (.cells #[(.int .u8 (IntKind.u8.wrap (IntKind.i64.wrap ((IntKind.i64.wrap (16 * a)) + b))))] 5)) fun w_2 => ∃ (v : Value) (w_3 : World), (Builtin.append_ #[22, 22] 22 #[(.slice outA outn outc), (.slice (some (newA w)) 1 1)]).run Try.prog w_2 = .ok v w_3 ∧ ∃ (t40A : Option Addr) (t40n t40c : Nat), v = (.slice t40A t40n t40c) ∧ ref1_Unhex.L0 R s t40A t40n t40c (IntKind.i64.wrap (i + 2)) w_3)

def ref1_Unhex.J0 (R : Value → World → Prop) (s : ByteArray) (outA : Option Addr) (outn : Nat) (outc : Nat) (i : Int) (a : Int) (b : Int) (w : World) : Prop :=
  ifP (decide ((a : Int) < 0)) (ref1_Unhex.J1 R s outA outn outc i a b true w) (ref1_Unhex.J1 R s outA outn outc i a b (decide ((b : Int) < 0)) w)

@[reducible] def ref1_Unhex.B0 (R : Value → World → Prop) (s : ByteArray) (outA : Option Addr) (outn : Nat) (outc : Nat) (i : Int) (w : World) : Prop :=
  ifP (decide ((i : Int) < ((ByteArray.size s : Nat) : Int)))
    (letW w.drew fun w_2 => 0 ≤ (i : Int) ∧ (i : Int) < ((ByteArray.size s : Nat) : Int) ∧ 0 ≤ (IntKind.i64.wrap (i + 1) : Int) ∧ (IntKind.i64.wrap (i + 1) : Int) < ((ByteArray.size s : Nat) : Int) ∧ Run Try.prog 35 #[(.int .u8 (btAt s i))] w_2 fun v w_3 => ∃ t21 : Int, v = (.int .i64 t21) ∧ Run Try.prog 35 #[(.int .u8 (btAt s (IntKind.i64.wrap (i + 1))))] w_3 fun v_2 w_4 => ∃ t26 : Int, v_2 = (.int .i64 t26) ∧ ref1_Unhex.J0 R s outA outn outc i t21 t26 w_4)
    (R (.tuple #[(.slice outA outn outc), (.bool true)]) w)

@[reducible] def ref1_Unhex.vc (R : Value → World → Prop) (s : ByteArray) (w : World) : Prop :=
  ifP ((Int.tmod ((ByteArray.size s : Nat) : Int) 2 : Int) != 0)
    (R (.tuple #[(.slice none 0 0), (.bool false)]) w)
    (ref1_Unhex.L0 R s none 0 0 0 w)

theorem ref1_Unhex.B0_eq (R : Value → World → Prop) (s : ByteArray) (outA : Option Addr) (outn : Nat) (outc : Nat) (i : Int) (w : World) (ts : Nat → Value) :
    code Try.prog ref1_Unhex.live 0 ref1_Unhex.c0 (thenK (fun st w => loopVC (fun K => code Try.prog ref1_Unhex.live 0 ref1_Unhex.c0 K) (ref1_Unhex.live 0) (ref1_Unhex.K0 R) (clearFrom (ref1_Unhex.live 0) 0 st) w) (ref1_Unhex.K0 R)) (mergeFrom (ref1_Unhex.live 0) ts 0 (clearFrom (ref1_Unhex.live 0) 0 [(.string s), undef, undef, undef, (.slice outA outn outc), (.int .i64 i), undef, undef, undef, undef, undef, undef, undef, undef, undef, undef, undef, undef, undef, undef, undef, undef, undef, undef, undef, undef, undef, undef, undef, undef, undef, undef, undef, undef, undef, undef, undef, undef, undef, undef, undef, undef])) w = ref1_Unhex.B0 R s outA outn outc i w := by kernel_rfl
theorem ref1_Unhex.L0_step {R : Value → World → Prop} {s : ByteArray} {outA : Option Addr} {outn : Nat} {outc : Nat} {i : Int} {w : World} (h : ref1_Unhex.B0 R s outA outn outc i w) : ref1_Unhex.L0 R s outA outn outc i w :=
  loop_step (live := ref1_Unhex.live) (b := 0) (x := ref1_Unhex.c0) fun ts => Eq.mpr (ref1_Unhex.B0_eq R s outA outn outc i w ts) h
theorem ref1_Unhex.eq (R : Value → World → Prop) (s : ByteArray) (w : World) : fnVC Try.prog ref1_Unhex.live Try.f27 R [(.string s)] w = ref1_Unhex.vc R s w := by kernel_rfl
theorem ref1_Unhex.ok {R : Value → World → Prop} {s : ByteArray} {w : World} (h : ref1_Unhex.vc R s w) : Run Try.prog 27 #[(.string s)] w R :=
  fn_sound (args := [(.string s)]) Try.mixed Try.func27 (by kernel_rfl) (Eq.mpr (ref1_Unhex.eq R s w) h)

/-! ### riddle/riddlelaw1.WordHexes: function 8 -/
noncomputable def law1_WordHexes.body : Code := bodyOf Try.f8
def law1_WordHexes.live : Nat → List Nat
  | _ => []
def law1_WordHexes.J2 (R : Value → World → Prop) (t4 : Bool) (w : World) : Prop :=
  R (.bool t4) w

def law1_WordHexes.J1 (R : Value → World → Prop) (bA : Option Addr) (bn : Nat) (bc : Nat) (s : ByteArray) (xA : Option Addr) (xn : Nat) (xc : Nat) (yA : Option Addr) (yn : Nat) (yc : Nat) (t58 : Bool) (w : World) : Prop :=
  ifP t58
    (R (.bool false) w)
    (Run Try.prog 18 #[(.slice xA xn xc)] w fun v w_2 => v = (.tuple #[]) ∧ Run Try.prog 26 #[(.string s)] w_2 fun v_2 w_3 => ∃ (t630A : Option Addr) (t630n t630c : Nat), ∃ t631 : Bool, v_2 = (.tuple #[(.slice t630A t630n t630c), (.bool t631)]) ∧ Run Try.prog 27 #[(.string s)] w_3 fun v_3 w_4 => ∃ (t680A : Option Addr) (t680n t680c : Nat), ∃ t681 : Bool, v_3 = (.tuple #[(.slice t680A t680n t680c), (.bool t681)]) ∧ Run Try.prog 17 #[(.slice yA yn yc), (.slice bA bn bc)] w_4 fun v_4 w_5 => ∃ t73 : Bool, v_4 = (.bool t73) ∧ ifP t73 (ifP (t631 == t681) (Run Try.prog 17 #[(.slice t630A t630n t630c), (.slice t680A t680n t680c)] w_5 fun v_5 w_6 => ∃ t82 : Bool, v_5 = (.bool t82) ∧ ifP t82 (ifP (!t631) (Run Try.prog 14 #[] w_6 fun v_6 w_7 => ∃ t95 : Bool, v_6 = (.bool t95) ∧ law1_WordHexes.J2 R t95 w_7) (Run Try.prog 24 #[(.slice t630A t630n t630c)] w_6 fun v_7 w_8 => ∃ t89 : ByteArray, v_7 = (.string t89) ∧ ifP (t89.toList == s.toList) (Run Try.prog 14 #[] w_8 fun v_8 w_9 => ∃ t95_2 : Bool, v_8 = (.bool t95_2) ∧ law1_WordHexes.J2 R t95_2 w_9) (law1_WordHexes.J2 R false w_8))) (law1_WordHexes.J2 R false w_6)) (law1_WordHexes.J2 R false w_5)) (law1_WordHexes.J2 R false w_5))

def law1_WordHexes.J0 (R : Value → World → Prop) (bA : Option Addr) (bn : Nat) (bc : Nat) (s : ByteArray) (t : ByteArray) (t36 : Bool) (w : World) : Prop :=
  ifP t36
    (R (.bool false) w)
    (Run Try.prog 26 #[(.string t)] w fun v w_2 => ∃ (t390A : Option Addr) (t390n t390c : Nat), ∃ t391 : Bool, v = (.tuple #[(.slice t390A t390n t390c), (.bool t391)]) ∧ Run Try.prog 26 #[(.string t)] w_2 fun v_2 w_3 => ∃ (t440A : Option Addr) (t440n t440c : Nat), ∃ t441 : Bool, v_2 = (.tuple #[(.slice t440A t440n t440c), (.bool t441)]) ∧ ifP (!t391) (law1_WordHexes.J1 R bA bn bc s t390A t390n t390c t440A t440n t440c true w_3) (ifP (!t441) (law1_WordHexes.J1 R bA bn bc s t390A t390n t390c t440A t440n t440c true w_3) (Run Try.prog 17 #[(.slice t390A t390n t390c), (.slice bA bn bc)] w_3 fun v_3 w_4 => ∃ t56 : Bool, v_3 = (.bool t56) ∧ law1_WordHexes.J1 R bA bn bc s t390A t390n t390c t440A t440n t440c (!t56) w_4)))

@[reducible] def law1_WordHexes.vc (R : Value → World → Prop) (bA : Option Addr) (bn : Nat) (bc : Nat) (s : ByteArray) (w : World) : Prop :=
  Run Try.prog 9 #[(.slice bA bn bc)] w fun v w_2 => ∃ (t16A : Option Addr) (t16n t16c : Nat), v = (.slice t16A t16n t16c) ∧ Run Try.prog 24 #[(.slice t16A t16n t16c)] w_2 fun v_2 w_3 => ∃ t18 : ByteArray, v_2 = (.string t18) ∧ Run Try.prog 12 #[(.slice t16A t16n t16c), (.slice bA bn bc)] w_3 fun v_3 w_4 => ∃ t21 : Bool, v_3 = (.bool t21) ∧ ifP (!t21) (law1_WordHexes.J0 R bA bn bc s t18 true w_4) (Run Try.prog 25 #[(.slice bA bn bc)] w_4 fun v_4 w_5 => ∃ t26 : ByteArray, v_4 = (.string t26) ∧ ifP (!(t18.toList == t26.toList)) (law1_WordHexes.J0 R bA bn bc s t18 true w_5) (law1_WordHexes.J0 R bA bn bc s t18 ((((ByteArray.size t18 : Nat) : Int) : Int) != (IntKind.i64.wrap (2 * ((bn : Nat) : Int)))) w_5))

theorem law1_WordHexes.eq (R : Value → World → Prop) (bA : Option Addr) (bn : Nat) (bc : Nat) (s : ByteArray) (w : World) : fnVC Try.prog law1_WordHexes.live Try.f8 R [(.slice bA bn bc), (.string s)] w = law1_WordHexes.vc R bA bn bc s w := by kernel_rfl
theorem law1_WordHexes.ok {R : Value → World → Prop} {bA : Option Addr} {bn : Nat} {bc : Nat} {s : ByteArray} {w : World} (h : law1_WordHexes.vc R bA bn bc s w) : Run Try.prog 8 #[(.slice bA bn bc), (.string s)] w R :=
  fn_sound (args := [(.slice bA bn bc), (.string s)]) Try.mixed Try.func8 (by kernel_rfl) (Eq.mpr (law1_WordHexes.eq R bA bn bc s w) h)

end
end Go.Proofs.Ythedafjbhnibnaa
