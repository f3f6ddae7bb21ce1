/- Printed by a program of this repo (wip/tools/gen.py) out of Lean's own print of the functions: each function's weakest precondition, and the equation that it is one. -/
import Derived.Test.YtbchjihecdkfeaaProg
import Derived.Test.YtbchjihecdkfeaaS4
import Derived.KernelRfl
import Derived.Test.YtbchjihecdkfeaaVA
namespace Go.Proofs.Ytbchjihecdkfeaa
open Go.Rd
set_option linter.unusedVariables false
set_option maxRecDepth 100000
section

/-! ### riddle/riddleref1.Get: function 113 -/
noncomputable def ref1_Get.body : Code := bodyOf Try.f113
def ref1_Get.live : Nat → List Nat
  | 0 => [0, 1, 2, 8, 9]
  | _ => []
noncomputable def ref1_Get.c0 : Code := sub ref1_Get.body [1, 1, 1, 0, 1, 0, 0]
def ref1_Get.K0 (R : Value → World → Prop) : Ex → St → World → Prop := (blockK 0 (thenK (fun st w => code Try.prog none ref1_Get.live 0 (sub ref1_Get.body [1, 1, 1, 1]) (retK Try.prog Try.f113 R) st w) (retK Try.prog Try.f113 R)))
def ref1_Get.L0 (R : Value → World → Prop) (bA : Option Addr) (bn : Nat) (bc : Nat) (at_ : Int) (size : Int) (v : Int) (i : Int) (w : World) : Prop :=
  loopVC (fun K => code Try.prog none ref1_Get.live 0 ref1_Get.c0 K) (ref1_Get.live 0) (ref1_Get.K0 R) [(.slice bA bn bc), (.int .i64 at_), (.int .i64 size), undef, undef, undef, undef, undef, (.int .u32 v), (.int .i64 i), undef, undef, undef, undef, undef, undef, undef, undef, undef, undef, undef, undef, undef, undef, undef, undef, undef, undef, undef, undef, undef, undef, undef, undef, undef, undef, undef, undef, undef, undef, undef, undef, undef, undef] w
@[reducible] def ref1_Get.B0 (R : Value → World → Prop) (bA : Option Addr) (bn : Nat) (bc : Nat) (at_ : Int) (size : Int) (v : Int) (i : Int) (w : World) : Prop :=
  ifP (decide ((i : Int) < size))
    (0 ≤ (IntKind.i64.wrap (at_ + i) : Int) ∧ (IntKind.i64.wrap (at_ + i) : Int) < ((bn : Nat) : Int) ∧ ∃ t39p : Addr, bA = some t39p ∧ ∃ t40 : Int, w.cell? (t39p.add (Int.toNat (IntKind.i64.wrap (at_ + i)) * 1)) = some (.int .u8 t40) ∧ ref1_Get.L0 R bA bn bc at_ size (orI .u32 (IntKind.u32.wrap (v * 2 ^ 8)) (IntKind.u32.wrap t40)) (IntKind.i64.wrap (i + 1)) w)
    (R (.tuple #[(.int .u32 v), (.bool true)]) w)

def ref1_Get.J0 (R : Value → World → Prop) (bA : Option Addr) (bn : Nat) (bc : Nat) (at_ : Int) (size : Int) (t27 : Bool) (w : World) : Prop :=
  ifP t27
    (R (.tuple #[(.int .u32 0), (.bool false)]) w)
    (ref1_Get.L0 R bA bn bc at_ size 0 0 w)

@[reducible] def ref1_Get.vc (R : Value → World → Prop) (bA : Option Addr) (bn : Nat) (bc : Nat) (at_ : Int) (size : Int) (w : World) : Prop :=
  ifP ((size : Int) != 1) (ifP ((size : Int) != 2) (ifP ((size : Int) != 4) (ref1_Get.J0 R bA bn bc at_ size true w) (Run Try.prog 125 #[(.int .i64 ((bn : Nat) : Int)), (.int .i64 at_), (.int .i64 size)] w fun v w_2 => ∃ t25 : Bool, v = (.bool t25) ∧ ref1_Get.J0 R bA bn bc at_ size (!t25) w_2)) (Run Try.prog 125 #[(.int .i64 ((bn : Nat) : Int)), (.int .i64 at_), (.int .i64 size)] w fun v_2 w_3 => ∃ t25_2 : Bool, v_2 = (.bool t25_2) ∧ ref1_Get.J0 R bA bn bc at_ size (!t25_2) w_3)) (Run Try.prog 125 #[(.int .i64 ((bn : Nat) : Int)), (.int .i64 at_), (.int .i64 size)] w fun v_3 w_4 => ∃ t25_3 : Bool, v_3 = (.bool t25_3) ∧ ref1_Get.J0 R bA bn bc at_ size (!t25_3) w_4)

theorem ref1_Get.B0_eq (R : Value → World → Prop) (bA : Option Addr) (bn : Nat) (bc : Nat) (at_ : Int) (size : Int) (v : Int) (i : Int) (w : World) (ts : Nat → Value) :
    code Try.prog none ref1_Get.live 0 ref1_Get.c0 (thenK (fun st w => loopVC (fun K => code Try.prog none ref1_Get.live 0 ref1_Get.c0 K) (ref1_Get.live 0) (ref1_Get.K0 R) (clearFrom (ref1_Get.live 0) 0 st) w) (ref1_Get.K0 R)) (mergeFrom (ref1_Get.live 0) ts 0 (clearFrom (ref1_Get.live 0) 0 [(.slice bA bn bc), (.int .i64 at_), (.int .i64 size), undef, undef, undef, undef, undef, (.int .u32 v), (.int .i64 i), undef, undef, undef, undef, undef, undef, undef, undef, undef, undef, undef, undef, undef, undef, undef, undef, undef, undef, undef, undef, undef, undef, undef, undef, undef, undef, undef, undef, undef, undef, undef, undef, undef, undef])) w = ref1_Get.B0 R bA bn bc at_ size v i w := by kernel_rfl
theorem ref1_Get.L0_step {R : Value → World → Prop} {bA : Option Addr} {bn : Nat} {bc : Nat} {at_ : Int} {size : Int} {v : Int} {i : Int} {w : World} (h : ref1_Get.B0 R bA bn bc at_ size v i w) : ref1_Get.L0 R bA bn bc at_ size v i w :=
  loop_step (live := ref1_Get.live) (b := 0) (x := ref1_Get.c0) fun ts => Eq.mpr (ref1_Get.B0_eq R bA bn bc at_ size v i w ts) h
theorem ref1_Get.eq (R : Value → World → Prop) (bA : Option Addr) (bn : Nat) (bc : Nat) (at_ : Int) (size : Int) (w : World) : fnVC Try.prog none ref1_Get.live Try.f113 R [(.slice bA bn bc), (.int .i64 at_), (.int .i64 size)] w = ref1_Get.vc R bA bn bc at_ size w := by kernel_rfl
set_option maxHeartbeats 4000000 in
theorem ref1_Get.ok {R : Value → World → Prop} {bA : Option Addr} {bn : Nat} {bc : Nat} {at_ : Int} {size : Int} {w : World} (h : ref1_Get.vc R bA bn bc at_ size w) : Run Try.prog 113 #[(.slice bA bn bc), (.int .i64 at_), (.int .i64 size)] w R := by
  have h2 := Eq.mpr (ref1_Get.eq R bA bn bc at_ size w) h
  exact fn_sound Try.mixed Try.func113 (by kernel_rfl) h2

/-! ### riddle/riddleref5.read: function 74 -/
noncomputable def ref5_read.body : Code := bodyOf Try.f74
def ref5_read.live : Nat → List Nat
  | _ => []
@[reducible] def ref5_read.vc (R : Value → World → Prop) (packetA : Option Addr) (packetn : Nat) (packetc : Nat) (at_ : Int) (size : Int) (w : World) : Prop :=
  ifP (decide ((at_ : Int) > (IntKind.u64.wrap ((packetn : Nat) : Int))))
    (R (.tuple #[(.int .u32 0), (.int .i64 1)]) w)
    (Run Try.prog 113 #[(.slice packetA packetn packetc), (.int .i64 (IntKind.i64.wrap at_)), (.int .i64 size)] w fun v w_2 => ∃ t200 : Int, ∃ t201 : Bool, v = (.tuple #[(.int .u32 t200), (.bool t201)]) ∧ ifP (!t201)
    (R (.tuple #[(.int .u32 0), (.int .i64 1)]) w_2)
    (R (.tuple #[(.int .u32 t200), (.int .i64 0)]) w_2))

theorem ref5_read.eq (R : Value → World → Prop) (packetA : Option Addr) (packetn : Nat) (packetc : Nat) (at_ : Int) (size : Int) (w : World) : fnVC Try.prog none ref5_read.live Try.f74 R [(.slice packetA packetn packetc), (.int .u64 at_), (.int .i64 size)] w = ref5_read.vc R packetA packetn packetc at_ size w := by kernel_rfl
set_option maxHeartbeats 4000000 in
theorem ref5_read.ok {R : Value → World → Prop} {packetA : Option Addr} {packetn : Nat} {packetc : Nat} {at_ : Int} {size : Int} {w : World} (h : ref5_read.vc R packetA packetn packetc at_ size w) : Run Try.prog 74 #[(.slice packetA packetn packetc), (.int .u64 at_), (.int .i64 size)] w R := by
  have h2 := Eq.mpr (ref5_read.eq R packetA packetn packetc at_ size w) h
  exact fn_sound Try.mixed Try.func74 (by kernel_rfl) h2

/-! ### riddle/riddleref5.size: function 75 -/
noncomputable def ref5_size.body : Code := bodyOf Try.f75
def ref5_size.live : Nat → List Nat
  | _ => []
def ref5_size.J1 (R : Value → World → Prop) (t7 : Bool) (w : World) : Prop :=
  ifP t7
    (R (.int .i64 2) w)
    (R (.int .i64 1) w)

def ref5_size.J0 (R : Value → World → Prop) (t3 : Int) (t4 : Bool) (w : World) : Prop :=
  ifP t4
    (R (.int .i64 4) w)
    (ifP ((t3 : Int) == 40)
    (ref5_size.J1 R ((t3 : Int) == 40) w)
    (ref5_size.J1 R ((t3 : Int) == 72) w))

@[reducible] def ref5_size.vc (R : Value → World → Prop) (code_ : Int) (w : World) : Prop :=
  ifP ((code_ : Int) == 32)
    (ref5_size.J0 R code_ ((code_ : Int) == 32) w)
    (ref5_size.J0 R code_ ((code_ : Int) == 64) w)

theorem ref5_size.eq (R : Value → World → Prop) (code_ : Int) (w : World) : fnVC Try.prog none ref5_size.live Try.f75 R [(.int .u16 code_)] w = ref5_size.vc R code_ w := by kernel_rfl
set_option maxHeartbeats 4000000 in
theorem ref5_size.ok {R : Value → World → Prop} {code_ : Int} {w : World} (h : ref5_size.vc R code_ w) : Run Try.prog 75 #[(.int .u16 code_)] w R := by
  have h2 := Eq.mpr (ref5_size.eq R code_ w) h
  exact fn_sound Try.mixed Try.func75 (by kernel_rfl) h2

/-! ### riddle/riddleref5.Shift: function 115 -/
noncomputable def ref5_Shift.body : Code := bodyOf Try.f115
def ref5_Shift.live : Nat → List Nat
  | _ => []
@[reducible] def ref5_Shift.vc (R : Value → World → Prop) (a : Int) (b : Int) (left : Bool) (w : World) : Prop :=
  ifP (decide ((b : Int) > 31))
    (R (.int .u32 0) w)
    (ifP left
    (0 ≤ b ∧ R (.int .u32 (IntKind.u32.wrap (a * 2 ^ (min (Int.toNat b) (IntKind.bits .u32))))) w)
    (0 ≤ b ∧ R (.int .u32 (Int.fdiv a (2 ^ (min (Int.toNat b) (IntKind.bits .u32))))) w))

theorem ref5_Shift.eq (R : Value → World → Prop) (a : Int) (b : Int) (left : Bool) (w : World) : fnVC Try.prog none ref5_Shift.live Try.f115 R [(.int .u32 a), (.int .u32 b), (.bool left)] w = ref5_Shift.vc R a b left w := by kernel_rfl
set_option maxHeartbeats 4000000 in
theorem ref5_Shift.ok {R : Value → World → Prop} {a : Int} {b : Int} {left : Bool} {w : World} (h : ref5_Shift.vc R a b left w) : Run Try.prog 115 #[(.int .u32 a), (.int .u32 b), (.bool left)] w R := by
  have h2 := Eq.mpr (ref5_Shift.eq R a b left w) h
  exact fn_sound Try.mixed Try.func115 (by kernel_rfl) h2

/-! ### riddle/riddleref5.Operate: function 77 -/
noncomputable def ref5_Operate.body : Code := bodyOf Try.f77
def ref5_Operate.live : Nat → List Nat
  | _ => []
@[reducible] def ref5_Operate.vc (R : Value → World → Prop) (code_ : Int) (a : Int) (b : Int) (w : World) : Prop :=
  ifP ((andNotI .u16 code_ 8 : Int) == 4)
    (R (.tuple #[(.int .u32 (IntKind.u32.wrap (a + b))), (.int .i64 0)]) w)
    (ifP ((andNotI .u16 code_ 8 : Int) == 20)
    (R (.tuple #[(.int .u32 (IntKind.u32.wrap (a - b))), (.int .i64 0)]) w)
    (ifP ((andNotI .u16 code_ 8 : Int) == 36)
    (R (.tuple #[(.int .u32 (IntKind.u32.wrap (a * b))), (.int .i64 0)]) w)
    (ifP ((andNotI .u16 code_ 8 : Int) == 68)
    (R (.tuple #[(.int .u32 (orI .u32 a b)), (.int .i64 0)]) w)
    (ifP ((andNotI .u16 code_ 8 : Int) == 84)
    (R (.tuple #[(.int .u32 (andI .u32 a b)), (.int .i64 0)]) w)
    (ifP ((andNotI .u16 code_ 8 : Int) == 164)
    (R (.tuple #[(.int .u32 (xorI .u32 a b)), (.int .i64 0)]) w)
    (ifP ((andNotI .u16 code_ 8 : Int) == 100)
    (Run Try.prog 115 #[(.int .u32 a), (.int .u32 b), (.bool true)] w fun v w_2 => ∃ t44 : Int, v = (.int .u32 t44) ∧ R (.tuple #[(.int .u32 t44), (.int .i64 0)]) w_2)
    (ifP ((andNotI .u16 code_ 8 : Int) == 116)
    (Run Try.prog 115 #[(.int .u32 a), (.int .u32 b), (.bool false)] w fun v_2 w_3 => ∃ t49 : Int, v_2 = (.int .u32 t49) ∧ R (.tuple #[(.int .u32 t49), (.int .i64 0)]) w_3)
    (ifP ((b : Int) == 0)
    (R (.tuple #[(.int .u32 0), (.int .i64 2)]) w)
    (ifP ((andNotI .u16 code_ 8 : Int) == 52)
    (b ≠ 0 ∧ R (.tuple #[(.int .u32 (IntKind.u32.wrap (Int.tdiv a b))), (.int .i64 0)]) w)
    (b ≠ 0 ∧ R (.tuple #[(.int .u32 (Int.tmod a b)), (.int .i64 0)]) w))))))))))

theorem ref5_Operate.eq (R : Value → World → Prop) (code_ : Int) (a : Int) (b : Int) (w : World) : fnVC Try.prog none ref5_Operate.live Try.f77 R [(.int .u16 code_), (.int .u32 a), (.int .u32 b)] w = ref5_Operate.vc R code_ a b w := by kernel_rfl
set_option maxHeartbeats 4000000 in
theorem ref5_Operate.ok {R : Value → World → Prop} {code_ : Int} {a : Int} {b : Int} {w : World} (h : ref5_Operate.vc R code_ a b w) : Run Try.prog 77 #[(.int .u16 code_), (.int .u32 a), (.int .u32 b)] w R := by
  have h2 := Eq.mpr (ref5_Operate.eq R code_ a b w) h
  exact fn_sound Try.mixed Try.func77 (by kernel_rfl) h2

/-! ### (*riddle/riddleref5.Machine).Step: function 46 -/
noncomputable def ref5_Machine_Step.body : Code := bodyOf Try.f46
def ref5_Machine_Step.live : Nat → List Nat
  | _ => []
def ref5_Machine_Step.J0 (R : Value → World → Prop) (fault : Int) (w : World) : Prop :=
  R (.int .i64 fault) w

def ref5_Machine_Step.J2 (R : Value → World → Prop) (fault : Int) (w : World) : Prop :=
  ref5_Machine_Step.J0 R fault w

def ref5_Machine_Step.J4 (R : Value → World → Prop) (fault : Int) (w : World) : Prop :=
  ref5_Machine_Step.J0 R fault w

def ref5_Machine_Step.J6 (R : Value → World → Prop) (fault : Int) (w : World) : Prop :=
  ref5_Machine_Step.J0 R fault w

def ref5_Machine_Step.J5 (R : Value → World → Prop) (m : Option Addr) (i : Addr) (b : Int) (w : World) : Prop :=
  ∃ S_ : World → Prop, S_ w.drew ∧ letW w.drew fun w_2 => ∃ t23 : Int, (∀ u : World, S_ u → u.cell? i = some (.int .u16 t23)) ∧ ∃ t25p : Addr, m = some t25p ∧ ∃ t27 : Int, (∀ u_2 : World, S_ u_2 → u_2.cell? t25p = some (.int .u32 t27)) ∧ Run Try.prog 77 #[(.int .u16 t23), (.int .u32 t27), (.int .u32 b)] w_2 fun v w_3 => ∃ t290 : Int, ∃ t291 : Int, v = (.tuple #[(.int .u32 t290), (.int .i64 t291)]) ∧ ∃ t32p : Addr, m = some t32p ∧ (∃ u : Value, w_3.cell? t32p = some u) ∧ w_3.frozen? t32p = false ∧ letW (w_3.setCell t32p (.int .u32 t290)) fun w_4 => ref5_Machine_Step.J6 R t291 w_4

def ref5_Machine_Step.J3 (R : Value → World → Prop) (m : Option Addr) (packetA : Option Addr) (packetn : Nat) (packetc : Nat) (i : Addr) (fault : Int) (t10 : Int) (t59 : Bool) (w : World) : Prop :=
  ifP t59
    (∃ S_ : World → Prop, S_ w.drew ∧ letW w.drew fun w_2 => ∃ t67 : Int, (∀ u : World, S_ u → u.cell? (i.add 3) = some (.int .u32 t67)) ∧ ∃ t70p : Addr, m = some t70p ∧ ∃ t72 : Int, (∀ u_2 : World, S_ u_2 → u_2.cell? (t70p.add 1) = some (.int .u32 t72)) ∧ ∃ t76 : Int, (∀ u_3 : World, S_ u_3 → u_3.cell? i = some (.int .u16 t76)) ∧ Run Try.prog 75 #[(.int .u16 t76)] w_2 fun v w_3 => ∃ t77 : Int, v = (.int .i64 t77) ∧ S_ w_3 ∧ Run Try.prog 74 #[(.slice packetA packetn packetc), (.int .u64 (IntKind.u64.wrap ((IntKind.u64.wrap t67) + (IntKind.u64.wrap t72)))), (.int .i64 t77)] w_3 fun v_2 w_4 => ∃ t780 : Int, ∃ t781 : Int, v_2 = (.tuple #[(.int .u32 t780), (.int .i64 t781)]) ∧ ∃ t81p : Addr, m = some t81p ∧ (∃ u : Value, w_4.cell? t81p = some u) ∧ w_4.frozen? t81p = false ∧ letW (w_4.setCell t81p (.int .u32 t780)) fun w_5 => ref5_Machine_Step.J4 R t781 w_5)
    (ifP ((t10 : Int) == 96)
    (∃ S__2 : World → Prop, S__2 w.drew ∧ letW w.drew fun w_6 => ∃ t88 : Int, (∀ u_4 : World, S__2 u_4 → u_4.cell? (i.add 3) = some (.int .u32 t88)) ∧ ∃ t90p : Addr, m = some t90p ∧ 0 ≤ (andI .u32 t88 15 : Int) ∧ (andI .u32 t88 15 : Int) < ((16 : Nat) : Int) ∧ ∃ t93 : Int, (∀ u_5 : World, S__2 u_5 → u_5.cell? ((t90p.add 2).add (Int.toNat (andI .u32 t88 15) * 1)) = some (.int .u32 t93)) ∧ ∃ t94p : Addr, m = some t94p ∧ (∃ u : Value, w_6.cell? t94p = some u) ∧ w_6.frozen? t94p = false ∧ letW (w_6.setCell t94p (.int .u32 t93)) fun w_7 => ref5_Machine_Step.J0 R fault w_7)
    (ifP ((t10 : Int) == 128)
    (∃ t102p : Addr, m = some t102p ∧ (∃ u : Value, w.cell? t102p = some u) ∧ w.frozen? t102p = false ∧ letW (w.setCell t102p (.int .u32 (IntKind.u32.wrap ((packetn : Nat) : Int)))) fun w_8 => ref5_Machine_Step.J0 R fault w_8)
    (ifP ((t10 : Int) == 1)
    (∃ t108 : Int, w.cell? (i.add 3) = some (.int .u32 t108) ∧ ∃ t109p : Addr, m = some t109p ∧ (∃ u : Value, w.cell? (t109p.add 1) = some u) ∧ w.frozen? (t109p.add 1) = false ∧ letW (w.setCell (t109p.add 1) (.int .u32 t108)) fun w_9 => ref5_Machine_Step.J0 R fault w_9)
    (ifP ((t10 : Int) == 97)
    (∃ S__3 : World → Prop, S__3 w.drew ∧ letW w.drew fun w_10 => ∃ t116 : Int, (∀ u_6 : World, S__3 u_6 → u_6.cell? (i.add 3) = some (.int .u32 t116)) ∧ ∃ t118p : Addr, m = some t118p ∧ 0 ≤ (andI .u32 t116 15 : Int) ∧ (andI .u32 t116 15 : Int) < ((16 : Nat) : Int) ∧ ∃ t121 : Int, (∀ u_7 : World, S__3 u_7 → u_7.cell? ((t118p.add 2).add (Int.toNat (andI .u32 t116 15) * 1)) = some (.int .u32 t121)) ∧ ∃ t122p : Addr, m = some t122p ∧ (∃ u : Value, w_10.cell? (t122p.add 1) = some u) ∧ w_10.frozen? (t122p.add 1) = false ∧ letW (w_10.setCell (t122p.add 1) (.int .u32 t121)) fun w_11 => ref5_Machine_Step.J0 R fault w_11)
    (ifP ((t10 : Int) == 129)
    (∃ t130p : Addr, m = some t130p ∧ (∃ u : Value, w.cell? (t130p.add 1) = some u) ∧ w.frozen? (t130p.add 1) = false ∧ letW (w.setCell (t130p.add 1) (.int .u32 (IntKind.u32.wrap ((packetn : Nat) : Int)))) fun w_12 => ref5_Machine_Step.J0 R fault w_12)
    (ifP ((t10 : Int) == 177)
    (∃ t138 : Int, w.cell? (i.add 3) = some (.int .u32 t138) ∧ Run Try.prog 74 #[(.slice packetA packetn packetc), (.int .u64 (IntKind.u64.wrap t138)), (.int .i64 1)] w fun v_3 w_13 => ∃ t1400 : Int, ∃ t1401 : Int, v_3 = (.tuple #[(.int .u32 t1400), (.int .i64 t1401)]) ∧ ∃ t143p : Addr, m = some t143p ∧ (∃ u : Value, w_13.cell? (t143p.add 1) = some u) ∧ w_13.frozen? (t143p.add 1) = false ∧ letW (w_13.setCell (t143p.add 1) (.int .u32 t1400)) fun w_14 => ∃ t147p : Addr, m = some t147p ∧ ∃ t149 : Int, w_14.cell? (t147p.add 1) = some (.int .u32 t149) ∧ ∃ t152p : Addr, m = some t152p ∧ (∃ u : Value, w_14.cell? (t152p.add 1) = some u) ∧ w_14.frozen? (t152p.add 1) = false ∧ letW (w_14.setCell (t152p.add 1) (.int .u32 (IntKind.u32.wrap (4 * (andI .u32 t149 15))))) fun w_15 => ref5_Machine_Step.J0 R t1401 w_15)
    (ifP ((t10 : Int) == 2)
    (∃ S__4 : World → Prop, S__4 w.drew ∧ letW w.drew fun w_16 => ∃ t158 : Int, (∀ u_8 : World, S__4 u_8 → u_8.cell? (i.add 3) = some (.int .u32 t158)) ∧ ∃ t161p : Addr, m = some t161p ∧ ∃ t163 : Int, (∀ u_9 : World, S__4 u_9 → u_9.cell? t161p = some (.int .u32 t163)) ∧ ∃ t164p : Addr, m = some t164p ∧ 0 ≤ (andI .u32 t158 15 : Int) ∧ (andI .u32 t158 15 : Int) < ((16 : Nat) : Int) ∧ (∃ u : Value, w_16.cell? ((t164p.add 2).add (Int.toNat (andI .u32 t158 15) * 1)) = some u) ∧ w_16.frozen? ((t164p.add 2).add (Int.toNat (andI .u32 t158 15) * 1)) = false ∧ letW (w_16.setCell ((t164p.add 2).add (Int.toNat (andI .u32 t158 15) * 1)) (.int .u32 t163)) fun w_17 => ref5_Machine_Step.J0 R fault w_17)
    (ifP ((t10 : Int) == 3)
    (∃ S__5 : World → Prop, S__5 w.drew ∧ letW w.drew fun w_18 => ∃ t171 : Int, (∀ u_10 : World, S__5 u_10 → u_10.cell? (i.add 3) = some (.int .u32 t171)) ∧ ∃ t174p : Addr, m = some t174p ∧ ∃ t176 : Int, (∀ u_11 : World, S__5 u_11 → u_11.cell? (t174p.add 1) = some (.int .u32 t176)) ∧ ∃ t177p : Addr, m = some t177p ∧ 0 ≤ (andI .u32 t171 15 : Int) ∧ (andI .u32 t171 15 : Int) < ((16 : Nat) : Int) ∧ (∃ u : Value, w_18.cell? ((t177p.add 2).add (Int.toNat (andI .u32 t171 15) * 1)) = some u) ∧ w_18.frozen? ((t177p.add 2).add (Int.toNat (andI .u32 t171 15) * 1)) = false ∧ letW (w_18.setCell ((t177p.add 2).add (Int.toNat (andI .u32 t171 15) * 1)) (.int .u32 t176)) fun w_19 => ref5_Machine_Step.J0 R fault w_19)
    (ifP ((t10 : Int) == 132)
    (∃ t184p : Addr, m = some t184p ∧ ∃ t186 : Int, w.cell? t184p = some (.int .u32 t186) ∧ ∃ t188p : Addr, m = some t188p ∧ (∃ u : Value, w.cell? t188p = some u) ∧ w.frozen? t188p = false ∧ letW (w.setCell t188p (.int .u32 (IntKind.u32.wrap (0 - t186)))) fun w_20 => ref5_Machine_Step.J0 R fault w_20)
    (ifP ((t10 : Int) == 7)
    (∃ t194p : Addr, m = some t194p ∧ ∃ t196 : Int, w.cell? t194p = some (.int .u32 t196) ∧ ∃ t197p : Addr, m = some t197p ∧ (∃ u : Value, w.cell? (t197p.add 1) = some u) ∧ w.frozen? (t197p.add 1) = false ∧ letW (w.setCell (t197p.add 1) (.int .u32 t196)) fun w_21 => ref5_Machine_Step.J0 R fault w_21)
    (ifP ((t10 : Int) == 135)
    (∃ t203p : Addr, m = some t203p ∧ ∃ t205 : Int, w.cell? (t203p.add 1) = some (.int .u32 t205) ∧ ∃ t206p : Addr, m = some t206p ∧ (∃ u : Value, w.cell? t206p = some u) ∧ w.frozen? t206p = false ∧ letW (w.setCell t206p (.int .u32 t205)) fun w_22 => ref5_Machine_Step.J0 R fault w_22)
    (∃ t12 : Int, w.cell? (i.add 3) = some (.int .u32 t12) ∧ ∃ t14 : Int, w.cell? i = some (.int .u16 t14) ∧ Run Try.prog 76 #[(.int .u16 t14)] w fun v_4 w_23 => ∃ t15 : Bool, v_4 = (.bool t15) ∧ ifP t15
    (∃ t17p : Addr, m = some t17p ∧ ∃ t19 : Int, w_23.cell? (t17p.add 1) = some (.int .u32 t19) ∧ ref5_Machine_Step.J5 R m i t19 w_23)
    (ref5_Machine_Step.J5 R m i t12 w_23)))))))))))))

def ref5_Machine_Step.J1 (R : Value → World → Prop) (m : Option Addr) (packetA : Option Addr) (packetn : Nat) (packetc : Nat) (i : Addr) (fault : Int) (t10 : Int) (t41 : Bool) (w : World) : Prop :=
  ifP t41
    (∃ S_ : World → Prop, S_ w.drew ∧ letW w.drew fun w_2 => ∃ t49 : Int, (∀ u : World, S_ u → u.cell? (i.add 3) = some (.int .u32 t49)) ∧ ∃ t52 : Int, (∀ u_2 : World, S_ u_2 → u_2.cell? i = some (.int .u16 t52)) ∧ Run Try.prog 75 #[(.int .u16 t52)] w_2 fun v w_3 => ∃ t53 : Int, v = (.int .i64 t53) ∧ S_ w_3 ∧ Run Try.prog 74 #[(.slice packetA packetn packetc), (.int .u64 (IntKind.u64.wrap t49)), (.int .i64 t53)] w_3 fun v_2 w_4 => ∃ t540 : Int, ∃ t541 : Int, v_2 = (.tuple #[(.int .u32 t540), (.int .i64 t541)]) ∧ ∃ t57p : Addr, m = some t57p ∧ (∃ u : Value, w_4.cell? t57p = some u) ∧ w_4.frozen? t57p = false ∧ letW (w_4.setCell t57p (.int .u32 t540)) fun w_5 => ref5_Machine_Step.J2 R t541 w_5)
    (ifP ((t10 : Int) == 64)
    (ref5_Machine_Step.J3 R m packetA packetn packetc i fault t10 ((t10 : Int) == 64) w)
    (ifP ((t10 : Int) == 72)
    (ref5_Machine_Step.J3 R m packetA packetn packetc i fault t10 ((t10 : Int) == 72) w)
    (ref5_Machine_Step.J3 R m packetA packetn packetc i fault t10 ((t10 : Int) == 80) w)))

@[reducible] def ref5_Machine_Step.vc (R : Value → World → Prop) (m : Option Addr) (i_0 : Int) (i_1 : Int) (i_2 : Int) (i_3 : Int) (packetA : Option Addr) (packetn : Nat) (packetc : Nat) (w : World) : Prop :=
  letW (w.alloc (.cells #[(.int .u16 i_0), (.int .u8 i_1), (.int .u8 i_2), (.int .u32 i_3)] 47)) fun w_2 => ∃ t10 : Int, w_2.cell? (newA w) = some (.int .u16 t10) ∧ ifP ((t10 : Int) == 0)
    (∃ t38 : Int, w_2.cell? ((newA w).add 3) = some (.int .u32 t38) ∧ ∃ t39p : Addr, m = some t39p ∧ (∃ u : Value, w_2.cell? t39p = some u) ∧ w_2.frozen? t39p = false ∧ letW (w_2.setCell t39p (.int .u32 t38)) fun w_3 => ref5_Machine_Step.J0 R 0 w_3)
    (ifP ((t10 : Int) == 32)
    (ref5_Machine_Step.J1 R m packetA packetn packetc (newA w) 0 t10 ((t10 : Int) == 32) w_2)
    (ifP ((t10 : Int) == 40)
    (ref5_Machine_Step.J1 R m packetA packetn packetc (newA w) 0 t10 ((t10 : Int) == 40) w_2)
    (ref5_Machine_Step.J1 R m packetA packetn packetc (newA w) 0 t10 ((t10 : Int) == 48) w_2)))

theorem ref5_Machine_Step.eq (R : Value → World → Prop) (m : Option Addr) (i_0 : Int) (i_1 : Int) (i_2 : Int) (i_3 : Int) (packetA : Option Addr) (packetn : Nat) (packetc : Nat) (w : World) : fnVC Try.prog none ref5_Machine_Step.live Try.f46 R [(.pointer m), (.agg #[(.int .u16 i_0), (.int .u8 i_1), (.int .u8 i_2), (.int .u32 i_3)]), (.slice packetA packetn packetc)] w = ref5_Machine_Step.vc R m i_0 i_1 i_2 i_3 packetA packetn packetc w := by kernel_rfl
set_option maxHeartbeats 4000000 in
theorem ref5_Machine_Step.ok {R : Value → World → Prop} {m : Option Addr} {i_0 : Int} {i_1 : Int} {i_2 : Int} {i_3 : Int} {packetA : Option Addr} {packetn : Nat} {packetc : Nat} {w : World} (h : ref5_Machine_Step.vc R m i_0 i_1 i_2 i_3 packetA packetn packetc w) : Run Try.prog 46 #[(.pointer m), (.agg #[(.int .u16 i_0), (.int .u8 i_1), (.int .u8 i_2), (.int .u32 i_3)]), (.slice packetA packetn packetc)] w R := by
  have h2 := Eq.mpr (ref5_Machine_Step.eq R m i_0 i_1 i_2 i_3 packetA packetn packetc w) h
  exact fn_sound Try.mixed Try.func46 (by kernel_rfl) h2

/-! ### riddle/riddleref5.Holds: function 47 -/
noncomputable def ref5_Holds.body : Code := bodyOf Try.f47
def ref5_Holds.live : Nat → List Nat
  | _ => []
def ref5_Holds.J0 (R : Value → World → Prop) (a : Int) (i : Addr) (b : Int) (w : World) : Prop :=
  ∃ t15 : Int, w.cell? i = some (.int .u16 t15) ∧ ifP ((andNotI .u16 t15 8 : Int) == 21)
    (R (.bool ((a : Int) == b)) w)
    (ifP ((andNotI .u16 t15 8 : Int) == 37)
    (R (.bool (decide ((a : Int) > b))) w)
    (ifP ((andNotI .u16 t15 8 : Int) == 53)
    (R (.bool (decide ((a : Int) ≥ b))) w)
    (R (.bool ((andI .u32 a b : Int) != 0)) w)))

@[reducible] def ref5_Holds.vc (R : Value → World → Prop) (i_0 : Int) (i_1 : Int) (i_2 : Int) (i_3 : Int) (a : Int) (x : Int) (w : World) : Prop :=
  letW (w.alloc (.cells #[(.int .u16 i_0), (.int .u8 i_1), (.int .u8 i_2), (.int .u32 i_3)] 47)) fun w_2 => ∃ t9 : Int, w_2.cell? ((newA w).add 3) = some (.int .u32 t9) ∧ ∃ t11 : Int, w_2.cell? (newA w) = some (.int .u16 t11) ∧ Run Try.prog 76 #[(.int .u16 t11)] w_2 fun v w_3 => ∃ t12 : Bool, v = (.bool t12) ∧ ifP t12
    (ref5_Holds.J0 R a (newA w) x w_3)
    (ref5_Holds.J0 R a (newA w) t9 w_3)

theorem ref5_Holds.eq (R : Value → World → Prop) (i_0 : Int) (i_1 : Int) (i_2 : Int) (i_3 : Int) (a : Int) (x : Int) (w : World) : fnVC Try.prog none ref5_Holds.live Try.f47 R [(.agg #[(.int .u16 i_0), (.int .u8 i_1), (.int .u8 i_2), (.int .u32 i_3)]), (.int .u32 a), (.int .u32 x)] w = ref5_Holds.vc R i_0 i_1 i_2 i_3 a x w := by kernel_rfl
set_option maxHeartbeats 4000000 in
theorem ref5_Holds.ok {R : Value → World → Prop} {i_0 : Int} {i_1 : Int} {i_2 : Int} {i_3 : Int} {a : Int} {x : Int} {w : World} (h : ref5_Holds.vc R i_0 i_1 i_2 i_3 a x w) : Run Try.prog 47 #[(.agg #[(.int .u16 i_0), (.int .u8 i_1), (.int .u8 i_2), (.int .u32 i_3)]), (.int .u32 a), (.int .u32 x)] w R := by
  have h2 := Eq.mpr (ref5_Holds.eq R i_0 i_1 i_2 i_3 a x w) h
  exact fn_sound Try.mixed Try.func47 (by kernel_rfl) h2

/-! ### riddle/riddleref15.Run: function 15 -/
noncomputable def ref15_Run.body : Code := bodyOf Try.f15
def ref15_Run.live : Nat → List Nat
  | 0 => [0, 1, 4, 6, 7, 8]
  | 2 => [0, 1, 4, 6, 7, 9, 10]
  | _ => []
noncomputable def ref15_Run.c0 : Code := sub ref15_Run.body [1, 1, 1, 1, 1, 1, 0, 0]
noncomputable def ref15_Run.c2 : Code := sub ref15_Run.body [1, 1, 1, 1, 1, 1, 0, 0, 0, 1, 0, 1, 0, 0]
def ref15_Run.K0 (R : Value → World → Prop) : Ex → St → World → Prop := (blockK 0 (retK Try.prog Try.f15 R))
def ref15_Run.L0 (R : Value → World → Prop) (gA : Option Addr) (gn : Nat) (gc : Nat) (packetA : Option Addr) (packetn : Nat) (packetc : Nat) (t4 : Addr) (m : Addr) (steps : Int) (at_ : Int) (w : World) : Prop :=
  loopVC (fun K => code Try.prog none ref15_Run.live 0 ref15_Run.c0 K) (ref15_Run.live 0) (ref15_Run.K0 R) [(.slice gA gn gc), (.slice packetA packetn packetc), undef, undef, (.pointer (some t4)), undef, (.pointer (some m)), (.int .i64 steps), (.int .i64 at_), undef, undef, undef, undef, undef, undef, undef, undef, undef, undef, undef, undef, undef, undef, undef, undef, undef, undef, undef, undef, undef, undef, undef, undef, undef, undef, undef, undef, undef, undef, undef, undef, undef, undef, undef, undef, undef, undef, undef, undef, undef, undef, undef, undef, undef, undef, undef, undef, undef, undef, undef, undef, undef, undef, undef, undef, undef, undef, undef, undef, undef, undef, undef, undef, undef, undef, undef, undef, undef, undef, undef, undef, undef, undef, undef, undef, undef, undef, undef, undef, undef] w
def ref15_Run.K2 (R : Value → World → Prop) : Ex → St → World → Prop := (blockK 2 (thenK (fun st w => code Try.prog none ref15_Run.live 1 (sub ref15_Run.body [1, 1, 1, 1, 1, 1, 0, 0, 0, 1, 1]) (blockK 1 (thenK (fun st w => loopVC (fun K => code Try.prog none ref15_Run.live 0 ref15_Run.c0 K) (ref15_Run.live 0) (ref15_Run.K0 R) (clearFrom (ref15_Run.live 0) 0 st) w) (ref15_Run.K0 R))) st w) (blockK 1 (thenK (fun st w => loopVC (fun K => code Try.prog none ref15_Run.live 0 ref15_Run.c0 K) (ref15_Run.live 0) (ref15_Run.K0 R) (clearFrom (ref15_Run.live 0) 0 st) w) (ref15_Run.K0 R)))))
def ref15_Run.L2 (R : Value → World → Prop) (gA : Option Addr) (gn : Nat) (gc : Nat) (packetA : Option Addr) (packetn : Nat) (packetc : Nat) (t4 : Addr) (m : Addr) (steps : Int) (b : Addr) (i : Int) (w : World) : Prop :=
  loopVC (fun K => code Try.prog none ref15_Run.live 2 ref15_Run.c2 K) (ref15_Run.live 2) (ref15_Run.K2 R) [(.slice gA gn gc), (.slice packetA packetn packetc), undef, undef, (.pointer (some t4)), undef, (.pointer (some m)), (.int .i64 steps), undef, (.pointer (some b)), (.int .i64 i), undef, undef, undef, undef, undef, undef, undef, undef, undef, undef, undef, undef, undef, undef, undef, undef, undef, undef, undef, undef, undef, undef, undef, undef, undef, undef, undef, undef, undef, undef, undef, undef, undef, undef, undef, undef, undef, undef, undef, undef, undef, undef, undef, undef, undef, undef, undef, undef, undef, undef, undef, undef, undef, undef, undef, undef, undef, undef, undef, undef, undef, undef, undef, undef, undef, undef, undef, undef, undef, undef, undef, undef, undef, undef, undef, undef, undef, undef, undef] w
def ref15_Run.J2 (R : Value → World → Prop) (gA : Option Addr) (gn : Nat) (gc : Nat) (packetA : Option Addr) (packetn : Nat) (packetc : Nat) (t4 : Addr) (m : Addr) (steps : Int) (b : Addr) (t75 : Bool) (w : World) : Prop :=
  ifP t75
    (∃ t89 : Int, w.cell? (b.add 6) = some (.int .i64 t89) ∧ ref15_Run.L0 R gA gn gc packetA packetn packetc t4 m steps t89 w)
    (∃ t51 : Int, w.cell? (b.add 7) = some (.int .i64 t51) ∧ ref15_Run.L0 R gA gn gc packetA packetn packetc t4 m steps t51 w)

def ref15_Run.J1 (R : Value → World → Prop) (gA : Option Addr) (gn : Nat) (gc : Nat) (packetA : Option Addr) (packetn : Nat) (packetc : Nat) (t4 : Addr) (m : Addr) (steps : Int) (b : Addr) (t52 : Bool) (w : World) : Prop :=
  ifP t52
    (∃ t64 : Int, w.cell? ((b.add 2).add 3) = some (.int .u32 t64) ∧ storeRow t4 0 [(.int .u32 t64), (.int .i64 0), (.int .i64 steps)] w fun w_2 => ∃ t4_0 : Int, w_2.cell? t4 = some (.int .u32 t4_0) ∧ ∃ t4_1 : Int, w_2.cell? (t4.add 1) = some (.int .i64 t4_1) ∧ ∃ t4_2 : Int, w_2.cell? (t4.add 2) = some (.int .i64 t4_2) ∧ R (.tuple #[(.agg #[(.int .u32 t4_0), (.int .i64 t4_1), (.int .i64 t4_2)]), (.int .i64 0)]) w_2)
    (∃ t69 : Int, w.cell? (b.add 1) = some (.int .i64 t69) ∧ ifP ((t69 : Int) == 1)
    (∃ t72 : Int, w.cell? m = some (.int .u32 t72) ∧ storeRow t4 0 [(.int .u32 t72), (.int .i64 0), (.int .i64 steps)] w fun w_3 => ∃ t4_0_2 : Int, w_3.cell? t4 = some (.int .u32 t4_0_2) ∧ ∃ t4_1_2 : Int, w_3.cell? (t4.add 1) = some (.int .i64 t4_1_2) ∧ ∃ t4_2_2 : Int, w_3.cell? (t4.add 2) = some (.int .i64 t4_2_2) ∧ R (.tuple #[(.agg #[(.int .u32 t4_0_2), (.int .i64 t4_1_2), (.int .i64 t4_2_2)]), (.int .i64 0)]) w_3)
    (∃ t77 : Int, w.cell? (b.add 1) = some (.int .i64 t77) ∧ ifP ((t77 : Int) == 2) (ref15_Run.J2 R gA gn gc packetA packetn packetc t4 m steps b true w) (∃ t81_0 : Int, w.cell? (b.add 2) = some (.int .u16 t81_0) ∧ ∃ t81_1 : Int, w.cell? ((b.add 2).add 1) = some (.int .u8 t81_1) ∧ ∃ t81_2 : Int, w.cell? ((b.add 2).add 2) = some (.int .u8 t81_2) ∧ ∃ t81_3 : Int, w.cell? ((b.add 2).add 3) = some (.int .u32 t81_3) ∧ ∃ t83 : Int, w.cell? m = some (.int .u32 t83) ∧ ∃ t85 : Int, w.cell? (m.add 1) = some (.int .u32 t85) ∧ Run Try.prog 47 #[(.agg #[(.int .u16 t81_0), (.int .u8 t81_1), (.int .u8 t81_2), (.int .u32 t81_3)]), (.int .u32 t83), (.int .u32 t85)] w fun v w_4 => ∃ t86 : Bool, v = (.bool t86) ∧ ref15_Run.J2 R gA gn gc packetA packetn packetc t4 m steps b t86 w_4)))

def ref15_Run.J0 (R : Value → World → Prop) (gA : Option Addr) (gn : Nat) (gc : Nat) (packetA : Option Addr) (packetn : Nat) (packetc : Nat) (t4 : Addr) (m : Addr) (steps : Int) (b : Addr) (w : World) : Prop :=
  ∃ t54 : Int, w.cell? (b.add 1) = some (.int .i64 t54) ∧ ifP ((t54 : Int) == 1) (∃ t59 : Int, w.cell? (b.add 2) = some (.int .u16 t59) ∧ ref15_Run.J1 R gA gn gc packetA packetn packetc t4 m steps b ((t59 : Int) == 6) w) (ref15_Run.J1 R gA gn gc packetA packetn packetc t4 m steps b false w)

@[reducible] def ref15_Run.B2 (R : Value → World → Prop) (gA : Option Addr) (gn : Nat) (gc : Nat) (packetA : Option Addr) (packetn : Nat) (packetc : Nat) (t4 : Addr) (m : Addr) (steps : Int) (b : Addr) (i : Int) (w : World) : Prop :=
  ∃ (t26A : Option Addr) (t26n t26c : Nat), w.cell? b = some (.slice t26A t26n t26c) ∧ ifP (decide ((i : Int) < ((t26n : Nat) : Int)))
    (∃ (t34A : Option Addr) (t34n t34c : Nat), w.cell? b = some (.slice t34A t34n t34c) ∧ 0 ≤ (i : Int) ∧ (i : Int) < ((t34n : Nat) : Int) ∧ ∃ t36p : Addr, t34A = some t36p ∧ ∃ t37_0 : Int, w.cell? (t36p.add (Int.toNat i * 4)) = some (.int .u16 t37_0) ∧ ∃ t37_1 : Int, w.cell? ((t36p.add (Int.toNat i * 4)).add 1) = some (.int .u8 t37_1) ∧ ∃ t37_2 : Int, w.cell? ((t36p.add (Int.toNat i * 4)).add 2) = some (.int .u8 t37_2) ∧ ∃ t37_3 : Int, w.cell? ((t36p.add (Int.toNat i * 4)).add 3) = some (.int .u32 t37_3) ∧ Run Try.prog 46 #[(.pointer (some m)), (.agg #[(.int .u16 t37_0), (.int .u8 t37_1), (.int .u8 t37_2), (.int .u32 t37_3)]), (.slice packetA packetn packetc)] w fun v w_2 => ∃ t39 : Int, v = (.int .i64 t39) ∧ ifP ((t39 : Int) != 0)
    (storeRow t4 0 [(.int .u32 0), (.int .i64 t39), (.int .i64 (IntKind.i64.wrap (steps + 1)))] w_2 fun w_3 => ∃ t4_0 : Int, w_3.cell? t4 = some (.int .u32 t4_0) ∧ ∃ t4_1 : Int, w_3.cell? (t4.add 1) = some (.int .i64 t4_1) ∧ ∃ t4_2 : Int, w_3.cell? (t4.add 2) = some (.int .i64 t4_2) ∧ R (.tuple #[(.agg #[(.int .u32 t4_0), (.int .i64 t4_1), (.int .i64 t4_2)]), (.int .i64 0)]) w_3)
    (ref15_Run.L2 R gA gn gc packetA packetn packetc t4 m (IntKind.i64.wrap (steps + 1)) b (IntKind.i64.wrap (i + 1)) w_2))
    (∃ t46 : Int, w.cell? (b.add 1) = some (.int .i64 t46) ∧ ifP ((t46 : Int) != 2)
    (ref15_Run.J0 R gA gn gc packetA packetn packetc t4 m (IntKind.i64.wrap (steps + 1)) b w)
    (ref15_Run.J0 R gA gn gc packetA packetn packetc t4 m steps b w))

@[reducible] def ref15_Run.B0 (R : Value → World → Prop) (gA : Option Addr) (gn : Nat) (gc : Nat) (packetA : Option Addr) (packetn : Nat) (packetc : Nat) (t4 : Addr) (m : Addr) (steps : Int) (at_ : Int) (w : World) : Prop :=
  0 ≤ (at_ : Int) ∧ (at_ : Int) < ((gn : Nat) : Int) ∧ ∃ t22p : Addr, gA = some t22p ∧ ∃ (t23_0A : Option Addr) (t23_0n t23_0c : Nat), w.cell? (t22p.add (Int.toNat at_ * 8)) = some (.slice t23_0A t23_0n t23_0c) ∧ ∃ t23_1 : Int, w.cell? ((t22p.add (Int.toNat at_ * 8)).add 1) = some (.int .i64 t23_1) ∧ ∃ t23_2 : Int, w.cell? ((t22p.add (Int.toNat at_ * 8)).add 2) = some (.int .u16 t23_2) ∧ ∃ t23_3 : Int, w.cell? ((t22p.add (Int.toNat at_ * 8)).add 3) = some (.int .u8 t23_3) ∧ ∃ t23_4 : Int, w.cell? ((t22p.add (Int.toNat at_ * 8)).add 4) = some (.int .u8 t23_4) ∧ ∃ t23_5 : Int, w.cell? ((t22p.add (Int.toNat at_ * 8)).add 5) = some (.int .u32 t23_5) ∧ ∃ t23_6 : Int, w.cell? ((t22p.add (Int.toNat at_ * 8)).add 6) = some (.int .i64 t23_6) ∧ ∃ t23_7 : Int, w.cell? ((t22p.add (Int.toNat at_ * 8)).add 7) = some (.int .i64 t23_7) ∧ letW (w.alloc (.cells #[(.slice none 0 0), (.int .i64 0), (.int .u16 0), (.int .u8 0), (.int .u8 0), (.int .u32 0), (.int .i64 0), (.int .i64 0)] 49)) fun w_2 => storeRow (newA w) 0 [(.slice t23_0A t23_0n t23_0c), (.int .i64 t23_1), (.int .u16 t23_2), (.int .u8 t23_3), (.int .u8 t23_4), (.int .u32 t23_5), (.int .i64 t23_6), (.int .i64 t23_7)] w_2 fun w_3 => ref15_Run.L2 R gA gn gc packetA packetn packetc t4 m steps (newA w) 0 w_3

@[reducible] def ref15_Run.vc (R : Value → World → Prop) (gA : Option Addr) (gn : Nat) (gc : Nat) (packetA : Option Addr) (packetn : Nat) (packetc : Nat) (w : World) : Prop :=
  letW (w.alloc (.cells #[(.int .u32 0), (.int .i64 0), (.int .i64 0)] 33)) fun w_2 => Run Try.prog 30 #[(.slice gA gn gc)] w_2 fun v w_3 => ∃ t13 : Bool, v = (.bool t13) ∧ ifP (!t13)
    (storeRow (newA w) 0 [(.int .u32 0), (.int .i64 0), (.int .i64 0)] w_3 fun w_4 => ∃ t4_0 : Int, w_4.cell? (newA w) = some (.int .u32 t4_0) ∧ ∃ t4_1 : Int, w_4.cell? ((newA w).add 1) = some (.int .i64 t4_1) ∧ ∃ t4_2 : Int, w_4.cell? ((newA w).add 2) = some (.int .i64 t4_2) ∧ R (.tuple #[(.agg #[(.int .u32 t4_0), (.int .i64 t4_1), (.int .i64 t4_2)]), (.int .i64 155)]) w_4)
    (ifP (decide ((((packetn : Nat) : Int) : Int) > 65536))
    (storeRow (newA w) 0 [(.int .u32 0), (.int .i64 0), (.int .i64 0)] w_3 fun w_5 => ∃ t4_0_2 : Int, w_5.cell? (newA w) = some (.int .u32 t4_0_2) ∧ ∃ t4_1_2 : Int, w_5.cell? ((newA w).add 1) = some (.int .i64 t4_1_2) ∧ ∃ t4_2_2 : Int, w_5.cell? ((newA w).add 2) = some (.int .i64 t4_2_2) ∧ R (.tuple #[(.agg #[(.int .u32 t4_0_2), (.int .i64 t4_1_2), (.int .i64 t4_2_2)]), (.int .i64 51)]) w_5)
    (letW (w_3.alloc (.cells #[(.int .u32 0), (.int .u32 0), (.int .u32 0), (.int .u32 0), (.int .u32 0), (.int .u32 0), (.int .u32 0), (.int .u32 0), (.int .u32 0), (.int .u32 0), (.int .u32 0), (.int .u32 0), (.int .u32 0), (.int .u32 0), (.int .u32 0), (.int .u32 0), (.int .u32 0), (.int .u32 0)] 71)) fun w_6 => ref15_Run.L0 R gA gn gc packetA packetn packetc (newA w) (newA w_3) 0 0 w_6))

theorem ref15_Run.B0_eq (R : Value → World → Prop) (gA : Option Addr) (gn : Nat) (gc : Nat) (packetA : Option Addr) (packetn : Nat) (packetc : Nat) (t4 : Addr) (m : Addr) (steps : Int) (at_ : Int) (w : World) (ts : Nat → Value) :
    code Try.prog none ref15_Run.live 0 ref15_Run.c0 (thenK (fun st w => loopVC (fun K => code Try.prog none ref15_Run.live 0 ref15_Run.c0 K) (ref15_Run.live 0) (ref15_Run.K0 R) (clearFrom (ref15_Run.live 0) 0 st) w) (ref15_Run.K0 R)) (mergeFrom (ref15_Run.live 0) ts 0 (clearFrom (ref15_Run.live 0) 0 [(.slice gA gn gc), (.slice packetA packetn packetc), undef, undef, (.pointer (some t4)), undef, (.pointer (some m)), (.int .i64 steps), (.int .i64 at_), undef, undef, undef, undef, undef, undef, undef, undef, undef, undef, undef, undef, undef, undef, undef, undef, undef, undef, undef, undef, undef, undef, undef, undef, undef, undef, undef, undef, undef, undef, undef, undef, undef, undef, undef, undef, undef, undef, undef, undef, undef, undef, undef, undef, undef, undef, undef, undef, undef, undef, undef, undef, undef, undef, undef, undef, undef, undef, undef, undef, undef, undef, undef, undef, undef, undef, undef, undef, undef, undef, undef, undef, undef, undef, undef, undef, undef, undef, undef, undef, undef])) w = ref15_Run.B0 R gA gn gc packetA packetn packetc t4 m steps at_ w := by kernel_rfl
theorem ref15_Run.L0_step {R : Value → World → Prop} {gA : Option Addr} {gn : Nat} {gc : Nat} {packetA : Option Addr} {packetn : Nat} {packetc : Nat} {t4 : Addr} {m : Addr} {steps : Int} {at_ : Int} {w : World} (h : ref15_Run.B0 R gA gn gc packetA packetn packetc t4 m steps at_ w) : ref15_Run.L0 R gA gn gc packetA packetn packetc t4 m steps at_ w :=
  loop_step (live := ref15_Run.live) (b := 0) (x := ref15_Run.c0) fun ts => Eq.mpr (ref15_Run.B0_eq R gA gn gc packetA packetn packetc t4 m steps at_ w ts) h
theorem ref15_Run.B2_eq (R : Value → World → Prop) (gA : Option Addr) (gn : Nat) (gc : Nat) (packetA : Option Addr) (packetn : Nat) (packetc : Nat) (t4 : Addr) (m : Addr) (steps : Int) (b : Addr) (i : Int) (w : World) (ts : Nat → Value) :
    code Try.prog none ref15_Run.live 2 ref15_Run.c2 (thenK (fun st w => loopVC (fun K => code Try.prog none ref15_Run.live 2 ref15_Run.c2 K) (ref15_Run.live 2) (ref15_Run.K2 R) (clearFrom (ref15_Run.live 2) 0 st) w) (ref15_Run.K2 R)) (mergeFrom (ref15_Run.live 2) ts 0 (clearFrom (ref15_Run.live 2) 0 [(.slice gA gn gc), (.slice packetA packetn packetc), undef, undef, (.pointer (some t4)), undef, (.pointer (some m)), (.int .i64 steps), undef, (.pointer (some b)), (.int .i64 i), undef, undef, undef, undef, undef, undef, undef, undef, undef, undef, undef, undef, undef, undef, undef, undef, undef, undef, undef, undef, undef, undef, undef, undef, undef, undef, undef, undef, undef, undef, undef, undef, undef, undef, undef, undef, undef, undef, undef, undef, undef, undef, undef, undef, undef, undef, undef, undef, undef, undef, undef, undef, undef, undef, undef, undef, undef, undef, undef, undef, undef, undef, undef, undef, undef, undef, undef, undef, undef, undef, undef, undef, undef, undef, undef, undef, undef, undef, undef])) w = ref15_Run.B2 R gA gn gc packetA packetn packetc t4 m steps b i w := by kernel_rfl
theorem ref15_Run.L2_step {R : Value → World → Prop} {gA : Option Addr} {gn : Nat} {gc : Nat} {packetA : Option Addr} {packetn : Nat} {packetc : Nat} {t4 : Addr} {m : Addr} {steps : Int} {b : Addr} {i : Int} {w : World} (h : ref15_Run.B2 R gA gn gc packetA packetn packetc t4 m steps b i w) : ref15_Run.L2 R gA gn gc packetA packetn packetc t4 m steps b i w :=
  loop_step (live := ref15_Run.live) (b := 2) (x := ref15_Run.c2) fun ts => Eq.mpr (ref15_Run.B2_eq R gA gn gc packetA packetn packetc t4 m steps b i w ts) h
theorem ref15_Run.eq (R : Value → World → Prop) (gA : Option Addr) (gn : Nat) (gc : Nat) (packetA : Option Addr) (packetn : Nat) (packetc : Nat) (w : World) : fnVC Try.prog none ref15_Run.live Try.f15 R [(.slice gA gn gc), (.slice packetA packetn packetc)] w = ref15_Run.vc R gA gn gc packetA packetn packetc w := by kernel_rfl
set_option maxHeartbeats 4000000 in
theorem ref15_Run.ok {R : Value → World → Prop} {gA : Option Addr} {gn : Nat} {gc : Nat} {packetA : Option Addr} {packetn : Nat} {packetc : Nat} {w : World} (h : ref15_Run.vc R gA gn gc packetA packetn packetc w) : Run Try.prog 15 #[(.slice gA gn gc), (.slice packetA packetn packetc)] w R := by
  have h2 := Eq.mpr (ref15_Run.eq R gA gn gc packetA packetn packetc w) h
  exact fn_sound Try.mixed Try.func15 (by kernel_rfl) h2

/-! ### riddle/riddlelaw0.CopyBytes: function 29 -/
noncomputable def law0_CopyBytes.body : Code := bodyOf Try.f29
def law0_CopyBytes.live : Nat → List Nat
  | _ => []
@[reducible] def law0_CopyBytes.vc (R : Value → World → Prop) (aA : Option Addr) (an : Nat) (ac : Nat) (w : World) : Prop :=
  letW (w.alloc (.cells #[] 5)) fun w_2 => ∃ (v : Value) (w_3 : World), (Builtin.append_ #[30, 30] 30 #[(.slice (some (newA w)) 0 0), (.slice aA an ac)]).run Try.prog w_2 = .ok v w_3 ∧ ∃ (t5A : Option Addr) (t5n t5c : Nat), v = (.slice t5A t5n t5c) ∧ R (.slice t5A t5n t5c) w_3

theorem law0_CopyBytes.eq (R : Value → World → Prop) (aA : Option Addr) (an : Nat) (ac : Nat) (w : World) : fnVC Try.prog none law0_CopyBytes.live Try.f29 R [(.slice aA an ac)] w = law0_CopyBytes.vc R aA an ac w := by kernel_rfl
set_option maxHeartbeats 4000000 in
theorem law0_CopyBytes.ok {R : Value → World → Prop} {aA : Option Addr} {an : Nat} {ac : Nat} {w : World} (h : law0_CopyBytes.vc R aA an ac w) : Run Try.prog 29 #[(.slice aA an ac)] w R := by
  have h2 := Eq.mpr (law0_CopyBytes.eq R aA an ac w) h
  exact fn_sound Try.mixed Try.func29 (by kernel_rfl) h2

/-! ### riddle/riddlelaw0.LendBytes: function 16 -/
noncomputable def law0_LendBytes.body : Code := bodyOf Try.f16
def law0_LendBytes.live : Nat → List Nat
  | _ => []
@[reducible] def law0_LendBytes.vc (R : Value → World → Prop) (aA : Option Addr) (an : Nat) (ac : Nat) (w : World) : Prop :=
  Run Try.prog 29 #[(.slice aA an ac)] w fun v w_2 => ∃ (t5A : Option Addr) (t5n t5c : Nat), v = (.slice t5A t5n t5c) ∧ letW (w_2.alloc (.cells #[(.int .u8 201), (.int .u8 201), (.int .u8 201)] 5)) fun w_3 => ∃ (v_2 : Value) (w_4 : World), (Builtin.append_ #[30, 30] 30 #[(.slice t5A t5n t5c), (.slice (some (newA w_2)) 3 3)]).run Try.prog w_3 = .ok v_2 w_4 ∧ ∃ (t7A : Option Addr) (t7n t7c : Nat), v_2 = (.slice t7A t7n t7c) ∧ (0 : Int) ≤ 0 ∧ (0 : Int) ≤ ((an : Nat) : Int) ∧ (((an : Nat) : Int) : Int) ≤ ((t7c : Nat) : Int) ∧ R (.slice (subA t7A t7c 0 1) ((Int.toNat ((an : Nat) : Int)) - 0) (t7c - 0)) w_4

theorem law0_LendBytes.eq (R : Value → World → Prop) (aA : Option Addr) (an : Nat) (ac : Nat) (w : World) : fnVC Try.prog none law0_LendBytes.live Try.f16 R [(.slice aA an ac)] w = law0_LendBytes.vc R aA an ac w := by kernel_rfl
set_option maxHeartbeats 4000000 in
theorem law0_LendBytes.ok {R : Value → World → Prop} {aA : Option Addr} {an : Nat} {ac : Nat} {w : World} (h : law0_LendBytes.vc R aA an ac w) : Run Try.prog 16 #[(.slice aA an ac)] w R := by
  have h2 := Eq.mpr (law0_LendBytes.eq R aA an ac w) h
  exact fn_sound Try.mixed Try.func16 (by kernel_rfl) h2

/-! ### riddle/riddlelaw0.SameBytes: function 52 -/
noncomputable def law0_SameBytes.body : Code := bodyOf Try.f52
def law0_SameBytes.live : Nat → List Nat
  | 0 => [0, 1, 5]
  | _ => []
noncomputable def law0_SameBytes.c0 : Code := sub law0_SameBytes.body [1, 1, 0, 1, 0, 0]
def law0_SameBytes.K0 (R : Value → World → Prop) : Ex → St → World → Prop := (blockK 0 (thenK (fun st w => code Try.prog none law0_SameBytes.live 0 (sub law0_SameBytes.body [1, 1, 1]) (retK Try.prog Try.f52 R) st w) (retK Try.prog Try.f52 R)))
def law0_SameBytes.L0 (R : Value → World → Prop) (aA : Option Addr) (an : Nat) (ac : Nat) (bA : Option Addr) (bn : Nat) (bc : Nat) (i : Int) (w : World) : Prop :=
  loopVC (fun K => code Try.prog none law0_SameBytes.live 0 law0_SameBytes.c0 K) (law0_SameBytes.live 0) (law0_SameBytes.K0 R) [(.slice aA an ac), (.slice bA bn bc), undef, undef, undef, (.int .i64 i), undef, undef, undef, undef, undef, undef, undef, undef, undef, undef, undef, undef, undef, undef, undef, undef, undef, undef, undef, undef] w
@[reducible] def law0_SameBytes.B0 (R : Value → World → Prop) (aA : Option Addr) (an : Nat) (ac : Nat) (bA : Option Addr) (bn : Nat) (bc : Nat) (i : Int) (w : World) : Prop :=
  ifP (decide ((i : Int) < ((an : Nat) : Int)))
    (letW w.drew fun w_2 => 0 ≤ (i : Int) ∧ (i : Int) < ((an : Nat) : Int) ∧ ∃ t19p : Addr, aA = some t19p ∧ ∃ t20 : Int, w_2.cell? (t19p.add (Int.toNat i * 1)) = some (.int .u8 t20) ∧ 0 ≤ (i : Int) ∧ (i : Int) < ((bn : Nat) : Int) ∧ ∃ t23p : Addr, bA = some t23p ∧ ∃ t24 : Int, w_2.cell? (t23p.add (Int.toNat i * 1)) = some (.int .u8 t24) ∧ ifP ((t20 : Int) != t24)
    (R (.bool false) w_2)
    (law0_SameBytes.L0 R aA an ac bA bn bc (IntKind.i64.wrap (i + 1)) w_2))
    (R (.bool true) w)

@[reducible] def law0_SameBytes.vc (R : Value → World → Prop) (aA : Option Addr) (an : Nat) (ac : Nat) (bA : Option Addr) (bn : Nat) (bc : Nat) (w : World) : Prop :=
  ifP ((((an : Nat) : Int) : Int) != ((bn : Nat) : Int))
    (R (.bool false) w)
    (law0_SameBytes.L0 R aA an ac bA bn bc 0 w)

theorem law0_SameBytes.B0_eq (R : Value → World → Prop) (aA : Option Addr) (an : Nat) (ac : Nat) (bA : Option Addr) (bn : Nat) (bc : Nat) (i : Int) (w : World) (ts : Nat → Value) :
    code Try.prog none law0_SameBytes.live 0 law0_SameBytes.c0 (thenK (fun st w => loopVC (fun K => code Try.prog none law0_SameBytes.live 0 law0_SameBytes.c0 K) (law0_SameBytes.live 0) (law0_SameBytes.K0 R) (clearFrom (law0_SameBytes.live 0) 0 st) w) (law0_SameBytes.K0 R)) (mergeFrom (law0_SameBytes.live 0) ts 0 (clearFrom (law0_SameBytes.live 0) 0 [(.slice aA an ac), (.slice bA bn bc), undef, undef, undef, (.int .i64 i), undef, undef, undef, undef, undef, undef, undef, undef, undef, undef, undef, undef, undef, undef, undef, undef, undef, undef, undef, undef])) w = law0_SameBytes.B0 R aA an ac bA bn bc i w := by kernel_rfl
theorem law0_SameBytes.L0_step {R : Value → World → Prop} {aA : Option Addr} {an : Nat} {ac : Nat} {bA : Option Addr} {bn : Nat} {bc : Nat} {i : Int} {w : World} (h : law0_SameBytes.B0 R aA an ac bA bn bc i w) : law0_SameBytes.L0 R aA an ac bA bn bc i w :=
  loop_step (live := law0_SameBytes.live) (b := 0) (x := law0_SameBytes.c0) fun ts => Eq.mpr (law0_SameBytes.B0_eq R aA an ac bA bn bc i w ts) h
theorem law0_SameBytes.eq (R : Value → World → Prop) (aA : Option Addr) (an : Nat) (ac : Nat) (bA : Option Addr) (bn : Nat) (bc : Nat) (w : World) : fnVC Try.prog none law0_SameBytes.live Try.f52 R [(.slice aA an ac), (.slice bA bn bc)] w = law0_SameBytes.vc R aA an ac bA bn bc w := by kernel_rfl
set_option maxHeartbeats 4000000 in
theorem law0_SameBytes.ok {R : Value → World → Prop} {aA : Option Addr} {an : Nat} {ac : Nat} {bA : Option Addr} {bn : Nat} {bc : Nat} {w : World} (h : law0_SameBytes.vc R aA an ac bA bn bc w) : Run Try.prog 52 #[(.slice aA an ac), (.slice bA bn bc)] w R := by
  have h2 := Eq.mpr (law0_SameBytes.eq R aA an ac bA bn bc w) h
  exact fn_sound Try.mixed Try.func52 (by kernel_rfl) h2

/-! ### riddle/riddlelaw0.SpoilBytes: function 53 -/
noncomputable def law0_SpoilBytes.body : Code := bodyOf Try.f53
def law0_SpoilBytes.live : Nat → List Nat
  | 0 => [0, 2, 3]
  | 2 => [0, 4]
  | _ => []
noncomputable def law0_SpoilBytes.c0 : Code := sub law0_SpoilBytes.body [1, 0, 1, 0, 0]
noncomputable def law0_SpoilBytes.c2 : Code := sub law0_SpoilBytes.body [1, 1, 1, 0, 0]
def law0_SpoilBytes.K0 (R : Value → World → Prop) : Ex → St → World → Prop := (blockK 0 (thenK (fun st w => code Try.prog none law0_SpoilBytes.live 0 (sub law0_SpoilBytes.body [1, 1]) (retK Try.prog Try.f53 R) st w) (retK Try.prog Try.f53 R)))
def law0_SpoilBytes.L0 (R : Value → World → Prop) (aA : Option Addr) (an : Nat) (ac : Nat) (fullA : Option Addr) (fulln : Nat) (fullc : Nat) (i : Int) (w : World) : Prop :=
  loopVC (fun K => code Try.prog none law0_SpoilBytes.live 0 law0_SpoilBytes.c0 K) (law0_SpoilBytes.live 0) (law0_SpoilBytes.K0 R) [(.slice aA an ac), undef, (.slice fullA fulln fullc), (.int .i64 i), undef, undef, undef, undef, undef, undef, undef, undef, undef, undef, undef, undef, undef, undef, undef, undef, undef, undef, undef, undef, undef, undef] w
def law0_SpoilBytes.K2 (R : Value → World → Prop) : Ex → St → World → Prop := (blockK 2 (retK Try.prog Try.f53 R))
def law0_SpoilBytes.L2 (R : Value → World → Prop) (aA : Option Addr) (an : Nat) (ac : Nat) (i : Int) (w : World) : Prop :=
  loopVC (fun K => code Try.prog none law0_SpoilBytes.live 2 law0_SpoilBytes.c2 K) (law0_SpoilBytes.live 2) (law0_SpoilBytes.K2 R) [(.slice aA an ac), undef, undef, undef, (.int .i64 i), undef, undef, undef, undef, undef, undef, undef, undef, undef, undef, undef, undef, undef, undef, undef, undef, undef, undef, undef, undef, undef] w
@[reducible] def law0_SpoilBytes.B2 (R : Value → World → Prop) (aA : Option Addr) (an : Nat) (ac : Nat) (i : Int) (w : World) : Prop :=
  ifP (decide ((i : Int) < ((an : Nat) : Int)))
    (0 ≤ (i : Int) ∧ (i : Int) < ((an : Nat) : Int) ∧ ∃ t25p : Addr, aA = some t25p ∧ (∃ u : Value, w.cell? (t25p.add (Int.toNat i * 1)) = some u) ∧ w.frozen? (t25p.add (Int.toNat i * 1)) = false ∧ letW (w.setCell (t25p.add (Int.toNat i * 1)) (.int .u8 201)) fun w_2 => law0_SpoilBytes.L2 R aA an ac (IntKind.i64.wrap (i + 1)) w_2)
    (R (.tuple #[]) w)

@[reducible] def law0_SpoilBytes.B0 (R : Value → World → Prop) (aA : Option Addr) (an : Nat) (ac : Nat) (fullA : Option Addr) (fulln : Nat) (fullc : Nat) (i : Int) (w : World) : Prop :=
  ifP (decide ((i : Int) < ((fulln : Nat) : Int)))
    (0 ≤ (i : Int) ∧ (i : Int) < ((fulln : Nat) : Int) ∧ ∃ t16p : Addr, fullA = some t16p ∧ (∃ u : Value, w.cell? (t16p.add (Int.toNat i * 1)) = some u) ∧ w.frozen? (t16p.add (Int.toNat i * 1)) = false ∧ letW (w.setCell (t16p.add (Int.toNat i * 1)) (.int .u8 201)) fun w_2 => law0_SpoilBytes.L0 R aA an ac fullA fulln fullc (IntKind.i64.wrap (i + 1)) w_2)
    (law0_SpoilBytes.L2 R aA an ac 0 w)

@[reducible] def law0_SpoilBytes.vc (R : Value → World → Prop) (aA : Option Addr) (an : Nat) (ac : Nat) (w : World) : Prop :=
  letW (w.alloc (.cells #[(.int .u8 201)] 5)) fun w_2 => ∃ (v : Value) (w_3 : World), (Builtin.append_ #[30, 30] 30 #[(.slice aA an ac), (.slice (some (newA w)) 1 1)]).run Try.prog w_2 = .ok v w_3 ∧ ∃ (t7A : Option Addr) (t7n t7c : Nat), v = (.slice t7A t7n t7c) ∧ law0_SpoilBytes.L0 R aA an ac t7A t7n t7c 0 w_3

theorem law0_SpoilBytes.B0_eq (R : Value → World → Prop) (aA : Option Addr) (an : Nat) (ac : Nat) (fullA : Option Addr) (fulln : Nat) (fullc : Nat) (i : Int) (w : World) (ts : Nat → Value) :
    code Try.prog none law0_SpoilBytes.live 0 law0_SpoilBytes.c0 (thenK (fun st w => loopVC (fun K => code Try.prog none law0_SpoilBytes.live 0 law0_SpoilBytes.c0 K) (law0_SpoilBytes.live 0) (law0_SpoilBytes.K0 R) (clearFrom (law0_SpoilBytes.live 0) 0 st) w) (law0_SpoilBytes.K0 R)) (mergeFrom (law0_SpoilBytes.live 0) ts 0 (clearFrom (law0_SpoilBytes.live 0) 0 [(.slice aA an ac), undef, (.slice fullA fulln fullc), (.int .i64 i), undef, undef, undef, undef, undef, undef, undef, undef, undef, undef, undef, undef, undef, undef, undef, undef, undef, undef, undef, undef, undef, undef])) w = law0_SpoilBytes.B0 R aA an ac fullA fulln fullc i w := by kernel_rfl
theorem law0_SpoilBytes.L0_step {R : Value → World → Prop} {aA : Option Addr} {an : Nat} {ac : Nat} {fullA : Option Addr} {fulln : Nat} {fullc : Nat} {i : Int} {w : World} (h : law0_SpoilBytes.B0 R aA an ac fullA fulln fullc i w) : law0_SpoilBytes.L0 R aA an ac fullA fulln fullc i w :=
  loop_step (live := law0_SpoilBytes.live) (b := 0) (x := law0_SpoilBytes.c0) fun ts => Eq.mpr (law0_SpoilBytes.B0_eq R aA an ac fullA fulln fullc i w ts) h
theorem law0_SpoilBytes.B2_eq (R : Value → World → Prop) (aA : Option Addr) (an : Nat) (ac : Nat) (i : Int) (w : World) (ts : Nat → Value) :
    code Try.prog none law0_SpoilBytes.live 2 law0_SpoilBytes.c2 (thenK (fun st w => loopVC (fun K => code Try.prog none law0_SpoilBytes.live 2 law0_SpoilBytes.c2 K) (law0_SpoilBytes.live 2) (law0_SpoilBytes.K2 R) (clearFrom (law0_SpoilBytes.live 2) 0 st) w) (law0_SpoilBytes.K2 R)) (mergeFrom (law0_SpoilBytes.live 2) ts 0 (clearFrom (law0_SpoilBytes.live 2) 0 [(.slice aA an ac), undef, undef, undef, (.int .i64 i), undef, undef, undef, undef, undef, undef, undef, undef, undef, undef, undef, undef, undef, undef, undef, undef, undef, undef, undef, undef, undef])) w = law0_SpoilBytes.B2 R aA an ac i w := by kernel_rfl
theorem law0_SpoilBytes.L2_step {R : Value → World → Prop} {aA : Option Addr} {an : Nat} {ac : Nat} {i : Int} {w : World} (h : law0_SpoilBytes.B2 R aA an ac i w) : law0_SpoilBytes.L2 R aA an ac i w :=
  loop_step (live := law0_SpoilBytes.live) (b := 2) (x := law0_SpoilBytes.c2) fun ts => Eq.mpr (law0_SpoilBytes.B2_eq R aA an ac i w ts) h
theorem law0_SpoilBytes.eq (R : Value → World → Prop) (aA : Option Addr) (an : Nat) (ac : Nat) (w : World) : fnVC Try.prog none law0_SpoilBytes.live Try.f53 R [(.slice aA an ac)] w = law0_SpoilBytes.vc R aA an ac w := by kernel_rfl
set_option maxHeartbeats 4000000 in
theorem law0_SpoilBytes.ok {R : Value → World → Prop} {aA : Option Addr} {an : Nat} {ac : Nat} {w : World} (h : law0_SpoilBytes.vc R aA an ac w) : Run Try.prog 53 #[(.slice aA an ac)] w R := by
  have h2 := Eq.mpr (law0_SpoilBytes.eq R aA an ac w) h
  exact fn_sound Try.mixed Try.func53 (by kernel_rfl) h2

/-! ### riddle/riddlelaw0.KeptBytes: function 18 -/
noncomputable def law0_KeptBytes.body : Code := bodyOf Try.f18
def law0_KeptBytes.live : Nat → List Nat
  | _ => []
def law0_KeptBytes.J0 (R : Value → World → Prop) (fullA : Option Addr) (fulln : Nat) (fullc : Nat) (ok_ : Bool) (w : World) : Prop :=
  Run Try.prog 53 #[(.slice fullA fulln fullc)] w fun v w_2 => v = (.tuple #[]) ∧ R (.bool ok_) w_2

@[reducible] def law0_KeptBytes.vc (R : Value → World → Prop) (lentA : Option Addr) (lentn : Nat) (lentc : Nat) (aA : Option Addr) (an : Nat) (ac : Nat) (w : World) : Prop :=
  (0 : Int) ≤ 0 ∧ (0 : Int) ≤ IntKind.i64.wrap (((lentn : Nat) : Int) + 3) ∧ (IntKind.i64.wrap (((lentn : Nat) : Int) + 3) : Int) ≤ ((lentc : Nat) : Int) ∧ Run Try.prog 52 #[(.slice lentA lentn lentc), (.slice aA an ac)] w fun v w_2 => ∃ t14 : Bool, v = (.bool t14) ∧ ifP t14 ((0 : Int) ≤ ((an : Nat) : Int) ∧ (((an : Nat) : Int) : Int) ≤ (((Int.toNat (IntKind.i64.wrap (((lentn : Nat) : Int) + 3))) - 0 : Nat) : Int) ∧ ((((Int.toNat (IntKind.i64.wrap (((lentn : Nat) : Int) + 3))) - 0 : Nat) : Int) : Int) ≤ ((lentc - 0 : Nat) : Int) ∧ letW (w_2.alloc (.cells #[(.int .u8 201), (.int .u8 201), (.int .u8 201)] 5)) fun w_3 => Run Try.prog 52 #[(.slice (subA (subA lentA lentc 0 1) (lentc - 0) (Int.toNat ((an : Nat) : Int)) 1) (((Int.toNat (IntKind.i64.wrap (((lentn : Nat) : Int) + 3))) - 0) - (Int.toNat ((an : Nat) : Int))) ((lentc - 0) - (Int.toNat ((an : Nat) : Int)))), (.slice (some (newA w_2)) 3 3)] w_3 fun v_2 w_4 => ∃ t21 : Bool, v_2 = (.bool t21) ∧ law0_KeptBytes.J0 R (subA lentA lentc 0 1) ((Int.toNat (IntKind.i64.wrap (((lentn : Nat) : Int) + 3))) - 0) (lentc - 0) t21 w_4) (law0_KeptBytes.J0 R (subA lentA lentc 0 1) ((Int.toNat (IntKind.i64.wrap (((lentn : Nat) : Int) + 3))) - 0) (lentc - 0) false w_2)

theorem law0_KeptBytes.eq (R : Value → World → Prop) (lentA : Option Addr) (lentn : Nat) (lentc : Nat) (aA : Option Addr) (an : Nat) (ac : Nat) (w : World) : fnVC Try.prog none law0_KeptBytes.live Try.f18 R [(.slice lentA lentn lentc), (.slice aA an ac)] w = law0_KeptBytes.vc R lentA lentn lentc aA an ac w := by kernel_rfl
set_option maxHeartbeats 4000000 in
theorem law0_KeptBytes.ok {R : Value → World → Prop} {lentA : Option Addr} {lentn : Nat} {lentc : Nat} {aA : Option Addr} {an : Nat} {ac : Nat} {w : World} (h : law0_KeptBytes.vc R lentA lentn lentc aA an ac w) : Run Try.prog 18 #[(.slice lentA lentn lentc), (.slice aA an ac)] w R := by
  have h2 := Eq.mpr (law0_KeptBytes.eq R lentA lentn lentc aA an ac w) h
  exact fn_sound Try.mixed Try.func18 (by kernel_rfl) h2

/-! ### riddle/riddlelaw15.GraphRuns: function 4 -/
noncomputable def law15_GraphRuns.body : Code := bodyOf Try.f4
def law15_GraphRuns.live : Nat → List Nat
  | _ => []
def law15_GraphRuns.J0 (R : Value → World → Prop) (t4 : Bool) (w : World) : Prop :=
  R (.bool t4) w

@[reducible] def law15_GraphRuns.vc (R : Value → World → Prop) (gA : Option Addr) (gn : Nat) (gc : Nat) (packetA : Option Addr) (packetn : Nat) (packetc : Nat) (w : World) : Prop :=
  Run Try.prog 15 #[(.slice gA gn gc), (.slice packetA packetn packetc)] w fun v w_2 => ∃ t140_0 : Int, ∃ t140_1 : Int, ∃ t140_2 : Int, ∃ t141 : Int, v = (.tuple #[(.agg #[(.int .u32 t140_0), (.int .i64 t140_1), (.int .i64 t140_2)]), (.int .i64 t141)]) ∧ letW (w_2.alloc (.cells #[(.int .u32 0), (.int .i64 0), (.int .i64 0)] 33)) fun w_3 => storeRow (newA w_2) 0 [(.int .u32 t140_0), (.int .i64 t140_1), (.int .i64 t140_2)] w_3 fun w_4 => Run Try.prog 11 #[(.slice gA gn gc)] w_4 fun v_2 w_5 => ∃ (t18A : Option Addr) (t18n t18c : Nat), v_2 = (.slice t18A t18n t18c) ∧ Run Try.prog 16 #[(.slice packetA packetn packetc)] w_5 fun v_3 w_6 => ∃ (t20A : Option Addr) (t20n t20c : Nat), v_3 = (.slice t20A t20n t20c) ∧ Run Try.prog 17 #[(.slice t18A t18n t18c), (.slice t20A t20n t20c)] w_6 fun v_4 w_7 => ∃ t240_0 : Int, ∃ t240_1 : Int, ∃ t240_2 : Int, ∃ t241 : Int, v_4 = (.tuple #[(.agg #[(.int .u32 t240_0), (.int .i64 t240_1), (.int .i64 t240_2)]), (.int .i64 t241)]) ∧ letW (w_7.alloc (.cells #[(.int .u32 0), (.int .i64 0), (.int .i64 0)] 33)) fun w_8 => storeRow (newA w_7) 0 [(.int .u32 t240_0), (.int .i64 t240_1), (.int .i64 t240_2)] w_8 fun w_9 => Run Try.prog 13 #[(.slice t18A t18n t18c), (.slice gA gn gc)] w_9 fun v_5 w_10 => ∃ t29 : Bool, v_5 = (.bool t29) ∧ ifP t29 (Run Try.prog 18 #[(.slice t20A t20n t20c), (.slice packetA packetn packetc)] w_10 fun v_6 w_11 => ∃ t33 : Bool, v_6 = (.bool t33) ∧ ifP t33 (∃ t36_0 : Int, w_11.cell? (newA w_7) = some (.int .u32 t36_0) ∧ ∃ t36_1 : Int, w_11.cell? ((newA w_7).add 1) = some (.int .i64 t36_1) ∧ ∃ t36_2 : Int, w_11.cell? ((newA w_7).add 2) = some (.int .i64 t36_2) ∧ ∃ t37_0 : Int, w_11.cell? (newA w_2) = some (.int .u32 t37_0) ∧ ∃ t37_1 : Int, w_11.cell? ((newA w_2).add 1) = some (.int .i64 t37_1) ∧ ∃ t37_2 : Int, w_11.cell? ((newA w_2).add 2) = some (.int .i64 t37_2) ∧ ∃ (v_7 : Value) (w_12 : World), (eqSem .eql 33 (.tmp 36) (.tmp 37) (.agg #[(.int .u32 t36_0), (.int .i64 t36_1), (.int .i64 t36_2)]) (.agg #[(.int .u32 t37_0), (.int .i64 t37_1), (.int .i64 t37_2)])).run Try.prog w_11 = .ok v_7 w_12 ∧ ∃ t38 : Bool, v_7 = (.bool t38) ∧ ifP t38 (ifP ((t241 : Int) == t141) (Run Try.prog 14 #[] w_12 fun v_8 w_13 => ∃ t46 : Bool, v_8 = (.bool t46) ∧ law15_GraphRuns.J0 R t46 w_13) (law15_GraphRuns.J0 R false w_12)) (law15_GraphRuns.J0 R false w_12)) (law15_GraphRuns.J0 R false w_11)) (law15_GraphRuns.J0 R false w_10)

theorem law15_GraphRuns.eq (R : Value → World → Prop) (gA : Option Addr) (gn : Nat) (gc : Nat) (packetA : Option Addr) (packetn : Nat) (packetc : Nat) (w : World) : fnVC Try.prog none law15_GraphRuns.live Try.f4 R [(.slice gA gn gc), (.slice packetA packetn packetc)] w = law15_GraphRuns.vc R gA gn gc packetA packetn packetc w := by kernel_rfl
set_option maxHeartbeats 4000000 in
theorem law15_GraphRuns.ok {R : Value → World → Prop} {gA : Option Addr} {gn : Nat} {gc : Nat} {packetA : Option Addr} {packetn : Nat} {packetc : Nat} {w : World} (h : law15_GraphRuns.vc R gA gn gc packetA packetn packetc w) : Run Try.prog 4 #[(.slice gA gn gc), (.slice packetA packetn packetc)] w R := by
  have h2 := Eq.mpr (law15_GraphRuns.eq R gA gn gc packetA packetn packetc w) h
  exact fn_sound Try.mixed Try.func4 (by kernel_rfl) h2

/-! ### riddle/riddleref4.Check: function 54 -/
noncomputable def ref4_Check.body : Code := bodyOf Try.f54
def ref4_Check.live : Nat → List Nat
  | 0 => [0, 4, 5]
  | _ => []
noncomputable def ref4_Check.c0 : Code := sub ref4_Check.body [1, 1, 1, 1, 0, 1, 0, 0]
def ref4_Check.K0 (R : Value → World → Prop) : Ex → St → World → Prop := (blockK 0 (thenK (fun st w => code Try.prog none ref4_Check.live 0 (sub ref4_Check.body [1, 1, 1, 1, 1]) (retK Try.prog Try.f54 R) st w) (retK Try.prog Try.f54 R)))
def ref4_Check.L0 (R : Value → World → Prop) (pA : Option Addr) (pn : Nat) (pc : Nat) (n : Int) (i : Int) (w : World) : Prop :=
  loopVC (fun K => code Try.prog none ref4_Check.live 0 ref4_Check.c0 K) (ref4_Check.live 0) (ref4_Check.K0 R) [(.slice pA pn pc), undef, undef, undef, (.int .i64 n), (.int .i64 i), undef, undef, undef, undef, undef, undef, undef, undef, undef, undef, undef, undef, undef, undef, undef, undef, undef, undef, undef, undef, undef, undef, undef, undef, undef, undef, undef, undef, undef, undef, undef, undef, undef, undef, undef, undef, undef, undef, undef, undef, undef, undef, undef, undef, undef, undef, undef, undef, undef, undef, undef, undef, undef, undef, undef, undef, undef, undef, undef, undef, undef, undef, undef, undef, undef, undef, undef, undef, undef, undef, undef, undef, undef, undef, undef, undef, undef, undef, undef, undef, undef] w
def ref4_Check.J0 (R : Value → World → Prop) (pA : Option Addr) (pn : Nat) (pc : Nat) (n : Int) (i : Int) (t75 : Bool) (w : World) : Prop :=
  ifP t75
    (R (.tuple #[(.int .i64 i), (.int .i64 46)]) w)
    (ref4_Check.L0 R pA pn pc n (IntKind.i64.wrap (i + 1)) w)

@[reducible] def ref4_Check.B0 (R : Value → World → Prop) (pA : Option Addr) (pn : Nat) (pc : Nat) (n : Int) (i : Int) (w : World) : Prop :=
  ifP (decide ((i : Int) < n))
    (0 ≤ (i : Int) ∧ (i : Int) < ((pn : Nat) : Int) ∧ ∃ t21p : Addr, pA = some t21p ∧ ∃ t22_0 : Int, w.cell? (t21p.add (Int.toNat i * 4)) = some (.int .u16 t22_0) ∧ ∃ t22_1 : Int, w.cell? ((t21p.add (Int.toNat i * 4)).add 1) = some (.int .u8 t22_1) ∧ ∃ t22_2 : Int, w.cell? ((t21p.add (Int.toNat i * 4)).add 2) = some (.int .u8 t22_2) ∧ ∃ t22_3 : Int, w.cell? ((t21p.add (Int.toNat i * 4)).add 3) = some (.int .u32 t22_3) ∧ Run Try.prog 69 #[(.agg #[(.int .u16 t22_0), (.int .u8 t22_1), (.int .u8 t22_2), (.int .u32 t22_3)])] w fun v w_2 => ∃ t23 : Int, v = (.int .i64 t23) ∧ ifP ((t23 : Int) != 0)
    (R (.tuple #[(.int .i64 i), (.int .i64 t23)]) w_2)
    (0 ≤ (i : Int) ∧ (i : Int) < ((pn : Nat) : Int) ∧ ∃ t34p : Addr, pA = some t34p ∧ ∃ t36 : Int, w_2.cell? (t34p.add (Int.toNat i * 4)) = some (.int .u16 t36) ∧ ifP ((t36 : Int) == 5) (0 ≤ (i : Int) ∧ (i : Int) < ((pn : Nat) : Int) ∧ ∃ t41p : Addr, pA = some t41p ∧ ∃ t43 : Int, w_2.cell? ((t41p.add (Int.toNat i * 4)).add 3) = some (.int .u32 t43) ∧ ifP (decide ((t43 : Int) ≥ (IntKind.u32.wrap (IntKind.i64.wrap ((IntKind.i64.wrap (n - 1)) - i))))) (ref4_Check.J0 R pA pn pc n i true w_2) (0 ≤ (i : Int) ∧ (i : Int) < ((pn : Nat) : Int) ∧ ∃ t51p : Addr, pA = some t51p ∧ ∃ t53 : Int, w_2.cell? (t51p.add (Int.toNat i * 4)) = some (.int .u16 t53) ∧ Run Try.prog 71 #[(.int .u16 t53)] w_2 fun v_2 w_3 => ∃ t54 : Bool, v_2 = (.bool t54) ∧ ifP t54 (0 ≤ (i : Int) ∧ (i : Int) < ((pn : Nat) : Int) ∧ ∃ t58p : Addr, pA = some t58p ∧ ∃ t60 : Int, w_3.cell? ((t58p.add (Int.toNat i * 4)).add 1) = some (.int .u8 t60) ∧ ifP (decide ((IntKind.i64.wrap t60 : Int) ≥ (IntKind.i64.wrap ((IntKind.i64.wrap (n - 1)) - i)))) (ref4_Check.J0 R pA pn pc n i true w_3) (0 ≤ (i : Int) ∧ (i : Int) < ((pn : Nat) : Int) ∧ ∃ t67p : Addr, pA = some t67p ∧ ∃ t69 : Int, w_3.cell? ((t67p.add (Int.toNat i * 4)).add 2) = some (.int .u8 t69) ∧ ref4_Check.J0 R pA pn pc n i (decide ((IntKind.i64.wrap t69 : Int) ≥ (IntKind.i64.wrap ((IntKind.i64.wrap (n - 1)) - i)))) w_3)) (ref4_Check.J0 R pA pn pc n i false w_3))) (0 ≤ (i : Int) ∧ (i : Int) < ((pn : Nat) : Int) ∧ ∃ t51p_2 : Addr, pA = some t51p_2 ∧ ∃ t53_2 : Int, w_2.cell? (t51p_2.add (Int.toNat i * 4)) = some (.int .u16 t53_2) ∧ Run Try.prog 71 #[(.int .u16 t53_2)] w_2 fun v_3 w_4 => ∃ t54_2 : Bool, v_3 = (.bool t54_2) ∧ ifP t54_2 (0 ≤ (i : Int) ∧ (i : Int) < ((pn : Nat) : Int) ∧ ∃ t58p_2 : Addr, pA = some t58p_2 ∧ ∃ t60_2 : Int, w_4.cell? ((t58p_2.add (Int.toNat i * 4)).add 1) = some (.int .u8 t60_2) ∧ ifP (decide ((IntKind.i64.wrap t60_2 : Int) ≥ (IntKind.i64.wrap ((IntKind.i64.wrap (n - 1)) - i)))) (ref4_Check.J0 R pA pn pc n i true w_4) (0 ≤ (i : Int) ∧ (i : Int) < ((pn : Nat) : Int) ∧ ∃ t67p_2 : Addr, pA = some t67p_2 ∧ ∃ t69_2 : Int, w_4.cell? ((t67p_2.add (Int.toNat i * 4)).add 2) = some (.int .u8 t69_2) ∧ ref4_Check.J0 R pA pn pc n i (decide ((IntKind.i64.wrap t69_2 : Int) ≥ (IntKind.i64.wrap ((IntKind.i64.wrap (n - 1)) - i)))) w_4)) (ref4_Check.J0 R pA pn pc n i false w_4))))
    (0 ≤ (IntKind.i64.wrap (n - 1) : Int) ∧ (IntKind.i64.wrap (n - 1) : Int) < ((pn : Nat) : Int) ∧ ∃ t80p : Addr, pA = some t80p ∧ ∃ t82 : Int, w.cell? (t80p.add (Int.toNat (IntKind.i64.wrap (n - 1)) * 4)) = some (.int .u16 t82) ∧ Run Try.prog 57 #[(.int .u16 t82)] w fun v_4 w_5 => ∃ t83 : Bool, v_4 = (.bool t83) ∧ ifP (!t83)
    (R (.tuple #[(.int .i64 (IntKind.i64.wrap (n - 1))), (.int .i64 47)]) w_5)
    (R (.tuple #[(.int .i64 0), (.int .i64 0)]) w_5))

@[reducible] def ref4_Check.vc (R : Value → World → Prop) (pA : Option Addr) (pn : Nat) (pc : Nat) (w : World) : Prop :=
  ifP ((((pn : Nat) : Int) : Int) == 0)
    (R (.tuple #[(.int .i64 0), (.int .i64 40)]) w)
    (ifP (decide ((((pn : Nat) : Int) : Int) > 4096))
    (R (.tuple #[(.int .i64 4096), (.int .i64 41)]) w)
    (ref4_Check.L0 R pA pn pc ((pn : Nat) : Int) 0 w))

theorem ref4_Check.B0_eq (R : Value → World → Prop) (pA : Option Addr) (pn : Nat) (pc : Nat) (n : Int) (i : Int) (w : World) (ts : Nat → Value) :
    code Try.prog none ref4_Check.live 0 ref4_Check.c0 (thenK (fun st w => loopVC (fun K => code Try.prog none ref4_Check.live 0 ref4_Check.c0 K) (ref4_Check.live 0) (ref4_Check.K0 R) (clearFrom (ref4_Check.live 0) 0 st) w) (ref4_Check.K0 R)) (mergeFrom (ref4_Check.live 0) ts 0 (clearFrom (ref4_Check.live 0) 0 [(.slice pA pn pc), undef, undef, undef, (.int .i64 n), (.int .i64 i), undef, undef, undef, undef, undef, undef, undef, undef, undef, undef, undef, undef, undef, undef, undef, undef, undef, undef, undef, undef, undef, undef, undef, undef, undef, undef, undef, undef, undef, undef, undef, undef, undef, undef, undef, undef, undef, undef, undef, undef, undef, undef, undef, undef, undef, undef, undef, undef, undef, undef, undef, undef, undef, undef, undef, undef, undef, undef, undef, undef, undef, undef, undef, undef, undef, undef, undef, undef, undef, undef, undef, undef, undef, undef, undef, undef, undef, undef, undef, undef, undef])) w = ref4_Check.B0 R pA pn pc n i w := by kernel_rfl
theorem ref4_Check.L0_step {R : Value → World → Prop} {pA : Option Addr} {pn : Nat} {pc : Nat} {n : Int} {i : Int} {w : World} (h : ref4_Check.B0 R pA pn pc n i w) : ref4_Check.L0 R pA pn pc n i w :=
  loop_step (live := ref4_Check.live) (b := 0) (x := ref4_Check.c0) fun ts => Eq.mpr (ref4_Check.B0_eq R pA pn pc n i w ts) h
theorem ref4_Check.eq (R : Value → World → Prop) (pA : Option Addr) (pn : Nat) (pc : Nat) (w : World) : fnVC Try.prog none ref4_Check.live Try.f54 R [(.slice pA pn pc)] w = ref4_Check.vc R pA pn pc w := by kernel_rfl
set_option maxHeartbeats 4000000 in
theorem ref4_Check.ok {R : Value → World → Prop} {pA : Option Addr} {pn : Nat} {pc : Nat} {w : World} (h : ref4_Check.vc R pA pn pc w) : Run Try.prog 54 #[(.slice pA pn pc)] w R := by
  have h2 := Eq.mpr (ref4_Check.eq R pA pn pc w) h
  exact fn_sound Try.mixed Try.func54 (by kernel_rfl) h2

/-! ### riddle/riddleref15.begins: function 55 -/
noncomputable def ref15_begins.body : Code := bodyOf Try.f55
def ref15_begins.live : Nat → List Nat
  | 0 => [0, 3, 4]
  | _ => []
noncomputable def ref15_begins.c0 : Code := sub ref15_begins.body [1, 1, 1, 0, 1, 0, 0]
def ref15_begins.K0 (R : Value → World → Prop) : Ex → St → World → Prop := (blockK 0 (thenK (fun st w => code Try.prog none ref15_begins.live 0 (sub ref15_begins.body [1, 1, 1, 1]) (retK Try.prog Try.f55 R) st w) (retK Try.prog Try.f55 R)))
def ref15_begins.L0 (R : Value → World → Prop) (pA : Option Addr) (pn : Nat) (pc : Nat) (outA : Option Addr) (outn : Nat) (outc : Nat) (i : Int) (w : World) : Prop :=
  loopVC (fun K => code Try.prog none ref15_begins.live 0 ref15_begins.c0 K) (ref15_begins.live 0) (ref15_begins.K0 R) [(.slice pA pn pc), undef, undef, (.slice outA outn outc), (.int .i64 i), undef, undef, undef, undef, undef, undef, undef, undef, undef, undef, undef, undef, undef, undef, undef, undef, undef, undef, undef, undef, undef, undef, undef, undef, undef, undef, undef, undef, undef, undef, undef, undef, undef, undef, undef, undef, undef, undef, undef, undef, undef, undef, undef, undef, undef, undef, undef, undef, undef, undef, undef, undef, undef, undef, undef, undef, undef, undef, undef, undef, undef, undef, undef, undef, undef, undef, undef, undef, undef] w
def ref15_begins.J2 (R : Value → World → Prop) (pA : Option Addr) (pn : Nat) (pc : Nat) (outA : Option Addr) (outn : Nat) (outc : Nat) (i : Int) (w : World) : Prop :=
  ref15_begins.L0 R pA pn pc outA outn outc (IntKind.i64.wrap (i + 1)) w

def ref15_begins.J1 (R : Value → World → Prop) (pA : Option Addr) (pn : Nat) (pc : Nat) (outA : Option Addr) (outn : Nat) (outc : Nat) (i : Int) (t68 : Bool) (w : World) : Prop :=
  ifP t68
    (0 ≤ (IntKind.i64.wrap (i + 1) : Int) ∧ (IntKind.i64.wrap (i + 1) : Int) < ((outn : Nat) : Int) ∧ ∃ t72p : Addr, outA = some t72p ∧ (∃ u : Value, w.cell? (t72p.add (Int.toNat (IntKind.i64.wrap (i + 1)) * 1)) = some u) ∧ w.frozen? (t72p.add (Int.toNat (IntKind.i64.wrap (i + 1)) * 1)) = false ∧ letW (w.setCell (t72p.add (Int.toNat (IntKind.i64.wrap (i + 1)) * 1)) (.bool true)) fun w_2 => ref15_begins.J2 R pA pn pc outA outn outc i w_2)
    (ref15_begins.J2 R pA pn pc outA outn outc i w)

def ref15_begins.J0 (R : Value → World → Prop) (pA : Option Addr) (pn : Nat) (pc : Nat) (outA : Option Addr) (outn : Nat) (outc : Nat) (i : Int) (c : Int) (w : World) : Prop :=
  Run Try.prog 56 #[(.int .u16 c)] w fun v w_2 => ∃ t63 : Int, v = (.int .i64 t63) ∧ ifP ((t63 : Int) == 5) (ref15_begins.J1 R pA pn pc outA outn outc i true w_2) (Run Try.prog 57 #[(.int .u16 c)] w_2 fun v_2 w_3 => ∃ t67 : Bool, v_2 = (.bool t67) ∧ ref15_begins.J1 R pA pn pc outA outn outc i t67 w_3)

@[reducible] def ref15_begins.B0 (R : Value → World → Prop) (pA : Option Addr) (pn : Nat) (pc : Nat) (outA : Option Addr) (outn : Nat) (outc : Nat) (i : Int) (w : World) : Prop :=
  ifP (decide ((i : Int) < ((pn : Nat) : Int)))
    (0 ≤ (i : Int) ∧ (i : Int) < ((pn : Nat) : Int) ∧ ∃ t20p : Addr, pA = some t20p ∧ ∃ t22 : Int, w.cell? (t20p.add (Int.toNat i * 4)) = some (.int .u16 t22) ∧ ifP ((t22 : Int) == 5)
    (0 ≤ (i : Int) ∧ (i : Int) < ((pn : Nat) : Int) ∧ ∃ t31p : Addr, pA = some t31p ∧ ∃ t33 : Int, w.cell? ((t31p.add (Int.toNat i * 4)).add 3) = some (.int .u32 t33) ∧ 0 ≤ (IntKind.i64.wrap ((IntKind.i64.wrap (i + 1)) + (IntKind.i64.wrap t33)) : Int) ∧ (IntKind.i64.wrap ((IntKind.i64.wrap (i + 1)) + (IntKind.i64.wrap t33)) : Int) < ((outn : Nat) : Int) ∧ ∃ t36p : Addr, outA = some t36p ∧ (∃ u : Value, w.cell? (t36p.add (Int.toNat (IntKind.i64.wrap ((IntKind.i64.wrap (i + 1)) + (IntKind.i64.wrap t33))) * 1)) = some u) ∧ w.frozen? (t36p.add (Int.toNat (IntKind.i64.wrap ((IntKind.i64.wrap (i + 1)) + (IntKind.i64.wrap t33))) * 1)) = false ∧ letW (w.setCell (t36p.add (Int.toNat (IntKind.i64.wrap ((IntKind.i64.wrap (i + 1)) + (IntKind.i64.wrap t33))) * 1)) (.bool true)) fun w_2 => ref15_begins.J0 R pA pn pc outA outn outc i t22 w_2)
    (Run Try.prog 71 #[(.int .u16 t22)] w fun v w_3 => ∃ t39 : Bool, v = (.bool t39) ∧ ifP t39
    (0 ≤ (i : Int) ∧ (i : Int) < ((pn : Nat) : Int) ∧ ∃ t45p : Addr, pA = some t45p ∧ ∃ t47 : Int, w_3.cell? ((t45p.add (Int.toNat i * 4)).add 1) = some (.int .u8 t47) ∧ 0 ≤ (IntKind.i64.wrap ((IntKind.i64.wrap (i + 1)) + (IntKind.i64.wrap t47)) : Int) ∧ (IntKind.i64.wrap ((IntKind.i64.wrap (i + 1)) + (IntKind.i64.wrap t47)) : Int) < ((outn : Nat) : Int) ∧ ∃ t50p : Addr, outA = some t50p ∧ (∃ u : Value, w_3.cell? (t50p.add (Int.toNat (IntKind.i64.wrap ((IntKind.i64.wrap (i + 1)) + (IntKind.i64.wrap t47))) * 1)) = some u) ∧ w_3.frozen? (t50p.add (Int.toNat (IntKind.i64.wrap ((IntKind.i64.wrap (i + 1)) + (IntKind.i64.wrap t47))) * 1)) = false ∧ letW (w_3.setCell (t50p.add (Int.toNat (IntKind.i64.wrap ((IntKind.i64.wrap (i + 1)) + (IntKind.i64.wrap t47))) * 1)) (.bool true)) fun w_4 => 0 ≤ (i : Int) ∧ (i : Int) < ((pn : Nat) : Int) ∧ ∃ t56p : Addr, pA = some t56p ∧ ∃ t58 : Int, w_4.cell? ((t56p.add (Int.toNat i * 4)).add 2) = some (.int .u8 t58) ∧ 0 ≤ (IntKind.i64.wrap ((IntKind.i64.wrap (i + 1)) + (IntKind.i64.wrap t58)) : Int) ∧ (IntKind.i64.wrap ((IntKind.i64.wrap (i + 1)) + (IntKind.i64.wrap t58)) : Int) < ((outn : Nat) : Int) ∧ ∃ t61p : Addr, outA = some t61p ∧ (∃ u : Value, w_4.cell? (t61p.add (Int.toNat (IntKind.i64.wrap ((IntKind.i64.wrap (i + 1)) + (IntKind.i64.wrap t58))) * 1)) = some u) ∧ w_4.frozen? (t61p.add (Int.toNat (IntKind.i64.wrap ((IntKind.i64.wrap (i + 1)) + (IntKind.i64.wrap t58))) * 1)) = false ∧ letW (w_4.setCell (t61p.add (Int.toNat (IntKind.i64.wrap ((IntKind.i64.wrap (i + 1)) + (IntKind.i64.wrap t58))) * 1)) (.bool true)) fun w_5 => ref15_begins.J0 R pA pn pc outA outn outc i t22 w_5)
    (ref15_begins.J0 R pA pn pc outA outn outc i t22 w_3)))
    (R (.slice outA outn outc) w)

@[reducible] def ref15_begins.vc (R : Value → World → Prop) (pA : Option Addr) (pn : Nat) (pc : Nat) (w : World) : Prop :=
  ∃ (v : Value) (w_2 : World), (Instr.makeSlice 53 (.int .i64 (IntKind.i64.wrap (((pn : Nat) : Int) + 1))) (.int .i64 (IntKind.i64.wrap (((pn : Nat) : Int) + 1)))).run Try.prog w = .ok v w_2 ∧ ∃ (t9A : Option Addr) (t9n t9c : Nat), v = (.slice t9A t9n t9c) ∧ 0 ≤ (0 : Int) ∧ (0 : Int) < ((t9n : Nat) : Int) ∧ ∃ t11p : Addr, t9A = some t11p ∧ (∃ u : Value, w_2.cell? (t11p.add (Int.toNat 0 * 1)) = some u) ∧ w_2.frozen? (t11p.add (Int.toNat 0 * 1)) = false ∧ letW (w_2.setCell (t11p.add (Int.toNat 0 * 1)) (.bool true)) fun w_3 => ref15_begins.L0 R pA pn pc t9A t9n t9c 0 w_3

theorem ref15_begins.B0_eq (R : Value → World → Prop) (pA : Option Addr) (pn : Nat) (pc : Nat) (outA : Option Addr) (outn : Nat) (outc : Nat) (i : Int) (w : World) (ts : Nat → Value) :
    code Try.prog none ref15_begins.live 0 ref15_begins.c0 (thenK (fun st w => loopVC (fun K => code Try.prog none ref15_begins.live 0 ref15_begins.c0 K) (ref15_begins.live 0) (ref15_begins.K0 R) (clearFrom (ref15_begins.live 0) 0 st) w) (ref15_begins.K0 R)) (mergeFrom (ref15_begins.live 0) ts 0 (clearFrom (ref15_begins.live 0) 0 [(.slice pA pn pc), undef, undef, (.slice outA outn outc), (.int .i64 i), undef, undef, undef, undef, undef, undef, undef, undef, undef, undef, undef, undef, undef, undef, undef, undef, undef, undef, undef, undef, undef, undef, undef, undef, undef, undef, undef, undef, undef, undef, undef, undef, undef, undef, undef, undef, undef, undef, undef, undef, undef, undef, undef, undef, undef, undef, undef, undef, undef, undef, undef, undef, undef, undef, undef, undef, undef, undef, undef, undef, undef, undef, undef, undef, undef, undef, undef, undef, undef])) w = ref15_begins.B0 R pA pn pc outA outn outc i w := by kernel_rfl
theorem ref15_begins.L0_step {R : Value → World → Prop} {pA : Option Addr} {pn : Nat} {pc : Nat} {outA : Option Addr} {outn : Nat} {outc : Nat} {i : Int} {w : World} (h : ref15_begins.B0 R pA pn pc outA outn outc i w) : ref15_begins.L0 R pA pn pc outA outn outc i w :=
  loop_step (live := ref15_begins.live) (b := 0) (x := ref15_begins.c0) fun ts => Eq.mpr (ref15_begins.B0_eq R pA pn pc outA outn outc i w ts) h
theorem ref15_begins.eq (R : Value → World → Prop) (pA : Option Addr) (pn : Nat) (pc : Nat) (w : World) : fnVC Try.prog none ref15_begins.live Try.f55 R [(.slice pA pn pc)] w = ref15_begins.vc R pA pn pc w := by kernel_rfl
set_option maxHeartbeats 4000000 in
theorem ref15_begins.ok {R : Value → World → Prop} {pA : Option Addr} {pn : Nat} {pc : Nat} {w : World} (h : ref15_begins.vc R pA pn pc w) : Run Try.prog 55 #[(.slice pA pn pc)] w R := by
  have h2 := Eq.mpr (ref15_begins.eq R pA pn pc w) h
  exact fn_sound Try.mixed Try.func55 (by kernel_rfl) h2

/-! ### riddle/riddleref15.last: function 58 -/
noncomputable def ref15_last.body : Code := bodyOf Try.f58
def ref15_last.live : Nat → List Nat
  | _ => []
def ref15_last.J0 (R : Value → World → Prop) (i : Addr) (t2 : Addr) (w : World) : Prop :=
  ∃ t18_0 : Int, w.cell? i = some (.int .u16 t18_0) ∧ ∃ t18_1 : Int, w.cell? (i.add 1) = some (.int .u8 t18_1) ∧ ∃ t18_2 : Int, w.cell? (i.add 2) = some (.int .u8 t18_2) ∧ ∃ t18_3 : Int, w.cell? (i.add 3) = some (.int .u32 t18_3) ∧ storeRow t2 0 [(.int .u16 t18_0), (.int .u8 t18_1), (.int .u8 t18_2), (.int .u32 t18_3)] w fun w_2 => ∃ t2_0 : Int, w_2.cell? t2 = some (.int .u16 t2_0) ∧ ∃ t2_1 : Int, w_2.cell? (t2.add 1) = some (.int .u8 t2_1) ∧ ∃ t2_2 : Int, w_2.cell? (t2.add 2) = some (.int .u8 t2_2) ∧ ∃ t2_3 : Int, w_2.cell? (t2.add 3) = some (.int .u32 t2_3) ∧ R (.agg #[(.int .u16 t2_0), (.int .u8 t2_1), (.int .u8 t2_2), (.int .u32 t2_3)]) w_2

@[reducible] def ref15_last.vc (R : Value → World → Prop) (i_0 : Int) (i_1 : Int) (i_2 : Int) (i_3 : Int) (w : World) : Prop :=
  letW (w.alloc (.cells #[(.int .u16 i_0), (.int .u8 i_1), (.int .u8 i_2), (.int .u32 i_3)] 47)) fun w_2 => letW (w_2.alloc (.cells #[(.int .u16 0), (.int .u8 0), (.int .u8 0), (.int .u32 0)] 47)) fun w_3 => ∃ t8 : Int, w_3.cell? (newA w) = some (.int .u16 t8) ∧ Run Try.prog 70 #[(.int .u16 t8)] w_3 fun v w_4 => ∃ t90 : Bool, ∃ t91 : Bool, ∃ t92 : Bool, v = (.tuple #[(.bool t90), (.bool t91), (.bool t92)]) ∧ (∃ u : Value, w_4.cell? ((newA w).add 1) = some u) ∧ w_4.frozen? ((newA w).add 1) = false ∧ letW (w_4.setCell ((newA w).add 1) (.int .u8 0)) fun w_5 => (∃ u : Value, w_5.cell? ((newA w).add 2) = some u) ∧ w_5.frozen? ((newA w).add 2) = false ∧ letW (w_5.setCell ((newA w).add 2) (.int .u8 0)) fun w_6 => ifP (!t90)
    ((∃ u : Value, w_6.cell? ((newA w).add 3) = some u) ∧ w_6.frozen? ((newA w).add 3) = false ∧ letW (w_6.setCell ((newA w).add 3) (.int .u32 0)) fun w_7 => ref15_last.J0 R (newA w) (newA w_2) w_7)
    (ref15_last.J0 R (newA w) (newA w_2) w_6)

theorem ref15_last.eq (R : Value → World → Prop) (i_0 : Int) (i_1 : Int) (i_2 : Int) (i_3 : Int) (w : World) : fnVC Try.prog none ref15_last.live Try.f58 R [(.agg #[(.int .u16 i_0), (.int .u8 i_1), (.int .u8 i_2), (.int .u32 i_3)])] w = ref15_last.vc R i_0 i_1 i_2 i_3 w := by kernel_rfl
set_option maxHeartbeats 4000000 in
theorem ref15_last.ok {R : Value → World → Prop} {i_0 : Int} {i_1 : Int} {i_2 : Int} {i_3 : Int} {w : World} (h : ref15_last.vc R i_0 i_1 i_2 i_3 w) : Run Try.prog 58 #[(.agg #[(.int .u16 i_0), (.int .u8 i_1), (.int .u8 i_2), (.int .u32 i_3)])] w R := by
  have h2 := Eq.mpr (ref15_last.eq R i_0 i_1 i_2 i_3 w) h
  exact fn_sound Try.mixed Try.func58 (by kernel_rfl) h2

/-! ### riddle/riddleref15.Of: function 19 -/
noncomputable def ref15_Of.body : Code := bodyOf Try.f19
def ref15_Of.live : Nat → List Nat
  | 0 => [0, 6, 7, 8, 9]
  | 2 => [0, 6, 7, 10, 11]
  | 4 => [0, 6, 7, 10, 11, 12]
  | _ => []
noncomputable def ref15_Of.c0 : Code := sub ref15_Of.body [1, 1, 1, 1, 1, 0, 1, 0, 0]
noncomputable def ref15_Of.c2 : Code := sub ref15_Of.body [1, 1, 1, 1, 1, 1, 1, 0, 1, 0, 0]
noncomputable def ref15_Of.c4 : Code := sub ref15_Of.body [1, 1, 1, 1, 1, 1, 1, 0, 1, 0, 0, 1, 0, 1, 0, 0, 0]
def ref15_Of.K0 (R : Value → World → Prop) : Ex → St → World → Prop := (blockK 0 (thenK (fun st w => code Try.prog none ref15_Of.live 0 (sub ref15_Of.body [1, 1, 1, 1, 1, 1]) (retK Try.prog Try.f19 R) st w) (retK Try.prog Try.f19 R)))
def ref15_Of.L0 (R : Value → World → Prop) (pA : Option Addr) (pn : Nat) (pc : Nat) (firstA : Option Addr) (firstn : Nat) (firstc : Nat) (numberA : Option Addr) (numbern : Nat) (numberc : Nat) (k : Int) (i : Int) (w : World) : Prop :=
  loopVC (fun K => code Try.prog none ref15_Of.live 0 ref15_Of.c0 K) (ref15_Of.live 0) (ref15_Of.K0 R) [(.slice pA pn pc), undef, undef, undef, undef, undef, (.slice firstA firstn firstc), (.slice numberA numbern numberc), (.int .i64 k), (.int .i64 i), undef, undef, undef, undef, undef, undef, undef, undef, undef, undef, undef, undef, undef, undef, undef, undef, undef, undef, undef, undef, undef, undef, undef, undef, undef, undef, undef, undef, undef, undef, undef, undef, undef, undef, undef, undef, undef, undef, undef, undef, undef, undef, undef, undef, undef, undef, undef, undef, undef, undef, undef, undef, undef, undef, undef, undef, undef, undef, undef, undef, undef, undef, undef, undef, undef, undef, undef, undef, undef, undef, undef, undef, undef, undef, undef, undef, undef, undef, undef, undef, undef, undef, undef, undef, undef, undef, undef, undef, undef, undef, undef, undef, undef, undef, undef, undef, undef, undef, undef, undef, undef, undef, undef, undef, undef, undef, undef, undef, undef, undef, undef, undef, undef, undef, undef, undef, undef, undef, undef, undef, undef, undef, undef, undef, undef, undef, undef, undef, undef, undef, undef, undef, undef, undef, undef, undef, undef, undef, undef, undef, undef, undef, undef, undef, undef, undef, undef, undef, undef, undef, undef, undef, undef, undef, undef, undef, undef, undef, undef, undef, undef, undef, undef, undef, undef, undef, undef, undef, undef] w
def ref15_Of.K2 (R : Value → World → Prop) : Ex → St → World → Prop := (blockK 2 (thenK (fun st w => code Try.prog none ref15_Of.live 0 (sub ref15_Of.body [1, 1, 1, 1, 1, 1, 1, 1]) (retK Try.prog Try.f19 R) st w) (retK Try.prog Try.f19 R)))
def ref15_Of.L2 (R : Value → World → Prop) (pA : Option Addr) (pn : Nat) (pc : Nat) (firstA : Option Addr) (firstn : Nat) (firstc : Nat) (numberA : Option Addr) (numbern : Nat) (numberc : Nat) (outA : Option Addr) (outn : Nat) (outc : Nat) (i : Int) (w : World) : Prop :=
  loopVC (fun K => code Try.prog none ref15_Of.live 2 ref15_Of.c2 K) (ref15_Of.live 2) (ref15_Of.K2 R) [(.slice pA pn pc), undef, undef, undef, undef, undef, (.slice firstA firstn firstc), (.slice numberA numbern numberc), undef, undef, (.slice outA outn outc), (.int .i64 i), undef, undef, undef, undef, undef, undef, undef, undef, undef, undef, undef, undef, undef, undef, undef, undef, undef, undef, undef, undef, undef, undef, undef, undef, undef, undef, undef, undef, undef, undef, undef, undef, undef, undef, undef, undef, undef, undef, undef, undef, undef, undef, undef, undef, undef, undef, undef, undef, undef, undef, undef, undef, undef, undef, undef, undef, undef, undef, undef, undef, undef, undef, undef, undef, undef, undef, undef, undef, undef, undef, undef, undef, undef, undef, undef, undef, undef, undef, undef, undef, undef, undef, undef, undef, undef, undef, undef, undef, undef, undef, undef, undef, undef, undef, undef, undef, undef, undef, undef, undef, undef, undef, undef, undef, undef, undef, undef, undef, undef, undef, undef, undef, undef, undef, undef, undef, undef, undef, undef, undef, undef, undef, undef, undef, undef, undef, undef, undef, undef, undef, undef, undef, undef, undef, undef, undef, undef, undef, undef, undef, undef, undef, undef, undef, undef, undef, undef, undef, undef, undef, undef, undef, undef, undef, undef, undef, undef, undef, undef, undef, undef, undef, undef, undef, undef, undef, undef] w
def ref15_Of.K4 (R : Value → World → Prop) : Ex → St → World → Prop := (blockK 4 (thenK (fun st w => code Try.prog none ref15_Of.live 3 (sub ref15_Of.body [1, 1, 1, 1, 1, 1, 1, 0, 1, 0, 0, 1, 0, 1, 1]) (blockK 3 (thenK (fun st w => loopVC (fun K => code Try.prog none ref15_Of.live 2 ref15_Of.c2 K) (ref15_Of.live 2) (ref15_Of.K2 R) (clearFrom (ref15_Of.live 2) 0 st) w) (ref15_Of.K2 R))) st w) (blockK 3 (thenK (fun st w => loopVC (fun K => code Try.prog none ref15_Of.live 2 ref15_Of.c2 K) (ref15_Of.live 2) (ref15_Of.K2 R) (clearFrom (ref15_Of.live 2) 0 st) w) (ref15_Of.K2 R)))))
def ref15_Of.L4 (R : Value → World → Prop) (pA : Option Addr) (pn : Nat) (pc : Nat) (firstA : Option Addr) (firstn : Nat) (firstc : Nat) (numberA : Option Addr) (numbern : Nat) (numberc : Nat) (outA : Option Addr) (outn : Nat) (outc : Nat) (i : Int) (b : Addr) (w : World) : Prop :=
  loopVC (fun K => code Try.prog none ref15_Of.live 4 ref15_Of.c4 K) (ref15_Of.live 4) (ref15_Of.K4 R) [(.slice pA pn pc), undef, undef, undef, undef, undef, (.slice firstA firstn firstc), (.slice numberA numbern numberc), undef, undef, (.slice outA outn outc), (.int .i64 i), (.pointer (some b)), undef, undef, undef, undef, undef, undef, undef, undef, undef, undef, undef, undef, undef, undef, undef, undef, undef, undef, undef, undef, undef, undef, undef, undef, undef, undef, undef, undef, undef, undef, undef, undef, undef, undef, undef, undef, undef, undef, undef, undef, undef, undef, undef, undef, undef, undef, undef, undef, undef, undef, undef, undef, undef, undef, undef, undef, undef, undef, undef, undef, undef, undef, undef, undef, undef, undef, undef, undef, undef, undef, undef, undef, undef, undef, undef, undef, undef, undef, undef, undef, undef, undef, undef, undef, undef, undef, undef, undef, undef, undef, undef, undef, undef, undef, undef, undef, undef, undef, undef, undef, undef, undef, undef, undef, undef, undef, undef, undef, undef, undef, undef, undef, undef, undef, undef, undef, undef, undef, undef, undef, undef, undef, undef, undef, undef, undef, undef, undef, undef, undef, undef, undef, undef, undef, undef, undef, undef, undef, undef, undef, undef, undef, undef, undef, undef, undef, undef, undef, undef, undef, undef, undef, undef, undef, undef, undef, undef, undef, undef, undef, undef, undef, undef, undef, undef, undef] w
def ref15_Of.J0 (R : Value → World → Prop) (pA : Option Addr) (pn : Nat) (pc : Nat) (firstA : Option Addr) (firstn : Nat) (firstc : Nat) (numberA : Option Addr) (numbern : Nat) (numberc : Nat) (k : Int) (i : Int) (w : World) : Prop :=
  0 ≤ (i : Int) ∧ (i : Int) < ((numbern : Nat) : Int) ∧ ∃ t41p : Addr, numberA = some t41p ∧ (∃ u : Value, w.cell? (t41p.add (Int.toNat i * 1)) = some u) ∧ w.frozen? (t41p.add (Int.toNat i * 1)) = false ∧ letW (w.setCell (t41p.add (Int.toNat i * 1)) (.int .i64 k)) fun w_2 => ref15_Of.L0 R pA pn pc firstA firstn firstc numberA numbern numberc k (IntKind.i64.wrap (i + 1)) w_2

def ref15_Of.J5 (R : Value → World → Prop) (pA : Option Addr) (pn : Nat) (pc : Nat) (firstA : Option Addr) (firstn : Nat) (firstc : Nat) (numberA : Option Addr) (numbern : Nat) (numberc : Nat) (outA : Option Addr) (outn : Nat) (outc : Nat) (i : Int) (b : Addr) (w : World) : Prop :=
  ∃ (t173_0A : Option Addr) (t173_0n t173_0c : Nat), w.cell? b = some (.slice t173_0A t173_0n t173_0c) ∧ ∃ t173_1 : Int, w.cell? (b.add 1) = some (.int .i64 t173_1) ∧ ∃ t173_2 : Int, w.cell? (b.add 2) = some (.int .u16 t173_2) ∧ ∃ t173_3 : Int, w.cell? (b.add 3) = some (.int .u8 t173_3) ∧ ∃ t173_4 : Int, w.cell? (b.add 4) = some (.int .u8 t173_4) ∧ ∃ t173_5 : Int, w.cell? (b.add 5) = some (.int .u32 t173_5) ∧ ∃ t173_6 : Int, w.cell? (b.add 6) = some (.int .i64 t173_6) ∧ ∃ t173_7 : Int, w.cell? (b.add 7) = some (.int .i64 t173_7) ∧ letW (w.alloc (.cells #[(.slice t173_0A t173_0n t173_0c), (.int .i64 t173_1), (.int .u16 t173_2), (.int .u8 t173_3), (.int .u8 t173_4), (.int .u32 t173_5), (.int .i64 t173_6), (.int .i64 t173_7)] 49)) fun w_2 => ∃ (v : Value) (w_3 : World), (Builtin.append_ #[22, 22] 22 #[(.slice outA outn outc), (.slice (some (newA w)) 1 1)]).run Try.prog w_2 = .ok v w_3 ∧ ∃ (t175A : Option Addr) (t175n t175c : Nat), v = (.slice t175A t175n t175c) ∧ ref15_Of.L2 R pA pn pc firstA firstn firstc numberA numbern numberc t175A t175n t175c (IntKind.i64.wrap (i + 1)) w_3

def ref15_Of.J4 (R : Value → World → Prop) (pA : Option Addr) (pn : Nat) (pc : Nat) (firstA : Option Addr) (firstn : Nat) (firstc : Nat) (numberA : Option Addr) (numbern : Nat) (numberc : Nat) (outA : Option Addr) (outn : Nat) (outc : Nat) (i : Int) (b : Addr) (t116 : Bool) (w : World) : Prop :=
  ifP t116
    ((∃ u : Value, w.cell? (b.add 1) = some u) ∧ w.frozen? (b.add 1) = false ∧ letW (w.setCell (b.add 1) (.int .i64 2)) fun w_2 => 0 ≤ (i : Int) ∧ (i : Int) < ((numbern : Nat) : Int) ∧ ∃ t130p : Addr, numberA = some t130p ∧ ∃ t131 : Int, w_2.cell? (t130p.add (Int.toNat i * 1)) = some (.int .i64 t131) ∧ (∃ u : Value, w_2.cell? (b.add 6) = some u) ∧ w_2.frozen? (b.add 6) = false ∧ letW (w_2.setCell (b.add 6) (.int .i64 t131)) fun w_3 => ∃ (t134_0A : Option Addr) (t134_0n t134_0c : Nat), w_3.cell? b = some (.slice t134_0A t134_0n t134_0c) ∧ ∃ t134_1 : Int, w_3.cell? (b.add 1) = some (.int .i64 t134_1) ∧ ∃ t134_2 : Int, w_3.cell? (b.add 2) = some (.int .u16 t134_2) ∧ ∃ t134_3 : Int, w_3.cell? (b.add 3) = some (.int .u8 t134_3) ∧ ∃ t134_4 : Int, w_3.cell? (b.add 4) = some (.int .u8 t134_4) ∧ ∃ t134_5 : Int, w_3.cell? (b.add 5) = some (.int .u32 t134_5) ∧ ∃ t134_6 : Int, w_3.cell? (b.add 6) = some (.int .i64 t134_6) ∧ ∃ t134_7 : Int, w_3.cell? (b.add 7) = some (.int .i64 t134_7) ∧ letW (w_3.alloc (.cells #[(.slice t134_0A t134_0n t134_0c), (.int .i64 t134_1), (.int .u16 t134_2), (.int .u8 t134_3), (.int .u8 t134_4), (.int .u32 t134_5), (.int .i64 t134_6), (.int .i64 t134_7)] 49)) fun w_4 => ∃ (v : Value) (w_5 : World), (Builtin.append_ #[22, 22] 22 #[(.slice outA outn outc), (.slice (some (newA w_3)) 1 1)]).run Try.prog w_4 = .ok v w_5 ∧ ∃ (t136A : Option Addr) (t136n t136c : Nat), v = (.slice t136A t136n t136c) ∧ ref15_Of.L2 R pA pn pc firstA firstn firstc numberA numbern numberc t136A t136n t136c i w_5)
    (0 ≤ (i : Int) ∧ (i : Int) < ((pn : Nat) : Int) ∧ ∃ t140p : Addr, pA = some t140p ∧ ∃ t142 : Int, w.cell? (t140p.add (Int.toNat i * 4)) = some (.int .u16 t142) ∧ Run Try.prog 57 #[(.int .u16 t142)] w fun v_2 w_6 => ∃ t143 : Bool, v_2 = (.bool t143) ∧ ifP t143
    ((∃ u : Value, w_6.cell? (b.add 1) = some u) ∧ w_6.frozen? (b.add 1) = false ∧ letW (w_6.setCell (b.add 1) (.int .i64 1)) fun w_7 => 0 ≤ (i : Int) ∧ (i : Int) < ((pn : Nat) : Int) ∧ ∃ t147p : Addr, pA = some t147p ∧ ∃ t148_0 : Int, w_7.cell? (t147p.add (Int.toNat i * 4)) = some (.int .u16 t148_0) ∧ ∃ t148_1 : Int, w_7.cell? ((t147p.add (Int.toNat i * 4)).add 1) = some (.int .u8 t148_1) ∧ ∃ t148_2 : Int, w_7.cell? ((t147p.add (Int.toNat i * 4)).add 2) = some (.int .u8 t148_2) ∧ ∃ t148_3 : Int, w_7.cell? ((t147p.add (Int.toNat i * 4)).add 3) = some (.int .u32 t148_3) ∧ Run Try.prog 58 #[(.agg #[(.int .u16 t148_0), (.int .u8 t148_1), (.int .u8 t148_2), (.int .u32 t148_3)])] w_7 fun v_3 w_8 => ∃ t149_0 : Int, ∃ t149_1 : Int, ∃ t149_2 : Int, ∃ t149_3 : Int, v_3 = (.agg #[(.int .u16 t149_0), (.int .u8 t149_1), (.int .u8 t149_2), (.int .u32 t149_3)]) ∧ storeRow (b.add 2) 0 [(.int .u16 t149_0), (.int .u8 t149_1), (.int .u8 t149_2), (.int .u32 t149_3)] w_8 fun w_9 => ref15_Of.J5 R pA pn pc firstA firstn firstc numberA numbern numberc outA outn outc i b w_9)
    (0 ≤ (i : Int) ∧ (i : Int) < ((pn : Nat) : Int) ∧ ∃ t154p : Addr, pA = some t154p ∧ ∃ t156 : Int, w_6.cell? (t154p.add (Int.toNat i * 4)) = some (.int .u16 t156) ∧ ifP ((t156 : Int) == 5)
    ((∃ u : Value, w_6.cell? (b.add 1) = some u) ∧ w_6.frozen? (b.add 1) = false ∧ letW (w_6.setCell (b.add 1) (.int .i64 2)) fun w_10 => 0 ≤ (i : Int) ∧ (i : Int) < ((pn : Nat) : Int) ∧ ∃ t164p : Addr, pA = some t164p ∧ ∃ t166 : Int, w_10.cell? ((t164p.add (Int.toNat i * 4)).add 3) = some (.int .u32 t166) ∧ 0 ≤ (IntKind.i64.wrap ((IntKind.i64.wrap (i + 1)) + (IntKind.i64.wrap t166)) : Int) ∧ (IntKind.i64.wrap ((IntKind.i64.wrap (i + 1)) + (IntKind.i64.wrap t166)) : Int) < ((numbern : Nat) : Int) ∧ ∃ t169p : Addr, numberA = some t169p ∧ ∃ t170 : Int, w_10.cell? (t169p.add (Int.toNat (IntKind.i64.wrap ((IntKind.i64.wrap (i + 1)) + (IntKind.i64.wrap t166))) * 1)) = some (.int .i64 t170) ∧ (∃ u : Value, w_10.cell? (b.add 6) = some u) ∧ w_10.frozen? (b.add 6) = false ∧ letW (w_10.setCell (b.add 6) (.int .i64 t170)) fun w_11 => ref15_Of.J5 R pA pn pc firstA firstn firstc numberA numbern numberc outA outn outc i b w_11)
    ((∃ u : Value, w_6.cell? (b.add 1) = some u) ∧ w_6.frozen? (b.add 1) = false ∧ letW (w_6.setCell (b.add 1) (.int .i64 3)) fun w_12 => 0 ≤ (i : Int) ∧ (i : Int) < ((pn : Nat) : Int) ∧ ∃ t86p : Addr, pA = some t86p ∧ ∃ t87_0 : Int, w_12.cell? (t86p.add (Int.toNat i * 4)) = some (.int .u16 t87_0) ∧ ∃ t87_1 : Int, w_12.cell? ((t86p.add (Int.toNat i * 4)).add 1) = some (.int .u8 t87_1) ∧ ∃ t87_2 : Int, w_12.cell? ((t86p.add (Int.toNat i * 4)).add 2) = some (.int .u8 t87_2) ∧ ∃ t87_3 : Int, w_12.cell? ((t86p.add (Int.toNat i * 4)).add 3) = some (.int .u32 t87_3) ∧ Run Try.prog 58 #[(.agg #[(.int .u16 t87_0), (.int .u8 t87_1), (.int .u8 t87_2), (.int .u32 t87_3)])] w_12 fun v_4 w_13 => ∃ t88_0 : Int, ∃ t88_1 : Int, ∃ t88_2 : Int, ∃ t88_3 : Int, v_4 = (.agg #[(.int .u16 t88_0), (.int .u8 t88_1), (.int .u8 t88_2), (.int .u32 t88_3)]) ∧ storeRow (b.add 2) 0 [(.int .u16 t88_0), (.int .u8 t88_1), (.int .u8 t88_2), (.int .u32 t88_3)] w_13 fun w_14 => 0 ≤ (i : Int) ∧ (i : Int) < ((pn : Nat) : Int) ∧ ∃ t95p : Addr, pA = some t95p ∧ ∃ t97 : Int, w_14.cell? ((t95p.add (Int.toNat i * 4)).add 1) = some (.int .u8 t97) ∧ 0 ≤ (IntKind.i64.wrap ((IntKind.i64.wrap (i + 1)) + (IntKind.i64.wrap t97)) : Int) ∧ (IntKind.i64.wrap ((IntKind.i64.wrap (i + 1)) + (IntKind.i64.wrap t97)) : Int) < ((numbern : Nat) : Int) ∧ ∃ t100p : Addr, numberA = some t100p ∧ ∃ t101 : Int, w_14.cell? (t100p.add (Int.toNat (IntKind.i64.wrap ((IntKind.i64.wrap (i + 1)) + (IntKind.i64.wrap t97))) * 1)) = some (.int .i64 t101) ∧ (∃ u : Value, w_14.cell? (b.add 6) = some u) ∧ w_14.frozen? (b.add 6) = false ∧ letW (w_14.setCell (b.add 6) (.int .i64 t101)) fun w_15 => 0 ≤ (i : Int) ∧ (i : Int) < ((pn : Nat) : Int) ∧ ∃ t108p : Addr, pA = some t108p ∧ ∃ t110 : Int, w_15.cell? ((t108p.add (Int.toNat i * 4)).add 2) = some (.int .u8 t110) ∧ 0 ≤ (IntKind.i64.wrap ((IntKind.i64.wrap (i + 1)) + (IntKind.i64.wrap t110)) : Int) ∧ (IntKind.i64.wrap ((IntKind.i64.wrap (i + 1)) + (IntKind.i64.wrap t110)) : Int) < ((numbern : Nat) : Int) ∧ ∃ t113p : Addr, numberA = some t113p ∧ ∃ t114 : Int, w_15.cell? (t113p.add (Int.toNat (IntKind.i64.wrap ((IntKind.i64.wrap (i + 1)) + (IntKind.i64.wrap t110))) * 1)) = some (.int .i64 t114) ∧ (∃ u : Value, w_15.cell? (b.add 7) = some u) ∧ w_15.frozen? (b.add 7) = false ∧ letW (w_15.setCell (b.add 7) (.int .i64 t114)) fun w_16 => ref15_Of.J5 R pA pn pc firstA firstn firstc numberA numbern numberc outA outn outc i b w_16)))

def ref15_Of.J3 (R : Value → World → Prop) (pA : Option Addr) (pn : Nat) (pc : Nat) (firstA : Option Addr) (firstn : Nat) (firstc : Nat) (numberA : Option Addr) (numbern : Nat) (numberc : Nat) (outA : Option Addr) (outn : Nat) (outc : Nat) (i : Int) (b : Addr) (w : World) : Prop :=
  ∃ (t118A : Option Addr) (t118n t118c : Nat), w.cell? b = some (.slice t118A t118n t118c) ∧ ifP (decide ((((t118n : Nat) : Int) : Int) > 0)) (0 ≤ (i : Int) ∧ (i : Int) < ((firstn : Nat) : Int) ∧ ∃ t124p : Addr, firstA = some t124p ∧ ∃ t125 : Bool, w.cell? (t124p.add (Int.toNat i * 1)) = some (.bool t125) ∧ ref15_Of.J4 R pA pn pc firstA firstn firstc numberA numbern numberc outA outn outc i b t125 w) (ref15_Of.J4 R pA pn pc firstA firstn firstc numberA numbern numberc outA outn outc i b false w)

def ref15_Of.J2 (R : Value → World → Prop) (pA : Option Addr) (pn : Nat) (pc : Nat) (firstA : Option Addr) (firstn : Nat) (firstc : Nat) (numberA : Option Addr) (numbern : Nat) (numberc : Nat) (outA : Option Addr) (outn : Nat) (outc : Nat) (i : Int) (b : Addr) (w : World) : Prop :=
  0 ≤ (IntKind.i64.wrap (i + 1) : Int) ∧ (IntKind.i64.wrap (i + 1) : Int) < ((firstn : Nat) : Int) ∧ ∃ t81p : Addr, firstA = some t81p ∧ ∃ t82 : Bool, w.cell? (t81p.add (Int.toNat (IntKind.i64.wrap (i + 1)) * 1)) = some (.bool t82) ∧ ifP t82
    (ref15_Of.J3 R pA pn pc firstA firstn firstc numberA numbern numberc outA outn outc (IntKind.i64.wrap (i + 1)) b w)
    (ref15_Of.L4 R pA pn pc firstA firstn firstc numberA numbern numberc outA outn outc (IntKind.i64.wrap (i + 1)) b w)

def ref15_Of.J1 (R : Value → World → Prop) (pA : Option Addr) (pn : Nat) (pc : Nat) (firstA : Option Addr) (firstn : Nat) (firstc : Nat) (numberA : Option Addr) (numbern : Nat) (numberc : Nat) (outA : Option Addr) (outn : Nat) (outc : Nat) (i : Int) (b : Addr) (t67 : Bool) (w : World) : Prop :=
  ifP t67
    (∃ S_ : World → Prop, S_ w.drew ∧ letW w.drew fun w_2 => ∃ (t69A : Option Addr) (t69n t69c : Nat), (∀ u : World, S_ u → u.cell? b = some (.slice t69A t69n t69c)) ∧ 0 ≤ (i : Int) ∧ (i : Int) < ((pn : Nat) : Int) ∧ ∃ t72p : Addr, pA = some t72p ∧ ∃ t73_0 : Int, (∀ u_2 : World, S_ u_2 → u_2.cell? (t72p.add (Int.toNat i * 4)) = some (.int .u16 t73_0)) ∧ ∃ t73_1 : Int, (∀ u_3 : World, S_ u_3 → u_3.cell? ((t72p.add (Int.toNat i * 4)).add 1) = some (.int .u8 t73_1)) ∧ ∃ t73_2 : Int, (∀ u_4 : World, S_ u_4 → u_4.cell? ((t72p.add (Int.toNat i * 4)).add 2) = some (.int .u8 t73_2)) ∧ ∃ t73_3 : Int, (∀ u_5 : World, S_ u_5 → u_5.cell? ((t72p.add (Int.toNat i * 4)).add 3) = some (.int .u32 t73_3)) ∧ letW (w_2.alloc (.cells #[(.int .u16 t73_0), (.int .u8 t73_1), (.int .u8 t73_2), (.int .u32 t73_3)] 47)) fun w_3 => S_ w_3 ∧ ∃ (v : Value) (w_4 : World), (Builtin.append_ #[39, 39] 39 #[(.slice t69A t69n t69c), (.slice (some (newA w_2)) 1 1)]).run Try.prog w_3 = .ok v w_4 ∧ ∃ (t75A : Option Addr) (t75n t75c : Nat), v = (.slice t75A t75n t75c) ∧ (∃ u : Value, w_4.cell? b = some u) ∧ w_4.frozen? b = false ∧ letW (w_4.setCell b (.slice t75A t75n t75c)) fun w_5 => ref15_Of.J2 R pA pn pc firstA firstn firstc numberA numbern numberc outA outn outc i b w_5)
    (ref15_Of.J3 R pA pn pc firstA firstn firstc numberA numbern numberc outA outn outc i b w)

@[reducible] def ref15_Of.B4 (R : Value → World → Prop) (pA : Option Addr) (pn : Nat) (pc : Nat) (firstA : Option Addr) (firstn : Nat) (firstc : Nat) (numberA : Option Addr) (numbern : Nat) (numberc : Nat) (outA : Option Addr) (outn : Nat) (outc : Nat) (i : Int) (b : Addr) (w : World) : Prop :=
  ifP (decide ((i : Int) < ((pn : Nat) : Int))) (0 ≤ (i : Int) ∧ (i : Int) < ((pn : Nat) : Int) ∧ ∃ t53p : Addr, pA = some t53p ∧ ∃ t55 : Int, w.cell? (t53p.add (Int.toNat i * 4)) = some (.int .u16 t55) ∧ Run Try.prog 56 #[(.int .u16 t55)] w fun v w_2 => ∃ t56 : Int, v = (.int .i64 t56) ∧ ifP ((t56 : Int) != 5) (0 ≤ (i : Int) ∧ (i : Int) < ((pn : Nat) : Int) ∧ ∃ t62p : Addr, pA = some t62p ∧ ∃ t64 : Int, w_2.cell? (t62p.add (Int.toNat i * 4)) = some (.int .u16 t64) ∧ Run Try.prog 57 #[(.int .u16 t64)] w_2 fun v_2 w_3 => ∃ t65 : Bool, v_2 = (.bool t65) ∧ ref15_Of.J1 R pA pn pc firstA firstn firstc numberA numbern numberc outA outn outc i b (!t65) w_3) (ref15_Of.J1 R pA pn pc firstA firstn firstc numberA numbern numberc outA outn outc i b false w_2)) (ref15_Of.J1 R pA pn pc firstA firstn firstc numberA numbern numberc outA outn outc i b false w)

@[reducible] def ref15_Of.B2 (R : Value → World → Prop) (pA : Option Addr) (pn : Nat) (pc : Nat) (firstA : Option Addr) (firstn : Nat) (firstc : Nat) (numberA : Option Addr) (numbern : Nat) (numberc : Nat) (outA : Option Addr) (outn : Nat) (outc : Nat) (i : Int) (w : World) : Prop :=
  ifP (decide ((i : Int) < ((pn : Nat) : Int)))
    (letW (w.alloc (.cells #[(.slice none 0 0), (.int .i64 0), (.int .u16 0), (.int .u8 0), (.int .u8 0), (.int .u32 0), (.int .i64 0), (.int .i64 0)] 49)) fun w_2 => ref15_Of.L4 R pA pn pc firstA firstn firstc numberA numbern numberc outA outn outc i (newA w) w_2)
    (R (.tuple #[(.slice outA outn outc), (.int .i64 0)]) w)

@[reducible] def ref15_Of.B0 (R : Value → World → Prop) (pA : Option Addr) (pn : Nat) (pc : Nat) (firstA : Option Addr) (firstn : Nat) (firstc : Nat) (numberA : Option Addr) (numbern : Nat) (numberc : Nat) (k : Int) (i : Int) (w : World) : Prop :=
  ifP (decide ((i : Int) < ((pn : Nat) : Int)))
    (0 ≤ (i : Int) ∧ (i : Int) < ((firstn : Nat) : Int) ∧ ∃ t34p : Addr, firstA = some t34p ∧ ∃ t35 : Bool, w.cell? (t34p.add (Int.toNat i * 1)) = some (.bool t35) ∧ ifP t35
    (ref15_Of.J0 R pA pn pc firstA firstn firstc numberA numbern numberc (IntKind.i64.wrap (k + 1)) i w)
    (ref15_Of.J0 R pA pn pc firstA firstn firstc numberA numbern numberc k i w))
    (ref15_Of.L2 R pA pn pc firstA firstn firstc numberA numbern numberc none 0 0 0 w)

@[reducible] def ref15_Of.vc (R : Value → World → Prop) (pA : Option Addr) (pn : Nat) (pc : Nat) (w : World) : Prop :=
  Run Try.prog 54 #[(.slice pA pn pc)] w fun v w_2 => ∃ t150 : Int, ∃ t151 : Int, v = (.tuple #[(.int .i64 t150), (.int .i64 t151)]) ∧ ifP ((t151 : Int) != 0)
    (R (.tuple #[(.slice none 0 0), (.int .i64 155)]) w_2)
    (Run Try.prog 55 #[(.slice pA pn pc)] w_2 fun v_2 w_3 => ∃ (t21A : Option Addr) (t21n t21c : Nat), v_2 = (.slice t21A t21n t21c) ∧ ∃ (v_3 : Value) (w_4 : World), (Instr.makeSlice 62 (.int .i64 (IntKind.i64.wrap (((pn : Nat) : Int) + 1))) (.int .i64 (IntKind.i64.wrap (((pn : Nat) : Int) + 1)))).run Try.prog w_3 = .ok v_3 w_4 ∧ ∃ (t25A : Option Addr) (t25n t25c : Nat), v_3 = (.slice t25A t25n t25c) ∧ ref15_Of.L0 R pA pn pc t21A t21n t21c t25A t25n t25c (-1) 0 w_4)

theorem ref15_Of.B0_eq (R : Value → World → Prop) (pA : Option Addr) (pn : Nat) (pc : Nat) (firstA : Option Addr) (firstn : Nat) (firstc : Nat) (numberA : Option Addr) (numbern : Nat) (numberc : Nat) (k : Int) (i : Int) (w : World) (ts : Nat → Value) :
    code Try.prog none ref15_Of.live 0 ref15_Of.c0 (thenK (fun st w => loopVC (fun K => code Try.prog none ref15_Of.live 0 ref15_Of.c0 K) (ref15_Of.live 0) (ref15_Of.K0 R) (clearFrom (ref15_Of.live 0) 0 st) w) (ref15_Of.K0 R)) (mergeFrom (ref15_Of.live 0) ts 0 (clearFrom (ref15_Of.live 0) 0 [(.slice pA pn pc), undef, undef, undef, undef, undef, (.slice firstA firstn firstc), (.slice numberA numbern numberc), (.int .i64 k), (.int .i64 i), undef, undef, undef, undef, undef, undef, undef, undef, undef, undef, undef, undef, undef, undef, undef, undef, undef, undef, undef, undef, undef, undef, undef, undef, undef, undef, undef, undef, undef, undef, undef, undef, undef, undef, undef, undef, undef, undef, undef, undef, undef, undef, undef, undef, undef, undef, undef, undef, undef, undef, undef, undef, undef, undef, undef, undef, undef, undef, undef, undef, undef, undef, undef, undef, undef, undef, undef, undef, undef, undef, undef, undef, undef, undef, undef, undef, undef, undef, undef, undef, undef, undef, undef, undef, undef, undef, undef, undef, undef, undef, undef, undef, undef, undef, undef, undef, undef, undef, undef, undef, undef, undef, undef, undef, undef, undef, undef, undef, undef, undef, undef, undef, undef, undef, undef, undef, undef, undef, undef, undef, undef, undef, undef, undef, undef, undef, undef, undef, undef, undef, undef, undef, undef, undef, undef, undef, undef, undef, undef, undef, undef, undef, undef, undef, undef, undef, undef, undef, undef, undef, undef, undef, undef, undef, undef, undef, undef, undef, undef, undef, undef, undef, undef, undef, undef, undef, undef, undef, undef])) w = ref15_Of.B0 R pA pn pc firstA firstn firstc numberA numbern numberc k i w := by kernel_rfl
theorem ref15_Of.L0_step {R : Value → World → Prop} {pA : Option Addr} {pn : Nat} {pc : Nat} {firstA : Option Addr} {firstn : Nat} {firstc : Nat} {numberA : Option Addr} {numbern : Nat} {numberc : Nat} {k : Int} {i : Int} {w : World} (h : ref15_Of.B0 R pA pn pc firstA firstn firstc numberA numbern numberc k i w) : ref15_Of.L0 R pA pn pc firstA firstn firstc numberA numbern numberc k i w :=
  loop_step (live := ref15_Of.live) (b := 0) (x := ref15_Of.c0) fun ts => Eq.mpr (ref15_Of.B0_eq R pA pn pc firstA firstn firstc numberA numbern numberc k i w ts) h
theorem ref15_Of.B2_eq (R : Value → World → Prop) (pA : Option Addr) (pn : Nat) (pc : Nat) (firstA : Option Addr) (firstn : Nat) (firstc : Nat) (numberA : Option Addr) (numbern : Nat) (numberc : Nat) (outA : Option Addr) (outn : Nat) (outc : Nat) (i : Int) (w : World) (ts : Nat → Value) :
    code Try.prog none ref15_Of.live 2 ref15_Of.c2 (thenK (fun st w => loopVC (fun K => code Try.prog none ref15_Of.live 2 ref15_Of.c2 K) (ref15_Of.live 2) (ref15_Of.K2 R) (clearFrom (ref15_Of.live 2) 0 st) w) (ref15_Of.K2 R)) (mergeFrom (ref15_Of.live 2) ts 0 (clearFrom (ref15_Of.live 2) 0 [(.slice pA pn pc), undef, undef, undef, undef, undef, (.slice firstA firstn firstc), (.slice numberA numbern numberc), undef, undef, (.slice outA outn outc), (.int .i64 i), undef, undef, undef, undef, undef, undef, undef, undef, undef, undef, undef, undef, undef, undef, undef, undef, undef, undef, undef, undef, undef, undef, undef, undef, undef, undef, undef, undef, undef, undef, undef, undef, undef, undef, undef, undef, undef, undef, undef, undef, undef, undef, undef, undef, undef, undef, undef, undef, undef, undef, undef, undef, undef, undef, undef, undef, undef, undef, undef, undef, undef, undef, undef, undef, undef, undef, undef, undef, undef, undef, undef, undef, undef, undef, undef, undef, undef, undef, undef, undef, undef, undef, undef, undef, undef, undef, undef, undef, undef, undef, undef, undef, undef, undef, undef, undef, undef, undef, undef, undef, undef, undef, undef, undef, undef, undef, undef, undef, undef, undef, undef, undef, undef, undef, undef, undef, undef, undef, undef, undef, undef, undef, undef, undef, undef, undef, undef, undef, undef, undef, undef, undef, undef, undef, undef, undef, undef, undef, undef, undef, undef, undef, undef, undef, undef, undef, undef, undef, undef, undef, undef, undef, undef, undef, undef, undef, undef, undef, undef, undef, undef, undef, undef, undef, undef, undef, undef])) w = ref15_Of.B2 R pA pn pc firstA firstn firstc numberA numbern numberc outA outn outc i w := by kernel_rfl
theorem ref15_Of.L2_step {R : Value → World → Prop} {pA : Option Addr} {pn : Nat} {pc : Nat} {firstA : Option Addr} {firstn : Nat} {firstc : Nat} {numberA : Option Addr} {numbern : Nat} {numberc : Nat} {outA : Option Addr} {outn : Nat} {outc : Nat} {i : Int} {w : World} (h : ref15_Of.B2 R pA pn pc firstA firstn firstc numberA numbern numberc outA outn outc i w) : ref15_Of.L2 R pA pn pc firstA firstn firstc numberA numbern numberc outA outn outc i w :=
  loop_step (live := ref15_Of.live) (b := 2) (x := ref15_Of.c2) fun ts => Eq.mpr (ref15_Of.B2_eq R pA pn pc firstA firstn firstc numberA numbern numberc outA outn outc i w ts) h
theorem ref15_Of.B4_eq (R : Value → World → Prop) (pA : Option Addr) (pn : Nat) (pc : Nat) (firstA : Option Addr) (firstn : Nat) (firstc : Nat) (numberA : Option Addr) (numbern : Nat) (numberc : Nat) (outA : Option Addr) (outn : Nat) (outc : Nat) (i : Int) (b : Addr) (w : World) (ts : Nat → Value) :
    code Try.prog none ref15_Of.live 4 ref15_Of.c4 (thenK (fun st w => loopVC (fun K => code Try.prog none ref15_Of.live 4 ref15_Of.c4 K) (ref15_Of.live 4) (ref15_Of.K4 R) (clearFrom (ref15_Of.live 4) 0 st) w) (ref15_Of.K4 R)) (mergeFrom (ref15_Of.live 4) ts 0 (clearFrom (ref15_Of.live 4) 0 [(.slice pA pn pc), undef, undef, undef, undef, undef, (.slice firstA firstn firstc), (.slice numberA numbern numberc), undef, undef, (.slice outA outn outc), (.int .i64 i), (.pointer (some b)), undef, undef, undef, undef, undef, undef, undef, undef, undef, undef, undef, undef, undef, undef, undef, undef, undef, undef, undef, undef, undef, undef, undef, undef, undef, undef, undef, undef, undef, undef, undef, undef, undef, undef, undef, undef, undef, undef, undef, undef, undef, undef, undef, undef, undef, undef, undef, undef, undef, undef, undef, undef, undef, undef, undef, undef, undef, undef, undef, undef, undef, undef, undef, undef, undef, undef, undef, undef, undef, undef, undef, undef, undef, undef, undef, undef, undef, undef, undef, undef, undef, undef, undef, undef, undef, undef, undef, undef, undef, undef, undef, undef, undef, undef, undef, undef, undef, undef, undef, undef, undef, undef, undef, undef, undef, undef, undef, undef, undef, undef, undef, undef, undef, undef, undef, undef, undef, undef, undef, undef, undef, undef, undef, undef, undef, undef, undef, undef, undef, undef, undef, undef, undef, undef, undef, undef, undef, undef, undef, undef, undef, undef, undef, undef, undef, undef, undef, undef, undef, undef, undef, undef, undef, undef, undef, undef, undef, undef, undef, undef, undef, undef, undef, undef, undef, undef])) w = ref15_Of.B4 R pA pn pc firstA firstn firstc numberA numbern numberc outA outn outc i b w := by kernel_rfl
theorem ref15_Of.L4_step {R : Value → World → Prop} {pA : Option Addr} {pn : Nat} {pc : Nat} {firstA : Option Addr} {firstn : Nat} {firstc : Nat} {numberA : Option Addr} {numbern : Nat} {numberc : Nat} {outA : Option Addr} {outn : Nat} {outc : Nat} {i : Int} {b : Addr} {w : World} (h : ref15_Of.B4 R pA pn pc firstA firstn firstc numberA numbern numberc outA outn outc i b w) : ref15_Of.L4 R pA pn pc firstA firstn firstc numberA numbern numberc outA outn outc i b w :=
  loop_step (live := ref15_Of.live) (b := 4) (x := ref15_Of.c4) fun ts => Eq.mpr (ref15_Of.B4_eq R pA pn pc firstA firstn firstc numberA numbern numberc outA outn outc i b w ts) h
theorem ref15_Of.eq (R : Value → World → Prop) (pA : Option Addr) (pn : Nat) (pc : Nat) (w : World) : fnVC Try.prog none ref15_Of.live Try.f19 R [(.slice pA pn pc)] w = ref15_Of.vc R pA pn pc w := by kernel_rfl
set_option maxHeartbeats 4000000 in
theorem ref15_Of.ok {R : Value → World → Prop} {pA : Option Addr} {pn : Nat} {pc : Nat} {w : World} (h : ref15_Of.vc R pA pn pc w) : Run Try.prog 19 #[(.slice pA pn pc)] w R := by
  have h2 := Eq.mpr (ref15_Of.eq R pA pn pc w) h
  exact fn_sound Try.mixed Try.func19 (by kernel_rfl) h2

/-! ### riddle/riddlelaw0.SpoilBlocks: function 27 -/
noncomputable def law0_SpoilBlocks.body : Code := bodyOf Try.f27
def law0_SpoilBlocks.live : Nat → List Nat
  | 0 => [0, 2]
  | _ => []
noncomputable def law0_SpoilBlocks.c0 : Code := sub law0_SpoilBlocks.body [1, 0, 0]
def law0_SpoilBlocks.K0 (R : Value → World → Prop) : Ex → St → World → Prop := (blockK 0 (retK Try.prog Try.f27 R))
def law0_SpoilBlocks.L0 (R : Value → World → Prop) (aA : Option Addr) (an : Nat) (ac : Nat) (i : Int) (w : World) : Prop :=
  loopVC (fun K => code Try.prog none law0_SpoilBlocks.live 0 law0_SpoilBlocks.c0 K) (law0_SpoilBlocks.live 0) (law0_SpoilBlocks.K0 R) [(.slice aA an ac), undef, (.int .i64 i), undef, undef, undef, undef, undef, undef, undef, undef, undef, undef, undef, undef, undef, undef, undef, undef] w
@[reducible] def law0_SpoilBlocks.B0 (R : Value → World → Prop) (aA : Option Addr) (an : Nat) (ac : Nat) (i : Int) (w : World) : Prop :=
  ifP (decide ((i : Int) < ((an : Nat) : Int)))
    (0 ≤ (i : Int) ∧ (i : Int) < ((an : Nat) : Int) ∧ ∃ t11p : Addr, aA = some t11p ∧ ∃ (t13A : Option Addr) (t13n t13c : Nat), w.cell? (t11p.add (Int.toNat i * 8)) = some (.slice t13A t13n t13c) ∧ Run Try.prog 25 #[(.slice t13A t13n t13c)] w fun v w_2 => v = (.tuple #[]) ∧ 0 ≤ (i : Int) ∧ (i : Int) < ((an : Nat) : Int) ∧ ∃ t18p : Addr, aA = some t18p ∧ storeRow (t18p.add (Int.toNat i * 8)) 0 [(.slice none 0 0), (.int .i64 (-7)), (.int .u16 0), (.int .u8 0), (.int .u8 0), (.int .u32 0), (.int .i64 7), (.int .i64 0)] w_2 fun w_3 => law0_SpoilBlocks.L0 R aA an ac (IntKind.i64.wrap (i + 1)) w_3)
    (R (.tuple #[]) w)

@[reducible] def law0_SpoilBlocks.vc (R : Value → World → Prop) (aA : Option Addr) (an : Nat) (ac : Nat) (w : World) : Prop :=
  law0_SpoilBlocks.L0 R aA an ac 0 w

theorem law0_SpoilBlocks.B0_eq (R : Value → World → Prop) (aA : Option Addr) (an : Nat) (ac : Nat) (i : Int) (w : World) (ts : Nat → Value) :
    code Try.prog none law0_SpoilBlocks.live 0 law0_SpoilBlocks.c0 (thenK (fun st w => loopVC (fun K => code Try.prog none law0_SpoilBlocks.live 0 law0_SpoilBlocks.c0 K) (law0_SpoilBlocks.live 0) (law0_SpoilBlocks.K0 R) (clearFrom (law0_SpoilBlocks.live 0) 0 st) w) (law0_SpoilBlocks.K0 R)) (mergeFrom (law0_SpoilBlocks.live 0) ts 0 (clearFrom (law0_SpoilBlocks.live 0) 0 [(.slice aA an ac), undef, (.int .i64 i), undef, undef, undef, undef, undef, undef, undef, undef, undef, undef, undef, undef, undef, undef, undef, undef])) w = law0_SpoilBlocks.B0 R aA an ac i w := by kernel_rfl
theorem law0_SpoilBlocks.L0_step {R : Value → World → Prop} {aA : Option Addr} {an : Nat} {ac : Nat} {i : Int} {w : World} (h : law0_SpoilBlocks.B0 R aA an ac i w) : law0_SpoilBlocks.L0 R aA an ac i w :=
  loop_step (live := law0_SpoilBlocks.live) (b := 0) (x := law0_SpoilBlocks.c0) fun ts => Eq.mpr (law0_SpoilBlocks.B0_eq R aA an ac i w ts) h
theorem law0_SpoilBlocks.eq (R : Value → World → Prop) (aA : Option Addr) (an : Nat) (ac : Nat) (w : World) : fnVC Try.prog none law0_SpoilBlocks.live Try.f27 R [(.slice aA an ac)] w = law0_SpoilBlocks.vc R aA an ac w := by kernel_rfl
set_option maxHeartbeats 4000000 in
theorem law0_SpoilBlocks.ok {R : Value → World → Prop} {aA : Option Addr} {an : Nat} {ac : Nat} {w : World} (h : law0_SpoilBlocks.vc R aA an ac w) : Run Try.prog 27 #[(.slice aA an ac)] w R := by
  have h2 := Eq.mpr (law0_SpoilBlocks.eq R aA an ac w) h
  exact fn_sound Try.mixed Try.func27 (by kernel_rfl) h2

/-! ### riddle/riddlelaw15.GraphOfs: function 5 -/
noncomputable def law15_GraphOfs.body : Code := bodyOf Try.f5
def law15_GraphOfs.live : Nat → List Nat
  | 0 => [3, 6, 8, 10]
  | _ => []
noncomputable def law15_GraphOfs.c0 : Code := sub law15_GraphOfs.body [1, 1, 1, 1, 1, 1, 1, 0, 1, 0, 0]
def law15_GraphOfs.K0 (R : Value → World → Prop) : Ex → St → World → Prop := (blockK 0 (thenK (fun st w => code Try.prog none law15_GraphOfs.live 0 (sub law15_GraphOfs.body [1, 1, 1, 1, 1, 1, 1, 1]) (retK Try.prog Try.f5 R) st w) (retK Try.prog Try.f5 R)))
def law15_GraphOfs.L0 (R : Value → World → Prop) (wantA : Option Addr) (wantn : Nat) (wantc : Nat) (xA : Option Addr) (xn : Nat) (xc : Nat) (yA : Option Addr) (yn : Nat) (yc : Nat) (i : Int) (w : World) : Prop :=
  loopVC (fun K => code Try.prog none law15_GraphOfs.live 0 law15_GraphOfs.c0 K) (law15_GraphOfs.live 0) (law15_GraphOfs.K0 R) [undef, undef, undef, (.slice wantA wantn wantc), undef, undef, (.slice xA xn xc), undef, (.slice yA yn yc), undef, (.int .i64 i), undef, undef, undef, undef, undef, undef, undef, undef, undef, undef, undef, undef, undef, undef, undef, undef, undef, undef, undef, undef, undef, undef, undef, undef, undef, undef, undef, undef, undef, undef, undef, undef, undef, undef, undef, undef, undef, undef, undef, undef, undef, undef, undef, undef, undef, undef, undef, undef, undef, undef, undef, undef, undef, undef, undef, undef, undef, undef, undef, undef, undef, undef, undef, undef, undef, undef, undef, undef, undef, undef, undef, undef, undef, undef, undef, undef, undef] w
def law15_GraphOfs.J1 (R : Value → World → Prop) (wantA : Option Addr) (wantn : Nat) (wantc : Nat) (xA : Option Addr) (xn : Nat) (xc : Nat) (yA : Option Addr) (yn : Nat) (yc : Nat) (i : Int) (t79 : Bool) (w : World) : Prop :=
  ifP t79
    (R (.bool false) w)
    (law15_GraphOfs.L0 R wantA wantn wantc xA xn xc yA yn yc (IntKind.i64.wrap (i + 1)) w)

def law15_GraphOfs.J2 (R : Value → World → Prop) (t2 : Bool) (w : World) : Prop :=
  R (.bool t2) w

@[reducible] def law15_GraphOfs.B0 (R : Value → World → Prop) (wantA : Option Addr) (wantn : Nat) (wantc : Nat) (xA : Option Addr) (xn : Nat) (xc : Nat) (yA : Option Addr) (yn : Nat) (yc : Nat) (i : Int) (w : World) : Prop :=
  ifP (decide ((i : Int) < ((xn : Nat) : Int)))
    (0 ≤ (i : Int) ∧ (i : Int) < ((xn : Nat) : Int) ∧ ∃ t55p : Addr, xA = some t55p ∧ ∃ (t57A : Option Addr) (t57n t57c : Nat), w.cell? (t55p.add (Int.toNat i * 8)) = some (.slice t57A t57n t57c) ∧ Run Try.prog 25 #[(.slice t57A t57n t57c)] w fun v w_2 => v = (.tuple #[]) ∧ ∃ S_ : World → Prop, S_ w_2.drew ∧ letW w_2.drew fun w_3 => ifP (decide ((IntKind.i64.wrap (i + 1) : Int) < ((xn : Nat) : Int))) (0 ≤ (IntKind.i64.wrap (i + 1) : Int) ∧ (IntKind.i64.wrap (i + 1) : Int) < ((xn : Nat) : Int) ∧ ∃ t68p : Addr, xA = some t68p ∧ ∃ (t70A : Option Addr) (t70n t70c : Nat), (∀ u : World, S_ u → u.cell? (t68p.add (Int.toNat (IntKind.i64.wrap (i + 1)) * 8)) = some (.slice t70A t70n t70c)) ∧ 0 ≤ (IntKind.i64.wrap (i + 1) : Int) ∧ (IntKind.i64.wrap (i + 1) : Int) < ((wantn : Nat) : Int) ∧ ∃ t74p : Addr, wantA = some t74p ∧ ∃ (t76A : Option Addr) (t76n t76c : Nat), (∀ u_2 : World, S_ u_2 → u_2.cell? (t74p.add (Int.toNat (IntKind.i64.wrap (i + 1)) * 8)) = some (.slice t76A t76n t76c)) ∧ Run Try.prog 26 #[(.slice t70A t70n t70c), (.slice t76A t76n t76c)] w_3 fun v_2 w_4 => ∃ t77 : Bool, v_2 = (.bool t77) ∧ law15_GraphOfs.J1 R wantA wantn wantc xA xn xc yA yn yc i (!t77) w_4) (law15_GraphOfs.J1 R wantA wantn wantc xA xn xc yA yn yc i false w_3))
    (Run Try.prog 27 #[(.slice xA xn xc)] w fun v_3 w_5 => v_3 = (.tuple #[]) ∧ Run Try.prog 24 #[(.slice yA yn yc), (.slice wantA wantn wantc)] w_5 fun v_4 w_6 => ∃ t84 : Bool, v_4 = (.bool t84) ∧ ifP t84 (Run Try.prog 14 #[] w_6 fun v_5 w_7 => ∃ t86 : Bool, v_5 = (.bool t86) ∧ law15_GraphOfs.J2 R t86 w_7) (law15_GraphOfs.J2 R false w_6))

def law15_GraphOfs.J0 (R : Value → World → Prop) (wantA : Option Addr) (wantn : Nat) (wantc : Nat) (xA : Option Addr) (xn : Nat) (xc : Nat) (yA : Option Addr) (yn : Nat) (yc : Nat) (t46 : Bool) (w : World) : Prop :=
  ifP t46
    (R (.bool false) w)
    (law15_GraphOfs.L0 R wantA wantn wantc xA xn xc yA yn yc 0 w)

@[reducible] def law15_GraphOfs.vc (R : Value → World → Prop) (pA : Option Addr) (pn : Nat) (pc : Nat) (w : World) : Prop :=
  Run Try.prog 19 #[(.slice pA pn pc)] w fun v w_2 => ∃ (t130A : Option Addr) (t130n t130c : Nat), ∃ t131 : Int, v = (.tuple #[(.slice t130A t130n t130c), (.int .i64 t131)]) ∧ Run Try.prog 20 #[(.slice pA pn pc)] w_2 fun v_2 w_3 => ∃ (t17A : Option Addr) (t17n t17c : Nat), v_2 = (.slice t17A t17n t17c) ∧ Run Try.prog 21 #[(.slice t17A t17n t17c)] w_3 fun v_3 w_4 => ∃ (t200A : Option Addr) (t200n t200c : Nat), ∃ t201 : Int, v_3 = (.tuple #[(.slice t200A t200n t200c), (.int .i64 t201)]) ∧ Run Try.prog 22 #[(.slice t17A t17n t17c), (.slice pA pn pc)] w_4 fun v_4 w_5 => ∃ t25 : Bool, v_4 = (.bool t25) ∧ ifP (!t25)
    (R (.bool false) w_5)
    (Run Try.prog 23 #[(.slice pA pn pc)] w_5 fun v_5 w_6 => ∃ (t29A : Option Addr) (t29n t29c : Nat), v_5 = (.slice t29A t29n t29c) ∧ Run Try.prog 21 #[(.slice t29A t29n t29c)] w_6 fun v_6 w_7 => ∃ (t300A : Option Addr) (t300n t300c : Nat), ∃ t301 : Int, v_6 = (.tuple #[(.slice t300A t300n t300c), (.int .i64 t301)]) ∧ ifP ((t201 : Int) != t131) (law15_GraphOfs.J0 R t130A t130n t130c t200A t200n t200c t300A t300n t300c true w_7) (ifP ((t301 : Int) != t131) (law15_GraphOfs.J0 R t130A t130n t130c t200A t200n t200c t300A t300n t300c true w_7) (Run Try.prog 24 #[(.slice t200A t200n t200c), (.slice t130A t130n t130c)] w_7 fun v_7 w_8 => ∃ t44 : Bool, v_7 = (.bool t44) ∧ law15_GraphOfs.J0 R t130A t130n t130c t200A t200n t200c t300A t300n t300c (!t44) w_8)))

theorem law15_GraphOfs.B0_eq (R : Value → World → Prop) (wantA : Option Addr) (wantn : Nat) (wantc : Nat) (xA : Option Addr) (xn : Nat) (xc : Nat) (yA : Option Addr) (yn : Nat) (yc : Nat) (i : Int) (w : World) (ts : Nat → Value) :
    code Try.prog none law15_GraphOfs.live 0 law15_GraphOfs.c0 (thenK (fun st w => loopVC (fun K => code Try.prog none law15_GraphOfs.live 0 law15_GraphOfs.c0 K) (law15_GraphOfs.live 0) (law15_GraphOfs.K0 R) (clearFrom (law15_GraphOfs.live 0) 0 st) w) (law15_GraphOfs.K0 R)) (mergeFrom (law15_GraphOfs.live 0) ts 0 (clearFrom (law15_GraphOfs.live 0) 0 [undef, undef, undef, (.slice wantA wantn wantc), undef, undef, (.slice xA xn xc), undef, (.slice yA yn yc), undef, (.int .i64 i), undef, undef, undef, undef, undef, undef, undef, undef, undef, undef, undef, undef, undef, undef, undef, undef, undef, undef, undef, undef, undef, undef, undef, undef, undef, undef, undef, undef, undef, undef, undef, undef, undef, undef, undef, undef, undef, undef, undef, undef, undef, undef, undef, undef, undef, undef, undef, undef, undef, undef, undef, undef, undef, undef, undef, undef, undef, undef, undef, undef, undef, undef, undef, undef, undef, undef, undef, undef, undef, undef, undef, undef, undef, undef, undef, undef, undef])) w = law15_GraphOfs.B0 R wantA wantn wantc xA xn xc yA yn yc i w := by kernel_rfl
theorem law15_GraphOfs.L0_step {R : Value → World → Prop} {wantA : Option Addr} {wantn : Nat} {wantc : Nat} {xA : Option Addr} {xn : Nat} {xc : Nat} {yA : Option Addr} {yn : Nat} {yc : Nat} {i : Int} {w : World} (h : law15_GraphOfs.B0 R wantA wantn wantc xA xn xc yA yn yc i w) : law15_GraphOfs.L0 R wantA wantn wantc xA xn xc yA yn yc i w :=
  loop_step (live := law15_GraphOfs.live) (b := 0) (x := law15_GraphOfs.c0) fun ts => Eq.mpr (law15_GraphOfs.B0_eq R wantA wantn wantc xA xn xc yA yn yc i w ts) h
theorem law15_GraphOfs.eq (R : Value → World → Prop) (pA : Option Addr) (pn : Nat) (pc : Nat) (w : World) : fnVC Try.prog none law15_GraphOfs.live Try.f5 R [(.slice pA pn pc)] w = law15_GraphOfs.vc R pA pn pc w := by kernel_rfl
set_option maxHeartbeats 4000000 in
theorem law15_GraphOfs.ok {R : Value → World → Prop} {pA : Option Addr} {pn : Nat} {pc : Nat} {w : World} (h : law15_GraphOfs.vc R pA pn pc w) : Run Try.prog 5 #[(.slice pA pn pc)] w R := by
  have h2 := Eq.mpr (law15_GraphOfs.eq R pA pn pc w) h
  exact fn_sound Try.mixed Try.func5 (by kernel_rfl) h2

/-! ### riddle/riddlelaw0.CopyBlocks: function 28 -/
noncomputable def law0_CopyBlocks.body : Code := bodyOf Try.f28
def law0_CopyBlocks.live : Nat → List Nat
  | 0 => [0, 3, 4]
  | _ => []
noncomputable def law0_CopyBlocks.c0 : Code := sub law0_CopyBlocks.body [1, 1, 0, 1, 0, 0]
def law0_CopyBlocks.K0 (R : Value → World → Prop) : Ex → St → World → Prop := (blockK 0 (thenK (fun st w => code Try.prog none law0_CopyBlocks.live 0 (sub law0_CopyBlocks.body [1, 1, 1]) (retK Try.prog Try.f28 R) st w) (retK Try.prog Try.f28 R)))
def law0_CopyBlocks.L0 (R : Value → World → Prop) (aA : Option Addr) (an : Nat) (ac : Nat) (outA : Option Addr) (outn : Nat) (outc : Nat) (i : Int) (w : World) : Prop :=
  loopVC (fun K => code Try.prog none law0_CopyBlocks.live 0 law0_CopyBlocks.c0 K) (law0_CopyBlocks.live 0) (law0_CopyBlocks.K0 R) [(.slice aA an ac), undef, undef, (.slice outA outn outc), (.int .i64 i), undef, undef, undef, undef, undef, undef, undef, undef, undef, undef, undef, undef, undef, undef, undef, undef, undef, undef, undef, undef, undef, undef, undef] w
@[reducible] def law0_CopyBlocks.B0 (R : Value → World → Prop) (aA : Option Addr) (an : Nat) (ac : Nat) (outA : Option Addr) (outn : Nat) (outc : Nat) (i : Int) (w : World) : Prop :=
  ifP (decide ((i : Int) < ((an : Nat) : Int)))
    (0 ≤ (i : Int) ∧ (i : Int) < ((an : Nat) : Int) ∧ ∃ t14p : Addr, aA = some t14p ∧ ∃ (t15_0A : Option Addr) (t15_0n t15_0c : Nat), w.cell? (t14p.add (Int.toNat i * 8)) = some (.slice t15_0A t15_0n t15_0c) ∧ ∃ t15_1 : Int, w.cell? ((t14p.add (Int.toNat i * 8)).add 1) = some (.int .i64 t15_1) ∧ ∃ t15_2 : Int, w.cell? ((t14p.add (Int.toNat i * 8)).add 2) = some (.int .u16 t15_2) ∧ ∃ t15_3 : Int, w.cell? ((t14p.add (Int.toNat i * 8)).add 3) = some (.int .u8 t15_3) ∧ ∃ t15_4 : Int, w.cell? ((t14p.add (Int.toNat i * 8)).add 4) = some (.int .u8 t15_4) ∧ ∃ t15_5 : Int, w.cell? ((t14p.add (Int.toNat i * 8)).add 5) = some (.int .u32 t15_5) ∧ ∃ t15_6 : Int, w.cell? ((t14p.add (Int.toNat i * 8)).add 6) = some (.int .i64 t15_6) ∧ ∃ t15_7 : Int, w.cell? ((t14p.add (Int.toNat i * 8)).add 7) = some (.int .i64 t15_7) ∧ letW (w.alloc (.cells #[(.slice none 0 0), (.int .i64 0), (.int .u16 0), (.int .u8 0), (.int .u8 0), (.int .u32 0), (.int .i64 0), (.int .i64 0)] 49)) fun w_2 => storeRow (newA w) 0 [(.slice t15_0A t15_0n t15_0c), (.int .i64 t15_1), (.int .u16 t15_2), (.int .u8 t15_3), (.int .u8 t15_4), (.int .u32 t15_5), (.int .i64 t15_6), (.int .i64 t15_7)] w_2 fun w_3 => 0 ≤ (i : Int) ∧ (i : Int) < ((an : Nat) : Int) ∧ ∃ t18p : Addr, aA = some t18p ∧ ∃ (t20A : Option Addr) (t20n t20c : Nat), w_3.cell? (t18p.add (Int.toNat i * 8)) = some (.slice t20A t20n t20c) ∧ Run Try.prog 23 #[(.slice t20A t20n t20c)] w_3 fun v w_4 => ∃ (t21A : Option Addr) (t21n t21c : Nat), v = (.slice t21A t21n t21c) ∧ (∃ u : Value, w_4.cell? (newA w) = some u) ∧ w_4.frozen? (newA w) = false ∧ letW (w_4.setCell (newA w) (.slice t21A t21n t21c)) fun w_5 => ∃ (t24_0A : Option Addr) (t24_0n t24_0c : Nat), w_5.cell? (newA w) = some (.slice t24_0A t24_0n t24_0c) ∧ ∃ t24_1 : Int, w_5.cell? ((newA w).add 1) = some (.int .i64 t24_1) ∧ ∃ t24_2 : Int, w_5.cell? ((newA w).add 2) = some (.int .u16 t24_2) ∧ ∃ t24_3 : Int, w_5.cell? ((newA w).add 3) = some (.int .u8 t24_3) ∧ ∃ t24_4 : Int, w_5.cell? ((newA w).add 4) = some (.int .u8 t24_4) ∧ ∃ t24_5 : Int, w_5.cell? ((newA w).add 5) = some (.int .u32 t24_5) ∧ ∃ t24_6 : Int, w_5.cell? ((newA w).add 6) = some (.int .i64 t24_6) ∧ ∃ t24_7 : Int, w_5.cell? ((newA w).add 7) = some (.int .i64 t24_7) ∧ letW (w_5.alloc (.cells #[(.slice t24_0A t24_0n t24_0c), (.int .i64 t24_1), (.int .u16 t24_2), (.int .u8 t24_3), (.int .u8 t24_4), (.int .u32 t24_5), (.int .i64 t24_6), (.int .i64 t24_7)] 49)) fun w_6 => ∃ (v_2 : Value) (w_7 : World), (Builtin.append_ #[22, 22] 22 #[(.slice outA outn outc), (.slice (some (newA w_5)) 1 1)]).run Try.prog w_6 = .ok v_2 w_7 ∧ ∃ (t26A : Option Addr) (t26n t26c : Nat), v_2 = (.slice t26A t26n t26c) ∧ law0_CopyBlocks.L0 R aA an ac t26A t26n t26c (IntKind.i64.wrap (i + 1)) w_7)
    (R (.slice outA outn outc) w)

@[reducible] def law0_CopyBlocks.vc (R : Value → World → Prop) (aA : Option Addr) (an : Nat) (ac : Nat) (w : World) : Prop :=
  law0_CopyBlocks.L0 R aA an ac none 0 0 0 w

theorem law0_CopyBlocks.B0_eq (R : Value → World → Prop) (aA : Option Addr) (an : Nat) (ac : Nat) (outA : Option Addr) (outn : Nat) (outc : Nat) (i : Int) (w : World) (ts : Nat → Value) :
    code Try.prog none law0_CopyBlocks.live 0 law0_CopyBlocks.c0 (thenK (fun st w => loopVC (fun K => code Try.prog none law0_CopyBlocks.live 0 law0_CopyBlocks.c0 K) (law0_CopyBlocks.live 0) (law0_CopyBlocks.K0 R) (clearFrom (law0_CopyBlocks.live 0) 0 st) w) (law0_CopyBlocks.K0 R)) (mergeFrom (law0_CopyBlocks.live 0) ts 0 (clearFrom (law0_CopyBlocks.live 0) 0 [(.slice aA an ac), undef, undef, (.slice outA outn outc), (.int .i64 i), undef, undef, undef, undef, undef, undef, undef, undef, undef, undef, undef, undef, undef, undef, undef, undef, undef, undef, undef, undef, undef, undef, undef])) w = law0_CopyBlocks.B0 R aA an ac outA outn outc i w := by kernel_rfl
theorem law0_CopyBlocks.L0_step {R : Value → World → Prop} {aA : Option Addr} {an : Nat} {ac : Nat} {outA : Option Addr} {outn : Nat} {outc : Nat} {i : Int} {w : World} (h : law0_CopyBlocks.B0 R aA an ac outA outn outc i w) : law0_CopyBlocks.L0 R aA an ac outA outn outc i w :=
  loop_step (live := law0_CopyBlocks.live) (b := 0) (x := law0_CopyBlocks.c0) fun ts => Eq.mpr (law0_CopyBlocks.B0_eq R aA an ac outA outn outc i w ts) h
theorem law0_CopyBlocks.eq (R : Value → World → Prop) (aA : Option Addr) (an : Nat) (ac : Nat) (w : World) : fnVC Try.prog none law0_CopyBlocks.live Try.f28 R [(.slice aA an ac)] w = law0_CopyBlocks.vc R aA an ac w := by kernel_rfl
set_option maxHeartbeats 4000000 in
theorem law0_CopyBlocks.ok {R : Value → World → Prop} {aA : Option Addr} {an : Nat} {ac : Nat} {w : World} (h : law0_CopyBlocks.vc R aA an ac w) : Run Try.prog 28 #[(.slice aA an ac)] w R := by
  have h2 := Eq.mpr (law0_CopyBlocks.eq R aA an ac w) h
  exact fn_sound Try.mixed Try.func28 (by kernel_rfl) h2

/-! ### riddle/riddlelaw15.GraphBehind: function 6 -/
noncomputable def law15_GraphBehind.body : Code := bodyOf Try.f6
def law15_GraphBehind.live : Nat → List Nat
  | 0 => [0, 1, 2, 7, 10, 11, 12, 13]
  | _ => []
noncomputable def law15_GraphBehind.c0 : Code := sub law15_GraphBehind.body [1, 1, 1, 1, 1, 1, 0, 1, 0, 0]
def law15_GraphBehind.K0 (R : Value → World → Prop) : Ex → St → World → Prop := (blockK 0 (thenK (fun st w => code Try.prog none law15_GraphBehind.live 0 (sub law15_GraphBehind.body [1, 1, 1, 1, 1, 1, 1]) (retK Try.prog Try.f6 R) st w) (retK Try.prog Try.f6 R)))
def law15_GraphBehind.L0 (R : Value → World → Prop) (gA : Option Addr) (gn : Nat) (gc : Nat) (packetA : Option Addr) (packetn : Nat) (packetc : Nat) (k : Int) (v : Addr) (w : Addr) (f : Int) (many : Int) (i : Int) (w_2 : World) : Prop :=
  loopVC (fun K => code Try.prog none law15_GraphBehind.live 0 law15_GraphBehind.c0 K) (law15_GraphBehind.live 0) (law15_GraphBehind.K0 R) [(.slice gA gn gc), (.slice packetA packetn packetc), (.int .u32 k), undef, undef, undef, undef, (.pointer (some v)), undef, undef, (.pointer (some w)), (.int .i64 f), (.int .i64 many), (.int .i64 i), undef, undef, undef, undef, undef, undef, undef, undef, undef, undef, undef, undef, undef, undef, undef, undef, undef, undef, undef, undef, undef, undef, undef, undef, undef, undef, undef, undef, undef, undef, undef, undef, undef, undef, undef, undef, undef, undef, undef, undef, undef, undef, undef, undef, undef, undef, undef, undef, undef, undef, undef, undef, undef, undef, undef, undef, undef, undef, undef, undef, undef, undef, undef, undef, undef, undef, undef, undef, undef, undef, undef, undef, undef, undef, undef, undef, undef, undef, undef, undef, undef, undef, undef, undef, undef, undef, undef, undef, undef, undef, undef, undef] w_2
def law15_GraphBehind.J2 (R : Value → World → Prop) (t6 : Bool) (w : World) : Prop :=
  R (.bool t6) w

def law15_GraphBehind.J1 (R : Value → World → Prop) (gA : Option Addr) (gn : Nat) (gc : Nat) (packetA : Option Addr) (packetn : Nat) (packetc : Nat) (k : Int) (v : Addr) (many : Int) (t67 : Bool) (w : World) : Prop :=
  ifP t67
    (R (.bool false) w)
    (ifP (decide ((many : Int) > 4094))
    (Run Try.prog 14 #[] w fun v_2 w_2 => ∃ t70 : Bool, v_2 = (.bool t70) ∧ R (.bool t70) w_2)
    (Run Try.prog 28 #[(.slice gA gn gc)] w fun v_3 w_3 => ∃ (t72A : Option Addr) (t72n t72c : Nat), v_3 = (.slice t72A t72n t72c) ∧ letW (w_3.alloc (.cells #[(.int .u16 0), (.int .u8 0), (.int .u8 0), (.int .u32 k), (.int .u16 0), (.int .u8 0), (.int .u8 0), (.int .u32 0)] 47)) fun w_4 => 0 ≤ (0 : Int) ∧ (0 : Int) < ((t72n : Nat) : Int) ∧ ∃ t79p : Addr, t72A = some t79p ∧ ∃ (t81A : Option Addr) (t81n t81c : Nat), w_4.cell? (t79p.add (Int.toNat 0 * 8)) = some (.slice t81A t81n t81c) ∧ ∃ (v_4 : Value) (w_5 : World), (Builtin.append_ #[39, 39] 39 #[(.slice (some (newA w_3)) 2 2), (.slice t81A t81n t81c)]).run Try.prog w_4 = .ok v_4 w_5 ∧ ∃ (t82A : Option Addr) (t82n t82c : Nat), v_4 = (.slice t82A t82n t82c) ∧ 0 ≤ (0 : Int) ∧ (0 : Int) < ((t72n : Nat) : Int) ∧ ∃ t83p : Addr, t72A = some t83p ∧ (∃ u : Value, w_5.cell? (t83p.add (Int.toNat 0 * 8)) = some u) ∧ w_5.frozen? (t83p.add (Int.toNat 0 * 8)) = false ∧ letW (w_5.setCell (t83p.add (Int.toNat 0 * 8)) (.slice t82A t82n t82c)) fun w_6 => Run Try.prog 29 #[(.slice packetA packetn packetc)] w_6 fun v_5 w_7 => ∃ (t88A : Option Addr) (t88n t88c : Nat), v_5 = (.slice t88A t88n t88c) ∧ Run Try.prog 17 #[(.slice t72A t72n t72c), (.slice t88A t88n t88c)] w_7 fun v_6 w_8 => ∃ t890_0 : Int, ∃ t890_1 : Int, ∃ t890_2 : Int, ∃ t891 : Int, v_6 = (.tuple #[(.agg #[(.int .u32 t890_0), (.int .i64 t890_1), (.int .i64 t890_2)]), (.int .i64 t891)]) ∧ letW (w_8.alloc (.cells #[(.int .u32 0), (.int .i64 0), (.int .i64 0)] 33)) fun w_9 => storeRow (newA w_8) 0 [(.int .u32 t890_0), (.int .i64 t890_1), (.int .i64 t890_2)] w_9 fun w_10 => ∃ t93 : Int, w_10.cell? (v.add 2) = some (.int .i64 t93) ∧ (∃ u : Value, w_10.cell? (v.add 2) = some u) ∧ w_10.frozen? (v.add 2) = false ∧ letW (w_10.setCell (v.add 2) (.int .i64 (IntKind.i64.wrap (t93 + 2)))) fun w_11 => ifP ((t891 : Int) == 0) (∃ t99_0 : Int, w_11.cell? (newA w_8) = some (.int .u32 t99_0) ∧ ∃ t99_1 : Int, w_11.cell? ((newA w_8).add 1) = some (.int .i64 t99_1) ∧ ∃ t99_2 : Int, w_11.cell? ((newA w_8).add 2) = some (.int .i64 t99_2) ∧ ∃ t100_0 : Int, w_11.cell? v = some (.int .u32 t100_0) ∧ ∃ t100_1 : Int, w_11.cell? (v.add 1) = some (.int .i64 t100_1) ∧ ∃ t100_2 : Int, w_11.cell? (v.add 2) = some (.int .i64 t100_2) ∧ ∃ (v_7 : Value) (w_12 : World), (eqSem .eql 33 (.tmp 99) (.tmp 100) (.agg #[(.int .u32 t99_0), (.int .i64 t99_1), (.int .i64 t99_2)]) (.agg #[(.int .u32 t100_0), (.int .i64 t100_1), (.int .i64 t100_2)])).run Try.prog w_11 = .ok v_7 w_12 ∧ ∃ t101 : Bool, v_7 = (.bool t101) ∧ ifP t101 (Run Try.prog 14 #[] w_12 fun v_8 w_13 => ∃ t104 : Bool, v_8 = (.bool t104) ∧ law15_GraphBehind.J2 R t104 w_13) (law15_GraphBehind.J2 R false w_12)) (law15_GraphBehind.J2 R false w_11)))

@[reducible] def law15_GraphBehind.B0 (R : Value → World → Prop) (gA : Option Addr) (gn : Nat) (gc : Nat) (packetA : Option Addr) (packetn : Nat) (packetc : Nat) (k : Int) (v : Addr) (w : Addr) (f : Int) (many : Int) (i : Int) (w_2 : World) : Prop :=
  ifP (decide ((i : Int) < ((gn : Nat) : Int)))
    (0 ≤ (i : Int) ∧ (i : Int) < ((gn : Nat) : Int) ∧ ∃ t56p : Addr, gA = some t56p ∧ ∃ (t58A : Option Addr) (t58n t58c : Nat), w_2.cell? (t56p.add (Int.toNat i * 8)) = some (.slice t58A t58n t58c) ∧ law15_GraphBehind.L0 R gA gn gc packetA packetn packetc k v w f (IntKind.i64.wrap (many + ((t58n : Nat) : Int))) (IntKind.i64.wrap (i + 1)) w_2)
    (ifP ((f : Int) != 0) (law15_GraphBehind.J1 R gA gn gc packetA packetn packetc k v many true w_2) (∃ t64_0 : Int, w_2.cell? w = some (.int .u32 t64_0) ∧ ∃ t64_1 : Int, w_2.cell? (w.add 1) = some (.int .i64 t64_1) ∧ ∃ t64_2 : Int, w_2.cell? (w.add 2) = some (.int .i64 t64_2) ∧ ∃ t65_0 : Int, w_2.cell? v = some (.int .u32 t65_0) ∧ ∃ t65_1 : Int, w_2.cell? (v.add 1) = some (.int .i64 t65_1) ∧ ∃ t65_2 : Int, w_2.cell? (v.add 2) = some (.int .i64 t65_2) ∧ ∃ (v_2 : Value) (w_3 : World), (eqSem .neq 33 (.tmp 64) (.tmp 65) (.agg #[(.int .u32 t64_0), (.int .i64 t64_1), (.int .i64 t64_2)]) (.agg #[(.int .u32 t65_0), (.int .i64 t65_1), (.int .i64 t65_2)])).run Try.prog w_2 = .ok v_2 w_3 ∧ ∃ t66 : Bool, v_2 = (.bool t66) ∧ law15_GraphBehind.J1 R gA gn gc packetA packetn packetc k v many t66 w_3))

def law15_GraphBehind.J0 (R : Value → World → Prop) (gA : Option Addr) (gn : Nat) (gc : Nat) (packetA : Option Addr) (packetn : Nat) (packetc : Nat) (k : Int) (v : Addr) (t31 : Bool) (w : World) : Prop :=
  ifP t31
    (Run Try.prog 14 #[] w fun v_2 w_2 => ∃ t32 : Bool, v_2 = (.bool t32) ∧ R (.bool t32) w_2)
    (Run Try.prog 28 #[(.slice gA gn gc)] w fun v_3 w_3 => ∃ (t34A : Option Addr) (t34n t34c : Nat), v_3 = (.slice t34A t34n t34c) ∧ letW (w_3.alloc (.cells #[(.slice none 0 0), (.int .i64 1), (.int .u16 6), (.int .u8 0), (.int .u8 0), (.int .u32 k), (.int .i64 0), (.int .i64 0)] 49)) fun w_4 => ∃ (v_4 : Value) (w_5 : World), (Builtin.append_ #[22, 22] 22 #[(.slice t34A t34n t34c), (.slice (some (newA w_3)) 1 1)]).run Try.prog w_4 = .ok v_4 w_5 ∧ ∃ (t39A : Option Addr) (t39n t39c : Nat), v_4 = (.slice t39A t39n t39c) ∧ Run Try.prog 29 #[(.slice packetA packetn packetc)] w_5 fun v_5 w_6 => ∃ (t43A : Option Addr) (t43n t43c : Nat), v_5 = (.slice t43A t43n t43c) ∧ Run Try.prog 17 #[(.slice t39A t39n t39c), (.slice t43A t43n t43c)] w_6 fun v_6 w_7 => ∃ t440_0 : Int, ∃ t440_1 : Int, ∃ t440_2 : Int, ∃ t441 : Int, v_6 = (.tuple #[(.agg #[(.int .u32 t440_0), (.int .i64 t440_1), (.int .i64 t440_2)]), (.int .i64 t441)]) ∧ letW (w_7.alloc (.cells #[(.int .u32 0), (.int .i64 0), (.int .i64 0)] 33)) fun w_8 => storeRow (newA w_7) 0 [(.int .u32 t440_0), (.int .i64 t440_1), (.int .i64 t440_2)] w_8 fun w_9 => law15_GraphBehind.L0 R gA gn gc packetA packetn packetc k v (newA w_7) t441 0 0 w_9)

@[reducible] def law15_GraphBehind.vc (R : Value → World → Prop) (gA : Option Addr) (gn : Nat) (gc : Nat) (packetA : Option Addr) (packetn : Nat) (packetc : Nat) (k : Int) (w : World) : Prop :=
  Run Try.prog 28 #[(.slice gA gn gc)] w fun v w_2 => ∃ (t19A : Option Addr) (t19n t19c : Nat), v = (.slice t19A t19n t19c) ∧ Run Try.prog 29 #[(.slice packetA packetn packetc)] w_2 fun v_2 w_3 => ∃ (t21A : Option Addr) (t21n t21c : Nat), v_2 = (.slice t21A t21n t21c) ∧ Run Try.prog 17 #[(.slice t19A t19n t19c), (.slice t21A t21n t21c)] w_3 fun v_3 w_4 => ∃ t220_0 : Int, ∃ t220_1 : Int, ∃ t220_2 : Int, ∃ t221 : Int, v_3 = (.tuple #[(.agg #[(.int .u32 t220_0), (.int .i64 t220_1), (.int .i64 t220_2)]), (.int .i64 t221)]) ∧ letW (w_4.alloc (.cells #[(.int .u32 0), (.int .i64 0), (.int .i64 0)] 33)) fun w_5 => storeRow (newA w_4) 0 [(.int .u32 t220_0), (.int .i64 t220_1), (.int .i64 t220_2)] w_5 fun w_6 => ifP ((t221 : Int) != 0) (law15_GraphBehind.J0 R gA gn gc packetA packetn packetc k (newA w_4) true w_6) (law15_GraphBehind.J0 R gA gn gc packetA packetn packetc k (newA w_4) (decide ((((gn : Nat) : Int) : Int) ≥ 4096)) w_6)

theorem law15_GraphBehind.B0_eq (R : Value → World → Prop) (gA : Option Addr) (gn : Nat) (gc : Nat) (packetA : Option Addr) (packetn : Nat) (packetc : Nat) (k : Int) (v : Addr) (w : Addr) (f : Int) (many : Int) (i : Int) (w_2 : World) (ts : Nat → Value) :
    code Try.prog none law15_GraphBehind.live 0 law15_GraphBehind.c0 (thenK (fun st w => loopVC (fun K => code Try.prog none law15_GraphBehind.live 0 law15_GraphBehind.c0 K) (law15_GraphBehind.live 0) (law15_GraphBehind.K0 R) (clearFrom (law15_GraphBehind.live 0) 0 st) w) (law15_GraphBehind.K0 R)) (mergeFrom (law15_GraphBehind.live 0) ts 0 (clearFrom (law15_GraphBehind.live 0) 0 [(.slice gA gn gc), (.slice packetA packetn packetc), (.int .u32 k), undef, undef, undef, undef, (.pointer (some v)), undef, undef, (.pointer (some w)), (.int .i64 f), (.int .i64 many), (.int .i64 i), undef, undef, undef, undef, undef, undef, undef, undef, undef, undef, undef, undef, undef, undef, undef, undef, undef, undef, undef, undef, undef, undef, undef, undef, undef, undef, undef, undef, undef, undef, undef, undef, undef, undef, undef, undef, undef, undef, undef, undef, undef, undef, undef, undef, undef, undef, undef, undef, undef, undef, undef, undef, undef, undef, undef, undef, undef, undef, undef, undef, undef, undef, undef, undef, undef, undef, undef, undef, undef, undef, undef, undef, undef, undef, undef, undef, undef, undef, undef, undef, undef, undef, undef, undef, undef, undef, undef, undef, undef, undef, undef, undef])) w_2 = law15_GraphBehind.B0 R gA gn gc packetA packetn packetc k v w f many i w_2 := by kernel_rfl
theorem law15_GraphBehind.L0_step {R : Value → World → Prop} {gA : Option Addr} {gn : Nat} {gc : Nat} {packetA : Option Addr} {packetn : Nat} {packetc : Nat} {k : Int} {v : Addr} {w : Addr} {f : Int} {many : Int} {i : Int} {w_2 : World} (h : law15_GraphBehind.B0 R gA gn gc packetA packetn packetc k v w f many i w_2) : law15_GraphBehind.L0 R gA gn gc packetA packetn packetc k v w f many i w_2 :=
  loop_step (live := law15_GraphBehind.live) (b := 0) (x := law15_GraphBehind.c0) fun ts => Eq.mpr (law15_GraphBehind.B0_eq R gA gn gc packetA packetn packetc k v w f many i w_2 ts) h
theorem law15_GraphBehind.eq (R : Value → World → Prop) (gA : Option Addr) (gn : Nat) (gc : Nat) (packetA : Option Addr) (packetn : Nat) (packetc : Nat) (k : Int) (w : World) : fnVC Try.prog none law15_GraphBehind.live Try.f6 R [(.slice gA gn gc), (.slice packetA packetn packetc), (.int .u32 k)] w = law15_GraphBehind.vc R gA gn gc packetA packetn packetc k w := by kernel_rfl
set_option maxHeartbeats 4000000 in
theorem law15_GraphBehind.ok {R : Value → World → Prop} {gA : Option Addr} {gn : Nat} {gc : Nat} {packetA : Option Addr} {packetn : Nat} {packetc : Nat} {k : Int} {w : World} (h : law15_GraphBehind.vc R gA gn gc packetA packetn packetc k w) : Run Try.prog 6 #[(.slice gA gn gc), (.slice packetA packetn packetc), (.int .u32 k)] w R := by
  have h2 := Eq.mpr (law15_GraphBehind.eq R gA gn gc packetA packetn packetc k w) h
  exact fn_sound Try.mixed Try.func6 (by kernel_rfl) h2

/-! ### riddle/graph.Reach: function 33 -/
noncomputable def graph_Reach.body : Code := bodyOf Try.f33
def graph_Reach.live : Nat → List Nat
  | 0 => [0, 5, 6]
  | 2 => [0, 5, 6, 45, 46, 47]
  | _ => []
noncomputable def graph_Reach.c0 : Code := sub graph_Reach.body [1, 0, 1, 1, 1, 1, 1, 0, 0, 0]
noncomputable def graph_Reach.c2 : Code := sub graph_Reach.body [1, 0, 1, 1, 1, 1, 1, 0, 0, 0, 1, 0, 1, 1, 1, 1, 0, 0]
def graph_Reach.K0 (R : Value → World → Prop) : Ex → St → World → Prop := (blockK 0 (thenK (fun st w => code Try.prog none graph_Reach.live 0 (sub graph_Reach.body [1, 0, 1, 1, 1, 1, 1, 1]) (retK Try.prog Try.f33 R) st w) (retK Try.prog Try.f33 R)))
def graph_Reach.L0 (R : Value → World → Prop) (gA : Option Addr) (gn : Nat) (gc : Nat) (outA : Option Addr) (outn : Nat) (outc : Nat) (listA : Option Addr) (listn : Nat) (listc : Nat) (w : World) : Prop :=
  loopVC (fun K => code Try.prog none graph_Reach.live 0 graph_Reach.c0 K) (graph_Reach.live 0) (graph_Reach.K0 R) [(.slice gA gn gc), undef, undef, undef, undef, (.slice outA outn outc), (.slice listA listn listc), undef, undef, undef, undef, undef, undef, undef, undef, undef, undef, undef, undef, undef, undef, undef, undef, undef, undef, undef, undef, undef, undef, undef, undef, undef, undef, undef, undef, undef, undef, undef, undef, undef, undef, undef, undef, undef, undef, undef, undef, undef, undef, undef, undef, undef, undef, undef, undef, undef, undef, undef, undef, undef, undef, undef, undef, undef, undef] w
def graph_Reach.K2 (R : Value → World → Prop) : Ex → St → World → Prop := (blockK 2 (blockK 1 (thenK (fun st w => loopVC (fun K => code Try.prog none graph_Reach.live 0 graph_Reach.c0 K) (graph_Reach.live 0) (graph_Reach.K0 R) (clearFrom (graph_Reach.live 0) 0 st) w) (graph_Reach.K0 R))))
def graph_Reach.L2 (R : Value → World → Prop) (gA : Option Addr) (gn : Nat) (gc : Nat) (outA : Option Addr) (outn : Nat) (outc : Nat) (listA : Option Addr) (listn : Nat) (listc : Nat) (t45A : Option Addr) (t45n : Nat) (t45c : Nat) (t46 : Int) (t47 : Int) (w : World) : Prop :=
  loopVC (fun K => code Try.prog none graph_Reach.live 2 graph_Reach.c2 K) (graph_Reach.live 2) (graph_Reach.K2 R) [(.slice gA gn gc), undef, undef, undef, undef, (.slice outA outn outc), (.slice listA listn listc), undef, undef, undef, undef, undef, undef, undef, undef, undef, undef, undef, undef, undef, undef, undef, undef, undef, undef, undef, undef, undef, undef, undef, undef, undef, undef, undef, undef, undef, undef, undef, undef, undef, undef, undef, undef, undef, undef, (.slice t45A t45n t45c), (.int .i64 t46), (.int .i64 t47), undef, undef, undef, undef, undef, undef, undef, undef, undef, undef, undef, undef, undef, undef, undef, undef, undef] w
def graph_Reach.J0 (R : Value → World → Prop) (gA : Option Addr) (gn : Nat) (gc : Nat) (outA : Option Addr) (outn : Nat) (outc : Nat) (listA : Option Addr) (listn : Nat) (listc : Nat) (t45A : Option Addr) (t45n : Nat) (t45c : Nat) (t46 : Int) (t47 : Int) (w : World) : Prop :=
  graph_Reach.L2 R gA gn gc outA outn outc listA listn listc t45A t45n t45c t46 (IntKind.i64.wrap (t47 + 1)) w

@[reducible] def graph_Reach.B2 (R : Value → World → Prop) (gA : Option Addr) (gn : Nat) (gc : Nat) (outA : Option Addr) (outn : Nat) (outc : Nat) (listA : Option Addr) (listn : Nat) (listc : Nat) (t45A : Option Addr) (t45n : Nat) (t45c : Nat) (t46 : Int) (t47 : Int) (w : World) : Prop :=
  ifP (decide ((t47 : Int) < t46))
    (0 ≤ (t47 : Int) ∧ (t47 : Int) < ((t45n : Nat) : Int) ∧ ∃ t49p : Addr, t45A = some t49p ∧ ∃ t50 : Int, w.cell? (t49p.add (Int.toNat t47 * 1)) = some (.int .i64 t50) ∧ 0 ≤ (t50 : Int) ∧ (t50 : Int) < ((outn : Nat) : Int) ∧ ∃ t53p : Addr, outA = some t53p ∧ ∃ t54 : Bool, w.cell? (t53p.add (Int.toNat t50 * 1)) = some (.bool t54) ∧ ifP (!t54)
    (0 ≤ (t50 : Int) ∧ (t50 : Int) < ((outn : Nat) : Int) ∧ ∃ t58p : Addr, outA = some t58p ∧ (∃ u : Value, w.cell? (t58p.add (Int.toNat t50 * 1)) = some u) ∧ w.frozen? (t58p.add (Int.toNat t50 * 1)) = false ∧ letW (w.setCell (t58p.add (Int.toNat t50 * 1)) (.bool true)) fun w_2 => letW (w_2.alloc (.cells #[(.int .i64 t50)] 3)) fun w_3 => ∃ (v : Value) (w_4 : World), (Builtin.append_ #[62, 62] 62 #[(.slice listA listn listc), (.slice (some (newA w_2)) 1 1)]).run Try.prog w_3 = .ok v w_4 ∧ ∃ (t62A : Option Addr) (t62n t62c : Nat), v = (.slice t62A t62n t62c) ∧ graph_Reach.J0 R gA gn gc outA outn outc t62A t62n t62c t45A t45n t45c t46 t47 w_4)
    (graph_Reach.J0 R gA gn gc outA outn outc listA listn listc t45A t45n t45c t46 t47 w))
    (graph_Reach.L0 R gA gn gc outA outn outc listA listn listc w)

@[reducible] def graph_Reach.B0 (R : Value → World → Prop) (gA : Option Addr) (gn : Nat) (gc : Nat) (outA : Option Addr) (outn : Nat) (outc : Nat) (listA : Option Addr) (listn : Nat) (listc : Nat) (w : World) : Prop :=
  ifP (decide ((((listn : Nat) : Int) : Int) > 0))
    (0 ≤ (IntKind.i64.wrap (((listn : Nat) : Int) - 1) : Int) ∧ (IntKind.i64.wrap (((listn : Nat) : Int) - 1) : Int) < ((listn : Nat) : Int) ∧ ∃ t28p : Addr, listA = some t28p ∧ ∃ t29 : Int, w.cell? (t28p.add (Int.toNat (IntKind.i64.wrap (((listn : Nat) : Int) - 1)) * 1)) = some (.int .i64 t29) ∧ (0 : Int) ≤ 0 ∧ (0 : Int) ≤ IntKind.i64.wrap (((listn : Nat) : Int) - 1) ∧ (IntKind.i64.wrap (((listn : Nat) : Int) - 1) : Int) ≤ ((listc : Nat) : Int) ∧ 0 ≤ (t29 : Int) ∧ (t29 : Int) < ((gn : Nat) : Int) ∧ ∃ t37p : Addr, gA = some t37p ∧ ∃ t39 : Int, w.cell? ((t37p.add (Int.toNat t29 * 8)).add 1) = some (.int .i64 t39) ∧ ifP ((t39 : Int) == 1)
    (graph_Reach.L0 R gA gn gc outA outn outc (subA listA listc 0 1) ((Int.toNat (IntKind.i64.wrap (((listn : Nat) : Int) - 1))) - 0) (listc - 0) w)
    (0 ≤ (t29 : Int) ∧ (t29 : Int) < ((gn : Nat) : Int) ∧ ∃ t43p : Addr, gA = some t43p ∧ ∃ (t44_0A : Option Addr) (t44_0n t44_0c : Nat), w.cell? (t43p.add (Int.toNat t29 * 8)) = some (.slice t44_0A t44_0n t44_0c) ∧ ∃ t44_1 : Int, w.cell? ((t43p.add (Int.toNat t29 * 8)).add 1) = some (.int .i64 t44_1) ∧ ∃ t44_2 : Int, w.cell? ((t43p.add (Int.toNat t29 * 8)).add 2) = some (.int .u16 t44_2) ∧ ∃ t44_3 : Int, w.cell? ((t43p.add (Int.toNat t29 * 8)).add 3) = some (.int .u8 t44_3) ∧ ∃ t44_4 : Int, w.cell? ((t43p.add (Int.toNat t29 * 8)).add 4) = some (.int .u8 t44_4) ∧ ∃ t44_5 : Int, w.cell? ((t43p.add (Int.toNat t29 * 8)).add 5) = some (.int .u32 t44_5) ∧ ∃ t44_6 : Int, w.cell? ((t43p.add (Int.toNat t29 * 8)).add 6) = some (.int .i64 t44_6) ∧ ∃ t44_7 : Int, w.cell? ((t43p.add (Int.toNat t29 * 8)).add 7) = some (.int .i64 t44_7) ∧ Run Try.prog 62 #[(.agg #[(.slice t44_0A t44_0n t44_0c), (.int .i64 t44_1), (.int .u16 t44_2), (.int .u8 t44_3), (.int .u8 t44_4), (.int .u32 t44_5), (.int .i64 t44_6), (.int .i64 t44_7)])] w fun v w_2 => ∃ (t45A : Option Addr) (t45n t45c : Nat), v = (.slice t45A t45n t45c) ∧ graph_Reach.L2 R gA gn gc outA outn outc (subA listA listc 0 1) ((Int.toNat (IntKind.i64.wrap (((listn : Nat) : Int) - 1))) - 0) (listc - 0) t45A t45n t45c ((t45n : Nat) : Int) 0 w_2))
    (R (.tuple #[(.slice outA outn outc), (.int .i64 0)]) w)

@[reducible] def graph_Reach.vc (R : Value → World → Prop) (gA : Option Addr) (gn : Nat) (gc : Nat) (w : World) : Prop :=
  Run Try.prog 48 #[(.slice gA gn gc)] w fun v w_2 => ∃ t11 : Int, v = (.int .i64 t11) ∧ ifP ((t11 : Int) != 0)
    (R (.tuple #[(.slice none 0 0), (.int .i64 t11)]) w_2)
    (∃ (v_2 : Value) (w_3 : World), (Instr.makeSlice 53 (.int .i64 ((gn : Nat) : Int)) (.int .i64 ((gn : Nat) : Int))).run Try.prog w_2 = .ok v_2 w_3 ∧ ∃ (t17A : Option Addr) (t17n t17c : Nat), v_2 = (.slice t17A t17n t17c) ∧ letW (w_3.alloc (.cells #[(.int .i64 0)] 3)) fun w_4 => 0 ≤ (0 : Int) ∧ (0 : Int) < ((t17n : Nat) : Int) ∧ ∃ t20p : Addr, t17A = some t20p ∧ (∃ u : Value, w_4.cell? (t20p.add (Int.toNat 0 * 1)) = some u) ∧ w_4.frozen? (t20p.add (Int.toNat 0 * 1)) = false ∧ letW (w_4.setCell (t20p.add (Int.toNat 0 * 1)) (.bool true)) fun w_5 => graph_Reach.L0 R gA gn gc t17A t17n t17c (some (newA w_3)) 1 1 w_5)

theorem graph_Reach.B0_eq (R : Value → World → Prop) (gA : Option Addr) (gn : Nat) (gc : Nat) (outA : Option Addr) (outn : Nat) (outc : Nat) (listA : Option Addr) (listn : Nat) (listc : Nat) (w : World) (ts : Nat → Value) :
    code Try.prog none graph_Reach.live 0 graph_Reach.c0 (thenK (fun st w => loopVC (fun K => code Try.prog none graph_Reach.live 0 graph_Reach.c0 K) (graph_Reach.live 0) (graph_Reach.K0 R) (clearFrom (graph_Reach.live 0) 0 st) w) (graph_Reach.K0 R)) (mergeFrom (graph_Reach.live 0) ts 0 (clearFrom (graph_Reach.live 0) 0 [(.slice gA gn gc), undef, undef, undef, undef, (.slice outA outn outc), (.slice listA listn listc), undef, undef, undef, undef, undef, undef, undef, undef, undef, undef, undef, undef, undef, undef, undef, undef, undef, undef, undef, undef, undef, undef, undef, undef, undef, undef, undef, undef, undef, undef, undef, undef, undef, undef, undef, undef, undef, undef, undef, undef, undef, undef, undef, undef, undef, undef, undef, undef, undef, undef, undef, undef, undef, undef, undef, undef, undef, undef])) w = graph_Reach.B0 R gA gn gc outA outn outc listA listn listc w := by kernel_rfl
theorem graph_Reach.L0_step {R : Value → World → Prop} {gA : Option Addr} {gn : Nat} {gc : Nat} {outA : Option Addr} {outn : Nat} {outc : Nat} {listA : Option Addr} {listn : Nat} {listc : Nat} {w : World} (h : graph_Reach.B0 R gA gn gc outA outn outc listA listn listc w) : graph_Reach.L0 R gA gn gc outA outn outc listA listn listc w :=
  loop_step (live := graph_Reach.live) (b := 0) (x := graph_Reach.c0) fun ts => Eq.mpr (graph_Reach.B0_eq R gA gn gc outA outn outc listA listn listc w ts) h
theorem graph_Reach.B2_eq (R : Value → World → Prop) (gA : Option Addr) (gn : Nat) (gc : Nat) (outA : Option Addr) (outn : Nat) (outc : Nat) (listA : Option Addr) (listn : Nat) (listc : Nat) (t45A : Option Addr) (t45n : Nat) (t45c : Nat) (t46 : Int) (t47 : Int) (w : World) (ts : Nat → Value) :
    code Try.prog none graph_Reach.live 2 graph_Reach.c2 (thenK (fun st w => loopVC (fun K => code Try.prog none graph_Reach.live 2 graph_Reach.c2 K) (graph_Reach.live 2) (graph_Reach.K2 R) (clearFrom (graph_Reach.live 2) 0 st) w) (graph_Reach.K2 R)) (mergeFrom (graph_Reach.live 2) ts 0 (clearFrom (graph_Reach.live 2) 0 [(.slice gA gn gc), undef, undef, undef, undef, (.slice outA outn outc), (.slice listA listn listc), undef, undef, undef, undef, undef, undef, undef, undef, undef, undef, undef, undef, undef, undef, undef, undef, undef, undef, undef, undef, undef, undef, undef, undef, undef, undef, undef, undef, undef, undef, undef, undef, undef, undef, undef, undef, undef, undef, (.slice t45A t45n t45c), (.int .i64 t46), (.int .i64 t47), undef, undef, undef, undef, undef, undef, undef, undef, undef, undef, undef, undef, undef, undef, undef, undef, undef])) w = graph_Reach.B2 R gA gn gc outA outn outc listA listn listc t45A t45n t45c t46 t47 w := by kernel_rfl
theorem graph_Reach.L2_step {R : Value → World → Prop} {gA : Option Addr} {gn : Nat} {gc : Nat} {outA : Option Addr} {outn : Nat} {outc : Nat} {listA : Option Addr} {listn : Nat} {listc : Nat} {t45A : Option Addr} {t45n : Nat} {t45c : Nat} {t46 : Int} {t47 : Int} {w : World} (h : graph_Reach.B2 R gA gn gc outA outn outc listA listn listc t45A t45n t45c t46 t47 w) : graph_Reach.L2 R gA gn gc outA outn outc listA listn listc t45A t45n t45c t46 t47 w :=
  loop_step (live := graph_Reach.live) (b := 2) (x := graph_Reach.c2) fun ts => Eq.mpr (graph_Reach.B2_eq R gA gn gc outA outn outc listA listn listc t45A t45n t45c t46 t47 w ts) h
theorem graph_Reach.eq (R : Value → World → Prop) (gA : Option Addr) (gn : Nat) (gc : Nat) (w : World) : fnVC Try.prog none graph_Reach.live Try.f33 R [(.slice gA gn gc)] w = graph_Reach.vc R gA gn gc w := by kernel_rfl
set_option maxHeartbeats 4000000 in
theorem graph_Reach.ok {R : Value → World → Prop} {gA : Option Addr} {gn : Nat} {gc : Nat} {w : World} (h : graph_Reach.vc R gA gn gc w) : Run Try.prog 33 #[(.slice gA gn gc)] w R := by
  have h2 := Eq.mpr (graph_Reach.eq R gA gn gc w) h
  exact fn_sound Try.mixed Try.func33 (by kernel_rfl) h2

/-! ### riddle/riddleref15.Reach: function 34 -/
noncomputable def ref15_Reach.body : Code := bodyOf Try.f34
def ref15_Reach.live : Nat → List Nat
  | 0 => [0, 3, 4]
  | _ => []
noncomputable def ref15_Reach.c0 : Code := sub ref15_Reach.body [1, 1, 1, 0, 1, 0, 0]
def ref15_Reach.K0 (R : Value → World → Prop) : Ex → St → World → Prop := (blockK 0 (thenK (fun st w => code Try.prog none ref15_Reach.live 0 (sub ref15_Reach.body [1, 1, 1, 1]) (retK Try.prog Try.f34 R) st w) (retK Try.prog Try.f34 R)))
def ref15_Reach.L0 (R : Value → World → Prop) (gA : Option Addr) (gn : Nat) (gc : Nat) (outA : Option Addr) (outn : Nat) (outc : Nat) (i : Int) (w : World) : Prop :=
  loopVC (fun K => code Try.prog none ref15_Reach.live 0 ref15_Reach.c0 K) (ref15_Reach.live 0) (ref15_Reach.K0 R) [(.slice gA gn gc), undef, undef, (.slice outA outn outc), (.int .i64 i), undef, undef, undef, undef, undef, undef, undef, undef, undef, undef, undef, undef, undef, undef, undef, undef, undef, undef, undef, undef, undef, undef, undef, undef, undef, undef, undef, undef, undef, undef, undef, undef, undef, undef, undef, undef, undef, undef, undef, undef, undef, undef, undef] w
def ref15_Reach.J0 (R : Value → World → Prop) (gA : Option Addr) (gn : Nat) (gc : Nat) (outA : Option Addr) (outn : Nat) (outc : Nat) (i : Int) (w : World) : Prop :=
  ref15_Reach.L0 R gA gn gc outA outn outc (IntKind.i64.wrap (i + 1)) w

def ref15_Reach.J1 (R : Value → World → Prop) (gA : Option Addr) (gn : Nat) (gc : Nat) (outA : Option Addr) (outn : Nat) (outc : Nat) (i : Int) (w : World) : Prop :=
  0 ≤ (i : Int) ∧ (i : Int) < ((gn : Nat) : Int) ∧ ∃ t36p : Addr, gA = some t36p ∧ ∃ t38 : Int, w.cell? ((t36p.add (Int.toNat i * 8)).add 1) = some (.int .i64 t38) ∧ ifP ((t38 : Int) == 3)
    (0 ≤ (i : Int) ∧ (i : Int) < ((gn : Nat) : Int) ∧ ∃ t43p : Addr, gA = some t43p ∧ ∃ t45 : Int, w.cell? ((t43p.add (Int.toNat i * 8)).add 7) = some (.int .i64 t45) ∧ 0 ≤ (t45 : Int) ∧ (t45 : Int) < ((outn : Nat) : Int) ∧ ∃ t46p : Addr, outA = some t46p ∧ (∃ u : Value, w.cell? (t46p.add (Int.toNat t45 * 1)) = some u) ∧ w.frozen? (t46p.add (Int.toNat t45 * 1)) = false ∧ letW (w.setCell (t46p.add (Int.toNat t45 * 1)) (.bool true)) fun w_2 => ref15_Reach.J0 R gA gn gc outA outn outc i w_2)
    (ref15_Reach.J0 R gA gn gc outA outn outc i w)

@[reducible] def ref15_Reach.B0 (R : Value → World → Prop) (gA : Option Addr) (gn : Nat) (gc : Nat) (outA : Option Addr) (outn : Nat) (outc : Nat) (i : Int) (w : World) : Prop :=
  ifP (decide ((i : Int) < ((gn : Nat) : Int)))
    (0 ≤ (i : Int) ∧ (i : Int) < ((outn : Nat) : Int) ∧ ∃ t18p : Addr, outA = some t18p ∧ ∃ t19 : Bool, w.cell? (t18p.add (Int.toNat i * 1)) = some (.bool t19) ∧ ifP (!t19)
    (ref15_Reach.J0 R gA gn gc outA outn outc i w)
    (0 ≤ (i : Int) ∧ (i : Int) < ((gn : Nat) : Int) ∧ ∃ t23p : Addr, gA = some t23p ∧ ∃ t25 : Int, w.cell? ((t23p.add (Int.toNat i * 8)).add 1) = some (.int .i64 t25) ∧ ifP ((t25 : Int) != 1)
    (0 ≤ (i : Int) ∧ (i : Int) < ((gn : Nat) : Int) ∧ ∃ t30p : Addr, gA = some t30p ∧ ∃ t32 : Int, w.cell? ((t30p.add (Int.toNat i * 8)).add 6) = some (.int .i64 t32) ∧ 0 ≤ (t32 : Int) ∧ (t32 : Int) < ((outn : Nat) : Int) ∧ ∃ t33p : Addr, outA = some t33p ∧ (∃ u : Value, w.cell? (t33p.add (Int.toNat t32 * 1)) = some u) ∧ w.frozen? (t33p.add (Int.toNat t32 * 1)) = false ∧ letW (w.setCell (t33p.add (Int.toNat t32 * 1)) (.bool true)) fun w_2 => ref15_Reach.J1 R gA gn gc outA outn outc i w_2)
    (ref15_Reach.J1 R gA gn gc outA outn outc i w)))
    (R (.slice outA outn outc) w)

@[reducible] def ref15_Reach.vc (R : Value → World → Prop) (gA : Option Addr) (gn : Nat) (gc : Nat) (w : World) : Prop :=
  ∃ (v : Value) (w_2 : World), (Instr.makeSlice 53 (.int .i64 ((gn : Nat) : Int)) (.int .i64 ((gn : Nat) : Int))).run Try.prog w = .ok v w_2 ∧ ∃ (t7A : Option Addr) (t7n t7c : Nat), v = (.slice t7A t7n t7c) ∧ 0 ≤ (0 : Int) ∧ (0 : Int) < ((t7n : Nat) : Int) ∧ ∃ t9p : Addr, t7A = some t9p ∧ (∃ u : Value, w_2.cell? (t9p.add (Int.toNat 0 * 1)) = some u) ∧ w_2.frozen? (t9p.add (Int.toNat 0 * 1)) = false ∧ letW (w_2.setCell (t9p.add (Int.toNat 0 * 1)) (.bool true)) fun w_3 => ref15_Reach.L0 R gA gn gc t7A t7n t7c 0 w_3

theorem ref15_Reach.B0_eq (R : Value → World → Prop) (gA : Option Addr) (gn : Nat) (gc : Nat) (outA : Option Addr) (outn : Nat) (outc : Nat) (i : Int) (w : World) (ts : Nat → Value) :
    code Try.prog none ref15_Reach.live 0 ref15_Reach.c0 (thenK (fun st w => loopVC (fun K => code Try.prog none ref15_Reach.live 0 ref15_Reach.c0 K) (ref15_Reach.live 0) (ref15_Reach.K0 R) (clearFrom (ref15_Reach.live 0) 0 st) w) (ref15_Reach.K0 R)) (mergeFrom (ref15_Reach.live 0) ts 0 (clearFrom (ref15_Reach.live 0) 0 [(.slice gA gn gc), undef, undef, (.slice outA outn outc), (.int .i64 i), undef, undef, undef, undef, undef, undef, undef, undef, undef, undef, undef, undef, undef, undef, undef, undef, undef, undef, undef, undef, undef, undef, undef, undef, undef, undef, undef, undef, undef, undef, undef, undef, undef, undef, undef, undef, undef, undef, undef, undef, undef, undef, undef])) w = ref15_Reach.B0 R gA gn gc outA outn outc i w := by kernel_rfl
theorem ref15_Reach.L0_step {R : Value → World → Prop} {gA : Option Addr} {gn : Nat} {gc : Nat} {outA : Option Addr} {outn : Nat} {outc : Nat} {i : Int} {w : World} (h : ref15_Reach.B0 R gA gn gc outA outn outc i w) : ref15_Reach.L0 R gA gn gc outA outn outc i w :=
  loop_step (live := ref15_Reach.live) (b := 0) (x := ref15_Reach.c0) fun ts => Eq.mpr (ref15_Reach.B0_eq R gA gn gc outA outn outc i w ts) h
theorem ref15_Reach.eq (R : Value → World → Prop) (gA : Option Addr) (gn : Nat) (gc : Nat) (w : World) : fnVC Try.prog none ref15_Reach.live Try.f34 R [(.slice gA gn gc)] w = ref15_Reach.vc R gA gn gc w := by kernel_rfl
set_option maxHeartbeats 4000000 in
theorem ref15_Reach.ok {R : Value → World → Prop} {gA : Option Addr} {gn : Nat} {gc : Nat} {w : World} (h : ref15_Reach.vc R gA gn gc w) : Run Try.prog 34 #[(.slice gA gn gc)] w R := by
  have h2 := Eq.mpr (ref15_Reach.eq R gA gn gc w) h
  exact fn_sound Try.mixed Try.func34 (by kernel_rfl) h2

/-! ### riddle/riddleref15.Size: function 35 -/
noncomputable def ref15_Size.body : Code := bodyOf Try.f35
def ref15_Size.live : Nat → List Nat
  | 0 => [0, 3, 4]
  | _ => []
noncomputable def ref15_Size.c0 : Code := sub ref15_Size.body [1, 1, 0, 1, 0, 0]
def ref15_Size.K0 (R : Value → World → Prop) : Ex → St → World → Prop := (blockK 0 (thenK (fun st w => code Try.prog none ref15_Size.live 0 (sub ref15_Size.body [1, 1, 1]) (retK Try.prog Try.f35 R) st w) (retK Try.prog Try.f35 R)))
def ref15_Size.L0 (R : Value → World → Prop) (gA : Option Addr) (gn : Nat) (gc : Nat) (k : Int) (i : Int) (w : World) : Prop :=
  loopVC (fun K => code Try.prog none ref15_Size.live 0 ref15_Size.c0 K) (ref15_Size.live 0) (ref15_Size.K0 R) [(.slice gA gn gc), undef, undef, (.int .i64 k), (.int .i64 i), undef, undef, undef, undef, undef, undef, undef, undef, undef, undef, undef, undef, undef, undef, undef, undef, undef, undef, undef, undef, undef, undef, undef] w
def ref15_Size.J0 (R : Value → World → Prop) (gA : Option Addr) (gn : Nat) (gc : Nat) (k : Int) (i : Int) (w : World) : Prop :=
  ref15_Size.L0 R gA gn gc k (IntKind.i64.wrap (i + 1)) w

@[reducible] def ref15_Size.B0 (R : Value → World → Prop) (gA : Option Addr) (gn : Nat) (gc : Nat) (k : Int) (i : Int) (w : World) : Prop :=
  ifP (decide ((i : Int) < ((gn : Nat) : Int)))
    (0 ≤ (i : Int) ∧ (i : Int) < ((gn : Nat) : Int) ∧ ∃ t14p : Addr, gA = some t14p ∧ ∃ (t16A : Option Addr) (t16n t16c : Nat), w.cell? (t14p.add (Int.toNat i * 8)) = some (.slice t16A t16n t16c) ∧ 0 ≤ (i : Int) ∧ (i : Int) < ((gn : Nat) : Int) ∧ ∃ t21p : Addr, gA = some t21p ∧ ∃ t23 : Int, w.cell? ((t21p.add (Int.toNat i * 8)).add 1) = some (.int .i64 t23) ∧ ifP ((t23 : Int) != 2)
    (ref15_Size.J0 R gA gn gc (IntKind.i64.wrap ((IntKind.i64.wrap (k + ((t16n : Nat) : Int))) + 1)) i w)
    (ref15_Size.J0 R gA gn gc (IntKind.i64.wrap (k + ((t16n : Nat) : Int))) i w))
    (R (.int .i64 k) w)

@[reducible] def ref15_Size.vc (R : Value → World → Prop) (gA : Option Addr) (gn : Nat) (gc : Nat) (w : World) : Prop :=
  ref15_Size.L0 R gA gn gc 0 0 w

theorem ref15_Size.B0_eq (R : Value → World → Prop) (gA : Option Addr) (gn : Nat) (gc : Nat) (k : Int) (i : Int) (w : World) (ts : Nat → Value) :
    code Try.prog none ref15_Size.live 0 ref15_Size.c0 (thenK (fun st w => loopVC (fun K => code Try.prog none ref15_Size.live 0 ref15_Size.c0 K) (ref15_Size.live 0) (ref15_Size.K0 R) (clearFrom (ref15_Size.live 0) 0 st) w) (ref15_Size.K0 R)) (mergeFrom (ref15_Size.live 0) ts 0 (clearFrom (ref15_Size.live 0) 0 [(.slice gA gn gc), undef, undef, (.int .i64 k), (.int .i64 i), undef, undef, undef, undef, undef, undef, undef, undef, undef, undef, undef, undef, undef, undef, undef, undef, undef, undef, undef, undef, undef, undef, undef])) w = ref15_Size.B0 R gA gn gc k i w := by kernel_rfl
theorem ref15_Size.L0_step {R : Value → World → Prop} {gA : Option Addr} {gn : Nat} {gc : Nat} {k : Int} {i : Int} {w : World} (h : ref15_Size.B0 R gA gn gc k i w) : ref15_Size.L0 R gA gn gc k i w :=
  loop_step (live := ref15_Size.live) (b := 0) (x := ref15_Size.c0) fun ts => Eq.mpr (ref15_Size.B0_eq R gA gn gc k i w ts) h
theorem ref15_Size.eq (R : Value → World → Prop) (gA : Option Addr) (gn : Nat) (gc : Nat) (w : World) : fnVC Try.prog none ref15_Size.live Try.f35 R [(.slice gA gn gc)] w = ref15_Size.vc R gA gn gc w := by kernel_rfl
set_option maxHeartbeats 4000000 in
theorem ref15_Size.ok {R : Value → World → Prop} {gA : Option Addr} {gn : Nat} {gc : Nat} {w : World} (h : ref15_Size.vc R gA gn gc w) : Run Try.prog 35 #[(.slice gA gn gc)] w R := by
  have h2 := Eq.mpr (ref15_Size.eq R gA gn gc w) h
  exact fn_sound Try.mixed Try.func35 (by kernel_rfl) h2

/-! ### riddle/riddleref15.Measure: function 36 -/
noncomputable def ref15_Measure.body : Code := bodyOf Try.f36
def ref15_Measure.live : Nat → List Nat
  | 0 => [0, 3, 4]
  | _ => []
noncomputable def ref15_Measure.c0 : Code := sub ref15_Measure.body [1, 1, 0, 1, 0, 0]
def ref15_Measure.K0 (R : Value → World → Prop) : Ex → St → World → Prop := (blockK 0 (thenK (fun st w => code Try.prog none ref15_Measure.live 0 (sub ref15_Measure.body [1, 1, 1]) (retK Try.prog Try.f36 R) st w) (retK Try.prog Try.f36 R)))
def ref15_Measure.L0 (R : Value → World → Prop) (gA : Option Addr) (gn : Nat) (gc : Nat) (k : Int) (i : Int) (w : World) : Prop :=
  loopVC (fun K => code Try.prog none ref15_Measure.live 0 ref15_Measure.c0 K) (ref15_Measure.live 0) (ref15_Measure.K0 R) [(.slice gA gn gc), undef, undef, (.int .i64 k), (.int .i64 i), undef, undef, undef, undef, undef, undef, undef, undef, undef, undef, undef, undef, undef, undef, undef, undef, undef, undef, undef, undef, undef, undef, undef, undef] w
def ref15_Measure.J0 (R : Value → World → Prop) (gA : Option Addr) (gn : Nat) (gc : Nat) (k : Int) (i : Int) (w : World) : Prop :=
  ref15_Measure.L0 R gA gn gc k (IntKind.i64.wrap (i + 1)) w

@[reducible] def ref15_Measure.B0 (R : Value → World → Prop) (gA : Option Addr) (gn : Nat) (gc : Nat) (k : Int) (i : Int) (w : World) : Prop :=
  ifP (decide ((i : Int) < ((gn : Nat) : Int)))
    (0 ≤ (i : Int) ∧ (i : Int) < ((gn : Nat) : Int) ∧ ∃ t14p : Addr, gA = some t14p ∧ ∃ (t16A : Option Addr) (t16n t16c : Nat), w.cell? (t14p.add (Int.toNat i * 8)) = some (.slice t16A t16n t16c) ∧ 0 ≤ (i : Int) ∧ (i : Int) < ((gn : Nat) : Int) ∧ ∃ t22p : Addr, gA = some t22p ∧ ∃ t24 : Int, w.cell? ((t22p.add (Int.toNat i * 8)).add 1) = some (.int .i64 t24) ∧ ifP ((t24 : Int) == 3)
    (ref15_Measure.J0 R gA gn gc (IntKind.i64.wrap ((IntKind.i64.wrap ((IntKind.i64.wrap (k + ((t16n : Nat) : Int))) + 1)) + 2)) i w)
    (ref15_Measure.J0 R gA gn gc (IntKind.i64.wrap ((IntKind.i64.wrap (k + ((t16n : Nat) : Int))) + 1)) i w))
    (R (.int .i64 k) w)

@[reducible] def ref15_Measure.vc (R : Value → World → Prop) (gA : Option Addr) (gn : Nat) (gc : Nat) (w : World) : Prop :=
  ref15_Measure.L0 R gA gn gc 0 0 w

theorem ref15_Measure.B0_eq (R : Value → World → Prop) (gA : Option Addr) (gn : Nat) (gc : Nat) (k : Int) (i : Int) (w : World) (ts : Nat → Value) :
    code Try.prog none ref15_Measure.live 0 ref15_Measure.c0 (thenK (fun st w => loopVC (fun K => code Try.prog none ref15_Measure.live 0 ref15_Measure.c0 K) (ref15_Measure.live 0) (ref15_Measure.K0 R) (clearFrom (ref15_Measure.live 0) 0 st) w) (ref15_Measure.K0 R)) (mergeFrom (ref15_Measure.live 0) ts 0 (clearFrom (ref15_Measure.live 0) 0 [(.slice gA gn gc), undef, undef, (.int .i64 k), (.int .i64 i), undef, undef, undef, undef, undef, undef, undef, undef, undef, undef, undef, undef, undef, undef, undef, undef, undef, undef, undef, undef, undef, undef, undef, undef])) w = ref15_Measure.B0 R gA gn gc k i w := by kernel_rfl
theorem ref15_Measure.L0_step {R : Value → World → Prop} {gA : Option Addr} {gn : Nat} {gc : Nat} {k : Int} {i : Int} {w : World} (h : ref15_Measure.B0 R gA gn gc k i w) : ref15_Measure.L0 R gA gn gc k i w :=
  loop_step (live := ref15_Measure.live) (b := 0) (x := ref15_Measure.c0) fun ts => Eq.mpr (ref15_Measure.B0_eq R gA gn gc k i w ts) h
theorem ref15_Measure.eq (R : Value → World → Prop) (gA : Option Addr) (gn : Nat) (gc : Nat) (w : World) : fnVC Try.prog none ref15_Measure.live Try.f36 R [(.slice gA gn gc)] w = ref15_Measure.vc R gA gn gc w := by kernel_rfl
set_option maxHeartbeats 4000000 in
theorem ref15_Measure.ok {R : Value → World → Prop} {gA : Option Addr} {gn : Nat} {gc : Nat} {w : World} (h : ref15_Measure.vc R gA gn gc w) : Run Try.prog 36 #[(.slice gA gn gc)] w R := by
  have h2 := Eq.mpr (ref15_Measure.eq R gA gn gc w) h
  exact fn_sound Try.mixed Try.func36 (by kernel_rfl) h2

/-! ### riddle/riddlelaw0.SameBools: function 37 -/
noncomputable def law0_SameBools.body : Code := bodyOf Try.f37
def law0_SameBools.live : Nat → List Nat
  | 0 => [0, 1, 5]
  | _ => []
noncomputable def law0_SameBools.c0 : Code := sub law0_SameBools.body [1, 1, 0, 1, 0, 0]
def law0_SameBools.K0 (R : Value → World → Prop) : Ex → St → World → Prop := (blockK 0 (thenK (fun st w => code Try.prog none law0_SameBools.live 0 (sub law0_SameBools.body [1, 1, 1]) (retK Try.prog Try.f37 R) st w) (retK Try.prog Try.f37 R)))
def law0_SameBools.L0 (R : Value → World → Prop) (aA : Option Addr) (an : Nat) (ac : Nat) (bA : Option Addr) (bn : Nat) (bc : Nat) (i : Int) (w : World) : Prop :=
  loopVC (fun K => code Try.prog none law0_SameBools.live 0 law0_SameBools.c0 K) (law0_SameBools.live 0) (law0_SameBools.K0 R) [(.slice aA an ac), (.slice bA bn bc), undef, undef, undef, (.int .i64 i), undef, undef, undef, undef, undef, undef, undef, undef, undef, undef, undef, undef, undef, undef, undef, undef, undef, undef, undef, undef] w
@[reducible] def law0_SameBools.B0 (R : Value → World → Prop) (aA : Option Addr) (an : Nat) (ac : Nat) (bA : Option Addr) (bn : Nat) (bc : Nat) (i : Int) (w : World) : Prop :=
  ifP (decide ((i : Int) < ((an : Nat) : Int)))
    (letW w.drew fun w_2 => 0 ≤ (i : Int) ∧ (i : Int) < ((an : Nat) : Int) ∧ ∃ t19p : Addr, aA = some t19p ∧ ∃ t20 : Bool, w_2.cell? (t19p.add (Int.toNat i * 1)) = some (.bool t20) ∧ 0 ≤ (i : Int) ∧ (i : Int) < ((bn : Nat) : Int) ∧ ∃ t23p : Addr, bA = some t23p ∧ ∃ t24 : Bool, w_2.cell? (t23p.add (Int.toNat i * 1)) = some (.bool t24) ∧ ifP (!(t20 == t24))
    (R (.bool false) w_2)
    (law0_SameBools.L0 R aA an ac bA bn bc (IntKind.i64.wrap (i + 1)) w_2))
    (R (.bool true) w)

@[reducible] def law0_SameBools.vc (R : Value → World → Prop) (aA : Option Addr) (an : Nat) (ac : Nat) (bA : Option Addr) (bn : Nat) (bc : Nat) (w : World) : Prop :=
  ifP ((((an : Nat) : Int) : Int) != ((bn : Nat) : Int))
    (R (.bool false) w)
    (law0_SameBools.L0 R aA an ac bA bn bc 0 w)

theorem law0_SameBools.B0_eq (R : Value → World → Prop) (aA : Option Addr) (an : Nat) (ac : Nat) (bA : Option Addr) (bn : Nat) (bc : Nat) (i : Int) (w : World) (ts : Nat → Value) :
    code Try.prog none law0_SameBools.live 0 law0_SameBools.c0 (thenK (fun st w => loopVC (fun K => code Try.prog none law0_SameBools.live 0 law0_SameBools.c0 K) (law0_SameBools.live 0) (law0_SameBools.K0 R) (clearFrom (law0_SameBools.live 0) 0 st) w) (law0_SameBools.K0 R)) (mergeFrom (law0_SameBools.live 0) ts 0 (clearFrom (law0_SameBools.live 0) 0 [(.slice aA an ac), (.slice bA bn bc), undef, undef, undef, (.int .i64 i), undef, undef, undef, undef, undef, undef, undef, undef, undef, undef, undef, undef, undef, undef, undef, undef, undef, undef, undef, undef])) w = law0_SameBools.B0 R aA an ac bA bn bc i w := by kernel_rfl
theorem law0_SameBools.L0_step {R : Value → World → Prop} {aA : Option Addr} {an : Nat} {ac : Nat} {bA : Option Addr} {bn : Nat} {bc : Nat} {i : Int} {w : World} (h : law0_SameBools.B0 R aA an ac bA bn bc i w) : law0_SameBools.L0 R aA an ac bA bn bc i w :=
  loop_step (live := law0_SameBools.live) (b := 0) (x := law0_SameBools.c0) fun ts => Eq.mpr (law0_SameBools.B0_eq R aA an ac bA bn bc i w ts) h
theorem law0_SameBools.eq (R : Value → World → Prop) (aA : Option Addr) (an : Nat) (ac : Nat) (bA : Option Addr) (bn : Nat) (bc : Nat) (w : World) : fnVC Try.prog none law0_SameBools.live Try.f37 R [(.slice aA an ac), (.slice bA bn bc)] w = law0_SameBools.vc R aA an ac bA bn bc w := by kernel_rfl
set_option maxHeartbeats 4000000 in
theorem law0_SameBools.ok {R : Value → World → Prop} {aA : Option Addr} {an : Nat} {ac : Nat} {bA : Option Addr} {bn : Nat} {bc : Nat} {w : World} (h : law0_SameBools.vc R aA an ac bA bn bc w) : Run Try.prog 37 #[(.slice aA an ac), (.slice bA bn bc)] w R := by
  have h2 := Eq.mpr (law0_SameBools.eq R aA an ac bA bn bc w) h
  exact fn_sound Try.mixed Try.func37 (by kernel_rfl) h2

/-! ### riddle/riddlelaw0.SpoilBools: function 38 -/
noncomputable def law0_SpoilBools.body : Code := bodyOf Try.f38
def law0_SpoilBools.live : Nat → List Nat
  | 0 => [0, 2, 3]
  | 2 => [0, 4]
  | _ => []
noncomputable def law0_SpoilBools.c0 : Code := sub law0_SpoilBools.body [1, 0, 1, 0, 0]
noncomputable def law0_SpoilBools.c2 : Code := sub law0_SpoilBools.body [1, 1, 1, 0, 0]
def law0_SpoilBools.K0 (R : Value → World → Prop) : Ex → St → World → Prop := (blockK 0 (thenK (fun st w => code Try.prog none law0_SpoilBools.live 0 (sub law0_SpoilBools.body [1, 1]) (retK Try.prog Try.f38 R) st w) (retK Try.prog Try.f38 R)))
def law0_SpoilBools.L0 (R : Value → World → Prop) (aA : Option Addr) (an : Nat) (ac : Nat) (fullA : Option Addr) (fulln : Nat) (fullc : Nat) (i : Int) (w : World) : Prop :=
  loopVC (fun K => code Try.prog none law0_SpoilBools.live 0 law0_SpoilBools.c0 K) (law0_SpoilBools.live 0) (law0_SpoilBools.K0 R) [(.slice aA an ac), undef, (.slice fullA fulln fullc), (.int .i64 i), undef, undef, undef, undef, undef, undef, undef, undef, undef, undef, undef, undef, undef, undef, undef, undef, undef, undef, undef, undef, undef, undef] w
def law0_SpoilBools.K2 (R : Value → World → Prop) : Ex → St → World → Prop := (blockK 2 (retK Try.prog Try.f38 R))
def law0_SpoilBools.L2 (R : Value → World → Prop) (aA : Option Addr) (an : Nat) (ac : Nat) (i : Int) (w : World) : Prop :=
  loopVC (fun K => code Try.prog none law0_SpoilBools.live 2 law0_SpoilBools.c2 K) (law0_SpoilBools.live 2) (law0_SpoilBools.K2 R) [(.slice aA an ac), undef, undef, undef, (.int .i64 i), undef, undef, undef, undef, undef, undef, undef, undef, undef, undef, undef, undef, undef, undef, undef, undef, undef, undef, undef, undef, undef] w
@[reducible] def law0_SpoilBools.B2 (R : Value → World → Prop) (aA : Option Addr) (an : Nat) (ac : Nat) (i : Int) (w : World) : Prop :=
  ifP (decide ((i : Int) < ((an : Nat) : Int)))
    (0 ≤ (i : Int) ∧ (i : Int) < ((an : Nat) : Int) ∧ ∃ t25p : Addr, aA = some t25p ∧ (∃ u : Value, w.cell? (t25p.add (Int.toNat i * 1)) = some u) ∧ w.frozen? (t25p.add (Int.toNat i * 1)) = false ∧ letW (w.setCell (t25p.add (Int.toNat i * 1)) (.bool true)) fun w_2 => law0_SpoilBools.L2 R aA an ac (IntKind.i64.wrap (i + 1)) w_2)
    (R (.tuple #[]) w)

@[reducible] def law0_SpoilBools.B0 (R : Value → World → Prop) (aA : Option Addr) (an : Nat) (ac : Nat) (fullA : Option Addr) (fulln : Nat) (fullc : Nat) (i : Int) (w : World) : Prop :=
  ifP (decide ((i : Int) < ((fulln : Nat) : Int)))
    (0 ≤ (i : Int) ∧ (i : Int) < ((fulln : Nat) : Int) ∧ ∃ t16p : Addr, fullA = some t16p ∧ (∃ u : Value, w.cell? (t16p.add (Int.toNat i * 1)) = some u) ∧ w.frozen? (t16p.add (Int.toNat i * 1)) = false ∧ letW (w.setCell (t16p.add (Int.toNat i * 1)) (.bool true)) fun w_2 => law0_SpoilBools.L0 R aA an ac fullA fulln fullc (IntKind.i64.wrap (i + 1)) w_2)
    (law0_SpoilBools.L2 R aA an ac 0 w)

@[reducible] def law0_SpoilBools.vc (R : Value → World → Prop) (aA : Option Addr) (an : Nat) (ac : Nat) (w : World) : Prop :=
  letW (w.alloc (.cells #[(.bool true)] 4)) fun w_2 => ∃ (v : Value) (w_3 : World), (Builtin.append_ #[53, 53] 53 #[(.slice aA an ac), (.slice (some (newA w)) 1 1)]).run Try.prog w_2 = .ok v w_3 ∧ ∃ (t7A : Option Addr) (t7n t7c : Nat), v = (.slice t7A t7n t7c) ∧ law0_SpoilBools.L0 R aA an ac t7A t7n t7c 0 w_3

theorem law0_SpoilBools.B0_eq (R : Value → World → Prop) (aA : Option Addr) (an : Nat) (ac : Nat) (fullA : Option Addr) (fulln : Nat) (fullc : Nat) (i : Int) (w : World) (ts : Nat → Value) :
    code Try.prog none law0_SpoilBools.live 0 law0_SpoilBools.c0 (thenK (fun st w => loopVC (fun K => code Try.prog none law0_SpoilBools.live 0 law0_SpoilBools.c0 K) (law0_SpoilBools.live 0) (law0_SpoilBools.K0 R) (clearFrom (law0_SpoilBools.live 0) 0 st) w) (law0_SpoilBools.K0 R)) (mergeFrom (law0_SpoilBools.live 0) ts 0 (clearFrom (law0_SpoilBools.live 0) 0 [(.slice aA an ac), undef, (.slice fullA fulln fullc), (.int .i64 i), undef, undef, undef, undef, undef, undef, undef, undef, undef, undef, undef, undef, undef, undef, undef, undef, undef, undef, undef, undef, undef, undef])) w = law0_SpoilBools.B0 R aA an ac fullA fulln fullc i w := by kernel_rfl
theorem law0_SpoilBools.L0_step {R : Value → World → Prop} {aA : Option Addr} {an : Nat} {ac : Nat} {fullA : Option Addr} {fulln : Nat} {fullc : Nat} {i : Int} {w : World} (h : law0_SpoilBools.B0 R aA an ac fullA fulln fullc i w) : law0_SpoilBools.L0 R aA an ac fullA fulln fullc i w :=
  loop_step (live := law0_SpoilBools.live) (b := 0) (x := law0_SpoilBools.c0) fun ts => Eq.mpr (law0_SpoilBools.B0_eq R aA an ac fullA fulln fullc i w ts) h
theorem law0_SpoilBools.B2_eq (R : Value → World → Prop) (aA : Option Addr) (an : Nat) (ac : Nat) (i : Int) (w : World) (ts : Nat → Value) :
    code Try.prog none law0_SpoilBools.live 2 law0_SpoilBools.c2 (thenK (fun st w => loopVC (fun K => code Try.prog none law0_SpoilBools.live 2 law0_SpoilBools.c2 K) (law0_SpoilBools.live 2) (law0_SpoilBools.K2 R) (clearFrom (law0_SpoilBools.live 2) 0 st) w) (law0_SpoilBools.K2 R)) (mergeFrom (law0_SpoilBools.live 2) ts 0 (clearFrom (law0_SpoilBools.live 2) 0 [(.slice aA an ac), undef, undef, undef, (.int .i64 i), undef, undef, undef, undef, undef, undef, undef, undef, undef, undef, undef, undef, undef, undef, undef, undef, undef, undef, undef, undef, undef])) w = law0_SpoilBools.B2 R aA an ac i w := by kernel_rfl
theorem law0_SpoilBools.L2_step {R : Value → World → Prop} {aA : Option Addr} {an : Nat} {ac : Nat} {i : Int} {w : World} (h : law0_SpoilBools.B2 R aA an ac i w) : law0_SpoilBools.L2 R aA an ac i w :=
  loop_step (live := law0_SpoilBools.live) (b := 2) (x := law0_SpoilBools.c2) fun ts => Eq.mpr (law0_SpoilBools.B2_eq R aA an ac i w ts) h
theorem law0_SpoilBools.eq (R : Value → World → Prop) (aA : Option Addr) (an : Nat) (ac : Nat) (w : World) : fnVC Try.prog none law0_SpoilBools.live Try.f38 R [(.slice aA an ac)] w = law0_SpoilBools.vc R aA an ac w := by kernel_rfl
set_option maxHeartbeats 4000000 in
theorem law0_SpoilBools.ok {R : Value → World → Prop} {aA : Option Addr} {an : Nat} {ac : Nat} {w : World} (h : law0_SpoilBools.vc R aA an ac w) : Run Try.prog 38 #[(.slice aA an ac)] w R := by
  have h2 := Eq.mpr (law0_SpoilBools.eq R aA an ac w) h
  exact fn_sound Try.mixed Try.func38 (by kernel_rfl) h2

/-! ### riddle/riddlelaw15.GraphSizes: function 7 -/
noncomputable def law15_GraphSizes.body : Code := bodyOf Try.f7
def law15_GraphSizes.live : Nat → List Nat
  | _ => []
def law15_GraphSizes.J0 (R : Value → World → Prop) (t2 : Bool) (w : World) : Prop :=
  R (.bool t2) w

def law15_GraphSizes.J2 (R : Value → World → Prop) (t2 : Bool) (w : World) : Prop :=
  R (.bool t2) w

def law15_GraphSizes.J1 (R : Value → World → Prop) (xA : Option Addr) (xn : Nat) (xc : Nat) (yA : Option Addr) (yn : Nat) (yc : Nat) (wantA : Option Addr) (wantn : Nat) (wantc : Nat) (t100 : Bool) (w : World) : Prop :=
  ifP t100
    (R (.bool false) w)
    (Run Try.prog 38 #[(.slice xA xn xc)] w fun v w_2 => v = (.tuple #[]) ∧ Run Try.prog 37 #[(.slice yA yn yc), (.slice wantA wantn wantc)] w_2 fun v_2 w_3 => ∃ t105 : Bool, v_2 = (.bool t105) ∧ ifP t105 (Run Try.prog 14 #[] w_3 fun v_3 w_4 => ∃ t107 : Bool, v_3 = (.bool t107) ∧ law15_GraphSizes.J2 R t107 w_4) (law15_GraphSizes.J2 R false w_3))

@[reducible] def law15_GraphSizes.vc (R : Value → World → Prop) (gA : Option Addr) (gn : Nat) (gc : Nat) (w : World) : Prop :=
  Run Try.prog 30 #[(.slice gA gn gc)] w fun v w_2 => ∃ t15 : Bool, v = (.bool t15) ∧ Run Try.prog 11 #[(.slice gA gn gc)] w_2 fun v_2 w_3 => ∃ (t17A : Option Addr) (t17n t17c : Nat), v_2 = (.slice t17A t17n t17c) ∧ Run Try.prog 31 #[(.slice t17A t17n t17c)] w_3 fun v_3 w_4 => ∃ t200 : Int, ∃ t201 : Int, v_3 = (.tuple #[(.int .i64 t200), (.int .i64 t201)]) ∧ Run Try.prog 32 #[(.slice t17A t17n t17c)] w_4 fun v_4 w_5 => ∃ t250 : Int, ∃ t251 : Int, v_4 = (.tuple #[(.int .i64 t250), (.int .i64 t251)]) ∧ Run Try.prog 33 #[(.slice t17A t17n t17c)] w_5 fun v_5 w_6 => ∃ (t300A : Option Addr) (t300n t300c : Nat), ∃ t301 : Int, v_5 = (.tuple #[(.slice t300A t300n t300c), (.int .i64 t301)]) ∧ Run Try.prog 13 #[(.slice t17A t17n t17c), (.slice gA gn gc)] w_6 fun v_6 w_7 => ∃ t35 : Bool, v_6 = (.bool t35) ∧ ifP (!t35)
    (R (.bool false) w_7)
    (Run Try.prog 28 #[(.slice gA gn gc)] w_7 fun v_7 w_8 => ∃ (t39A : Option Addr) (t39n t39c : Nat), v_7 = (.slice t39A t39n t39c) ∧ Run Try.prog 33 #[(.slice t39A t39n t39c)] w_8 fun v_8 w_9 => ∃ (t400A : Option Addr) (t400n t400c : Nat), ∃ t401 : Int, v_8 = (.tuple #[(.slice t400A t400n t400c), (.int .i64 t401)]) ∧ ifP (!t15)
    (ifP ((t201 : Int) == 155) (ifP ((t251 : Int) == 155) (ifP ((t301 : Int) == 155) (ifP ((t200 : Int) == 0) (ifP ((t250 : Int) == 0) (ifP ((((t300n : Nat) : Int) : Int) == 0) (Run Try.prog 14 #[] w_9 fun v_9 w_10 => ∃ t69 : Bool, v_9 = (.bool t69) ∧ law15_GraphSizes.J0 R t69 w_10) (law15_GraphSizes.J0 R false w_9)) (law15_GraphSizes.J0 R false w_9)) (law15_GraphSizes.J0 R false w_9)) (law15_GraphSizes.J0 R false w_9)) (law15_GraphSizes.J0 R false w_9)) (law15_GraphSizes.J0 R false w_9))
    (Run Try.prog 34 #[(.slice gA gn gc)] w_9 fun v_10 w_11 => ∃ (t72A : Option Addr) (t72n t72c : Nat), v_10 = (.slice t72A t72n t72c) ∧ ifP ((t201 : Int) != 0) (law15_GraphSizes.J1 R t300A t300n t300c t400A t400n t400c t72A t72n t72c true w_11) (ifP ((t251 : Int) != 0) (law15_GraphSizes.J1 R t300A t300n t300c t400A t400n t400c t72A t72n t72c true w_11) (ifP ((t301 : Int) != 0) (law15_GraphSizes.J1 R t300A t300n t300c t400A t400n t400c t72A t72n t72c true w_11) (Run Try.prog 35 #[(.slice gA gn gc)] w_11 fun v_11 w_12 => ∃ t86 : Int, v_11 = (.int .i64 t86) ∧ ifP ((t200 : Int) != t86) (law15_GraphSizes.J1 R t300A t300n t300c t400A t400n t400c t72A t72n t72c true w_12) (Run Try.prog 36 #[(.slice gA gn gc)] w_12 fun v_12 w_13 => ∃ t92 : Int, v_12 = (.int .i64 t92) ∧ ifP ((t250 : Int) != t92) (law15_GraphSizes.J1 R t300A t300n t300c t400A t400n t400c t72A t72n t72c true w_13) (Run Try.prog 37 #[(.slice t300A t300n t300c), (.slice t72A t72n t72c)] w_13 fun v_13 w_14 => ∃ t98 : Bool, v_13 = (.bool t98) ∧ law15_GraphSizes.J1 R t300A t300n t300c t400A t400n t400c t72A t72n t72c (!t98) w_14)))))))

theorem law15_GraphSizes.eq (R : Value → World → Prop) (gA : Option Addr) (gn : Nat) (gc : Nat) (w : World) : fnVC Try.prog none law15_GraphSizes.live Try.f7 R [(.slice gA gn gc)] w = law15_GraphSizes.vc R gA gn gc w := by kernel_rfl
set_option maxHeartbeats 4000000 in
theorem law15_GraphSizes.ok {R : Value → World → Prop} {gA : Option Addr} {gn : Nat} {gc : Nat} {w : World} (h : law15_GraphSizes.vc R gA gn gc w) : Run Try.prog 7 #[(.slice gA gn gc)] w R := by
  have h2 := Eq.mpr (law15_GraphSizes.eq R gA gn gc w) h
  exact fn_sound Try.mixed Try.func7 (by kernel_rfl) h2

/-! ### riddle/riddlelaw15.GraphBounds: function 8 -/
noncomputable def law15_GraphBounds.body : Code := bodyOf Try.f8
def law15_GraphBounds.live : Nat → List Nat
  | 0 => [1, 9, 11, 13, 14]
  | _ => []
noncomputable def law15_GraphBounds.c0 : Code := sub law15_GraphBounds.body [1, 1, 1, 1, 1, 1, 1, 1, 0, 1, 0, 0]
def law15_GraphBounds.K0 (R : Value → World → Prop) : Ex → St → World → Prop := (blockK 0 (thenK (fun st w => code Try.prog none law15_GraphBounds.live 0 (sub law15_GraphBounds.body [1, 1, 1, 1, 1, 1, 1, 1, 1]) (retK Try.prog Try.f8 R) st w) (retK Try.prog Try.f8 R)))
def law15_GraphBounds.L0 (R : Value → World → Prop) (packetA : Option Addr) (packetn : Nat) (packetc : Nat) (rA : Option Addr) (rn : Nat) (rc : Nat) (v : Addr) (xA : Option Addr) (xn : Nat) (xc : Nat) (i : Int) (w : World) : Prop :=
  loopVC (fun K => code Try.prog none law15_GraphBounds.live 0 law15_GraphBounds.c0 K) (law15_GraphBounds.live 0) (law15_GraphBounds.K0 R) [undef, (.slice packetA packetn packetc), undef, undef, undef, undef, undef, undef, undef, (.slice rA rn rc), undef, (.pointer (some v)), undef, (.slice xA xn xc), (.int .i64 i), undef, undef, undef, undef, undef, undef, undef, undef, undef, undef, undef, undef, undef, undef, undef, undef, undef, undef, undef, undef, undef, undef, undef, undef, undef, undef, undef, undef, undef, undef, undef, undef, undef, undef, undef, undef, undef, undef, undef, undef, undef, undef, undef, undef, undef, undef, undef, undef, undef, undef, undef, undef, undef, undef, undef, undef, undef, undef, undef, undef, undef, undef, undef, undef, undef, undef, undef, undef, undef, undef, undef, undef, undef, undef, undef, undef, undef, undef, undef, undef, undef, undef, undef, undef, undef, undef, undef, undef, undef, undef, undef, undef, undef, undef, undef, undef, undef, undef, undef, undef, undef, undef, undef, undef, undef, undef, undef, undef, undef, undef, undef, undef, undef, undef, undef] w
def law15_GraphBounds.J2 (R : Value → World → Prop) (packetA : Option Addr) (packetn : Nat) (packetc : Nat) (rA : Option Addr) (rn : Nat) (rc : Nat) (v : Addr) (xA : Option Addr) (xn : Nat) (xc : Nat) (i : Int) (w : World) : Prop :=
  law15_GraphBounds.L0 R packetA packetn packetc rA rn rc v xA xn xc (IntKind.i64.wrap (i + 1)) w

def law15_GraphBounds.J3 (R : Value → World → Prop) (t4 : Bool) (w : World) : Prop :=
  R (.bool t4) w

@[reducible] def law15_GraphBounds.B0 (R : Value → World → Prop) (packetA : Option Addr) (packetn : Nat) (packetc : Nat) (rA : Option Addr) (rn : Nat) (rc : Nat) (v : Addr) (xA : Option Addr) (xn : Nat) (xc : Nat) (i : Int) (w : World) : Prop :=
  ifP (decide ((i : Int) < ((xn : Nat) : Int)))
    (0 ≤ (i : Int) ∧ (i : Int) < ((rn : Nat) : Int) ∧ ∃ t100p : Addr, rA = some t100p ∧ ∃ t101 : Bool, w.cell? (t100p.add (Int.toNat i * 1)) = some (.bool t101) ∧ ifP (!t101)
    (0 ≤ (i : Int) ∧ (i : Int) < ((xn : Nat) : Int) ∧ ∃ t107p : Addr, xA = some t107p ∧ storeRow (t107p.add (Int.toNat i * 8)) 0 [(.slice none 0 0), (.int .i64 1), (.int .u16 6), (.int .u8 0), (.int .u8 0), (.int .u32 12345), (.int .i64 0), (.int .i64 0)] w fun w_2 => law15_GraphBounds.J2 R packetA packetn packetc rA rn rc v xA xn xc i w_2)
    (law15_GraphBounds.J2 R packetA packetn packetc rA rn rc v xA xn xc i w))
    (Run Try.prog 29 #[(.slice packetA packetn packetc)] w fun v_2 w_3 => ∃ (t111A : Option Addr) (t111n t111c : Nat), v_2 = (.slice t111A t111n t111c) ∧ Run Try.prog 17 #[(.slice xA xn xc), (.slice t111A t111n t111c)] w_3 fun v_3 w_4 => ∃ t1120_0 : Int, ∃ t1120_1 : Int, ∃ t1120_2 : Int, ∃ t1121 : Int, v_3 = (.tuple #[(.agg #[(.int .u32 t1120_0), (.int .i64 t1120_1), (.int .i64 t1120_2)]), (.int .i64 t1121)]) ∧ letW (w_4.alloc (.cells #[(.int .u32 0), (.int .i64 0), (.int .i64 0)] 33)) fun w_5 => storeRow (newA w_4) 0 [(.int .u32 t1120_0), (.int .i64 t1120_1), (.int .i64 t1120_2)] w_5 fun w_6 => 0 ≤ (0 : Int) ∧ (0 : Int) < ((rn : Nat) : Int) ∧ ∃ t116p : Addr, rA = some t116p ∧ ∃ t117 : Bool, w_6.cell? (t116p.add (Int.toNat 0 * 1)) = some (.bool t117) ∧ ifP t117 (ifP ((t1121 : Int) == 0) (∃ t123_0 : Int, w_6.cell? (newA w_4) = some (.int .u32 t123_0) ∧ ∃ t123_1 : Int, w_6.cell? ((newA w_4).add 1) = some (.int .i64 t123_1) ∧ ∃ t123_2 : Int, w_6.cell? ((newA w_4).add 2) = some (.int .i64 t123_2) ∧ ∃ t124_0 : Int, w_6.cell? v = some (.int .u32 t124_0) ∧ ∃ t124_1 : Int, w_6.cell? (v.add 1) = some (.int .i64 t124_1) ∧ ∃ t124_2 : Int, w_6.cell? (v.add 2) = some (.int .i64 t124_2) ∧ ∃ (v_4 : Value) (w_7 : World), (eqSem .eql 33 (.tmp 123) (.tmp 124) (.agg #[(.int .u32 t123_0), (.int .i64 t123_1), (.int .i64 t123_2)]) (.agg #[(.int .u32 t124_0), (.int .i64 t124_1), (.int .i64 t124_2)])).run Try.prog w_6 = .ok v_4 w_7 ∧ ∃ t125 : Bool, v_4 = (.bool t125) ∧ ifP t125 (Run Try.prog 14 #[] w_7 fun v_5 w_8 => ∃ t128 : Bool, v_5 = (.bool t128) ∧ law15_GraphBounds.J3 R t128 w_8) (law15_GraphBounds.J3 R false w_7)) (law15_GraphBounds.J3 R false w_6)) (law15_GraphBounds.J3 R false w_6))

def law15_GraphBounds.J1 (R : Value → World → Prop) (gA : Option Addr) (gn : Nat) (gc : Nat) (packetA : Option Addr) (packetn : Nat) (packetc : Nat) (rA : Option Addr) (rn : Nat) (rc : Nat) (v : Addr) (t89 : Bool) (w : World) : Prop :=
  ifP t89
    (R (.bool false) w)
    (Run Try.prog 28 #[(.slice gA gn gc)] w fun v_2 w_2 => ∃ (t91A : Option Addr) (t91n t91c : Nat), v_2 = (.slice t91A t91n t91c) ∧ law15_GraphBounds.L0 R packetA packetn packetc rA rn rc v t91A t91n t91c 0 w_2)

def law15_GraphBounds.J0 (R : Value → World → Prop) (gA : Option Addr) (gn : Nat) (gc : Nat) (packetA : Option Addr) (packetn : Nat) (packetc : Nat) (n : Int) (t29 : Bool) (w : World) : Prop :=
  ifP t29
    (Run Try.prog 14 #[] w fun v w_2 => ∃ t30 : Bool, v = (.bool t30) ∧ R (.bool t30) w_2)
    (Run Try.prog 28 #[(.slice gA gn gc)] w fun v_2 w_3 => ∃ (t33A : Option Addr) (t33n t33c : Nat), v_2 = (.slice t33A t33n t33c) ∧ Run Try.prog 32 #[(.slice t33A t33n t33c)] w_3 fun v_3 w_4 => ∃ t340 : Int, ∃ t341 : Int, v_3 = (.tuple #[(.int .i64 t340), (.int .i64 t341)]) ∧ Run Try.prog 28 #[(.slice gA gn gc)] w_4 fun v_4 w_5 => ∃ (t39A : Option Addr) (t39n t39c : Nat), v_4 = (.slice t39A t39n t39c) ∧ Run Try.prog 33 #[(.slice t39A t39n t39c)] w_5 fun v_5 w_6 => ∃ (t400A : Option Addr) (t400n t400c : Nat), ∃ t401 : Int, v_5 = (.tuple #[(.slice t400A t400n t400c), (.int .i64 t401)]) ∧ Run Try.prog 28 #[(.slice gA gn gc)] w_6 fun v_6 w_7 => ∃ (t45A : Option Addr) (t45n t45c : Nat), v_6 = (.slice t45A t45n t45c) ∧ Run Try.prog 29 #[(.slice packetA packetn packetc)] w_7 fun v_7 w_8 => ∃ (t47A : Option Addr) (t47n t47c : Nat), v_7 = (.slice t47A t47n t47c) ∧ Run Try.prog 17 #[(.slice t45A t45n t45c), (.slice t47A t47n t47c)] w_8 fun v_8 w_9 => ∃ t480_0 : Int, ∃ t480_1 : Int, ∃ t480_2 : Int, ∃ t481 : Int, v_8 = (.tuple #[(.agg #[(.int .u32 t480_0), (.int .i64 t480_1), (.int .i64 t480_2)]), (.int .i64 t481)]) ∧ letW (w_9.alloc (.cells #[(.int .u32 0), (.int .i64 0), (.int .i64 0)] 33)) fun w_10 => storeRow (newA w_9) 0 [(.int .u32 t480_0), (.int .i64 t480_1), (.int .i64 t480_2)] w_10 fun w_11 => ifP ((t401 : Int) != 0) (law15_GraphBounds.J1 R gA gn gc packetA packetn packetc t400A t400n t400c (newA w_9) true w_11) (ifP ((t481 : Int) != 0) (law15_GraphBounds.J1 R gA gn gc packetA packetn packetc t400A t400n t400c (newA w_9) true w_11) (ifP ((((t400n : Nat) : Int) : Int) != ((gn : Nat) : Int)) (law15_GraphBounds.J1 R gA gn gc packetA packetn packetc t400A t400n t400c (newA w_9) true w_11) (∃ t66 : Int, w_11.cell? ((newA w_9).add 2) = some (.int .i64 t66) ∧ ifP (decide ((t66 : Int) < 1)) (law15_GraphBounds.J1 R gA gn gc packetA packetn packetc t400A t400n t400c (newA w_9) true w_11) (∃ t71 : Int, w_11.cell? ((newA w_9).add 2) = some (.int .i64 t71) ∧ ifP (decide ((t71 : Int) > n)) (law15_GraphBounds.J1 R gA gn gc packetA packetn packetc t400A t400n t400c (newA w_9) true w_11) (ifP (decide ((n : Int) > t340)) (law15_GraphBounds.J1 R gA gn gc packetA packetn packetc t400A t400n t400c (newA w_9) true w_11) (∃ t82 : Int, w_11.cell? ((newA w_9).add 1) = some (.int .i64 t82) ∧ ifP ((t82 : Int) != 0) (∃ t86 : Int, w_11.cell? (newA w_9) = some (.int .u32 t86) ∧ law15_GraphBounds.J1 R gA gn gc packetA packetn packetc t400A t400n t400c (newA w_9) ((t86 : Int) != 0) w_11) (law15_GraphBounds.J1 R gA gn gc packetA packetn packetc t400A t400n t400c (newA w_9) false w_11))))))))

@[reducible] def law15_GraphBounds.vc (R : Value → World → Prop) (gA : Option Addr) (gn : Nat) (gc : Nat) (packetA : Option Addr) (packetn : Nat) (packetc : Nat) (w : World) : Prop :=
  Run Try.prog 28 #[(.slice gA gn gc)] w fun v w_2 => ∃ (t19A : Option Addr) (t19n t19c : Nat), v = (.slice t19A t19n t19c) ∧ Run Try.prog 31 #[(.slice t19A t19n t19c)] w_2 fun v_2 w_3 => ∃ t200 : Int, ∃ t201 : Int, v_2 = (.tuple #[(.int .i64 t200), (.int .i64 t201)]) ∧ ifP ((t201 : Int) != 0) (law15_GraphBounds.J0 R gA gn gc packetA packetn packetc t200 true w_3) (law15_GraphBounds.J0 R gA gn gc packetA packetn packetc t200 (decide ((((packetn : Nat) : Int) : Int) > 65536)) w_3)

theorem law15_GraphBounds.B0_eq (R : Value → World → Prop) (packetA : Option Addr) (packetn : Nat) (packetc : Nat) (rA : Option Addr) (rn : Nat) (rc : Nat) (v : Addr) (xA : Option Addr) (xn : Nat) (xc : Nat) (i : Int) (w : World) (ts : Nat → Value) :
    code Try.prog none law15_GraphBounds.live 0 law15_GraphBounds.c0 (thenK (fun st w => loopVC (fun K => code Try.prog none law15_GraphBounds.live 0 law15_GraphBounds.c0 K) (law15_GraphBounds.live 0) (law15_GraphBounds.K0 R) (clearFrom (law15_GraphBounds.live 0) 0 st) w) (law15_GraphBounds.K0 R)) (mergeFrom (law15_GraphBounds.live 0) ts 0 (clearFrom (law15_GraphBounds.live 0) 0 [undef, (.slice packetA packetn packetc), undef, undef, undef, undef, undef, undef, undef, (.slice rA rn rc), undef, (.pointer (some v)), undef, (.slice xA xn xc), (.int .i64 i), undef, undef, undef, undef, undef, undef, undef, undef, undef, undef, undef, undef, undef, undef, undef, undef, undef, undef, undef, undef, undef, undef, undef, undef, undef, undef, undef, undef, undef, undef, undef, undef, undef, undef, undef, undef, undef, undef, undef, undef, undef, undef, undef, undef, undef, undef, undef, undef, undef, undef, undef, undef, undef, undef, undef, undef, undef, undef, undef, undef, undef, undef, undef, undef, undef, undef, undef, undef, undef, undef, undef, undef, undef, undef, undef, undef, undef, undef, undef, undef, undef, undef, undef, undef, undef, undef, undef, undef, undef, undef, undef, undef, undef, undef, undef, undef, undef, undef, undef, undef, undef, undef, undef, undef, undef, undef, undef, undef, undef, undef, undef, undef, undef, undef, undef])) w = law15_GraphBounds.B0 R packetA packetn packetc rA rn rc v xA xn xc i w := by kernel_rfl
theorem law15_GraphBounds.L0_step {R : Value → World → Prop} {packetA : Option Addr} {packetn : Nat} {packetc : Nat} {rA : Option Addr} {rn : Nat} {rc : Nat} {v : Addr} {xA : Option Addr} {xn : Nat} {xc : Nat} {i : Int} {w : World} (h : law15_GraphBounds.B0 R packetA packetn packetc rA rn rc v xA xn xc i w) : law15_GraphBounds.L0 R packetA packetn packetc rA rn rc v xA xn xc i w :=
  loop_step (live := law15_GraphBounds.live) (b := 0) (x := law15_GraphBounds.c0) fun ts => Eq.mpr (law15_GraphBounds.B0_eq R packetA packetn packetc rA rn rc v xA xn xc i w ts) h
theorem law15_GraphBounds.eq (R : Value → World → Prop) (gA : Option Addr) (gn : Nat) (gc : Nat) (packetA : Option Addr) (packetn : Nat) (packetc : Nat) (w : World) : fnVC Try.prog none law15_GraphBounds.live Try.f8 R [(.slice gA gn gc), (.slice packetA packetn packetc)] w = law15_GraphBounds.vc R gA gn gc packetA packetn packetc w := by kernel_rfl
set_option maxHeartbeats 4000000 in
theorem law15_GraphBounds.ok {R : Value → World → Prop} {gA : Option Addr} {gn : Nat} {gc : Nat} {packetA : Option Addr} {packetn : Nat} {packetc : Nat} {w : World} (h : law15_GraphBounds.vc R gA gn gc packetA packetn packetc w) : Run Try.prog 8 #[(.slice gA gn gc), (.slice packetA packetn packetc)] w R := by
  have h2 := Eq.mpr (law15_GraphBounds.eq R gA gn gc packetA packetn packetc w) h
  exact fn_sound Try.mixed Try.func8 (by kernel_rfl) h2

/-! ### riddle/vm.start: function 65 -/
noncomputable def vm_start.body : Code := bodyOf Try.f65
def vm_start.live : Nat → List Nat
  | _ => []
@[reducible] def vm_start.vc (R : Value → World → Prop) (pA : Option Addr) (pn : Nat) (pc : Nat) (packetA : Option Addr) (packetn : Nat) (packetc : Nat) (w : World) : Prop :=
  Run Try.prog 39 #[(.slice pA pn pc)] w fun v w_2 => ∃ t100 : Int, ∃ t101 : Int, v = (.tuple #[(.int .i64 t100), (.int .i64 t101)]) ∧ ifP ((t101 : Int) != 0)
    (R (.tuple #[(.pointer none), (.int .i64 50)]) w_2)
    (ifP (decide ((((packetn : Nat) : Int) : Int) > 65536))
    (R (.tuple #[(.pointer none), (.int .i64 51)]) w_2)
    (letW (w_2.alloc (.cells #[(.int .u32 0), (.int .u32 0), (.int .u32 0), (.int .u32 0), (.int .u32 0), (.int .u32 0), (.int .u32 0), (.int .u32 0), (.int .u32 0), (.int .u32 0), (.int .u32 0), (.int .u32 0), (.int .u32 0), (.int .u32 0), (.int .u32 0), (.int .u32 0), (.int .u32 0), (.int .u32 0), (.slice packetA packetn packetc), (.int .i64 0), (.int .i64 0), (.int .u32 0), (.bool false)] 103)) fun w_3 => R (.tuple #[(.pointer (some (newA w_2))), (.int .i64 0)]) w_3))

theorem vm_start.eq (R : Value → World → Prop) (pA : Option Addr) (pn : Nat) (pc : Nat) (packetA : Option Addr) (packetn : Nat) (packetc : Nat) (w : World) : fnVC Try.prog none vm_start.live Try.f65 R [(.slice pA pn pc), (.slice packetA packetn packetc)] w = vm_start.vc R pA pn pc packetA packetn packetc w := by kernel_rfl
set_option maxHeartbeats 4000000 in
theorem vm_start.ok {R : Value → World → Prop} {pA : Option Addr} {pn : Nat} {pc : Nat} {packetA : Option Addr} {packetn : Nat} {packetc : Nat} {w : World} (h : vm_start.vc R pA pn pc packetA packetn packetc w) : Run Try.prog 65 #[(.slice pA pn pc), (.slice packetA packetn packetc)] w R := by
  have h2 := Eq.mpr (vm_start.eq R pA pn pc packetA packetn packetc w) h
  exact fn_sound Try.mixed Try.func65 (by kernel_rfl) h2

/-! ### (*riddle/vm.run).jump: function 110 -/
noncomputable def vm_run_jump.body : Code := bodyOf Try.f110
def vm_run_jump.live : Nat → List Nat
  | _ => []
@[reducible] def vm_run_jump.vc (R : Value → World → Prop) (r : Option Addr) (i_0 : Int) (i_1 : Int) (i_2 : Int) (i_3 : Int) (w : World) : Prop :=
  letW (w.alloc (.cells #[(.int .u16 i_0), (.int .u8 i_1), (.int .u8 i_2), (.int .u32 i_3)] 47)) fun w_2 => ∃ t16 : Int, w_2.cell? (newA w) = some (.int .u16 t16) ∧ ifP ((t16 : Int) == 5)
    (∃ S_ : World → Prop, S_ w_2.drew ∧ letW w_2.drew fun w_3 => ∃ t19p : Addr, r = some t19p ∧ ∃ t21 : Int, (∀ u : World, S_ u → u.cell? (t19p.add 20) = some (.int .i64 t21)) ∧ ∃ t23 : Int, (∀ u_2 : World, S_ u_2 → u_2.cell? ((newA w).add 3) = some (.int .u32 t23)) ∧ ∃ t26p : Addr, r = some t26p ∧ (∃ u : Value, w_3.cell? (t26p.add 20) = some u) ∧ w_3.frozen? (t26p.add 20) = false ∧ letW (w_3.setCell (t26p.add 20) (.int .i64 (IntKind.i64.wrap (t21 + (IntKind.i64.wrap t23))))) fun w_4 => R (.tuple #[]) w_4)
    (∃ S__2 : World → Prop, S__2 w_2.drew ∧ letW w_2.drew fun w_5 => ∃ t30p : Addr, r = some t30p ∧ ∃ t33_0 : Int, (∀ u_3 : World, S__2 u_3 → u_3.cell? (newA w) = some (.int .u16 t33_0)) ∧ ∃ t33_1 : Int, (∀ u_4 : World, S__2 u_4 → u_4.cell? ((newA w).add 1) = some (.int .u8 t33_1)) ∧ ∃ t33_2 : Int, (∀ u_5 : World, S__2 u_5 → u_5.cell? ((newA w).add 2) = some (.int .u8 t33_2)) ∧ ∃ t33_3 : Int, (∀ u_6 : World, S__2 u_6 → u_6.cell? ((newA w).add 3) = some (.int .u32 t33_3)) ∧ Run Try.prog 98 #[(.pointer (some t30p)), (.agg #[(.int .u16 t33_0), (.int .u8 t33_1), (.int .u8 t33_2), (.int .u32 t33_3)])] w_5 fun v w_6 => ∃ t34 : Bool, v = (.bool t34) ∧ ifP t34
    (∃ S__3 : World → Prop, S__3 w_6.drew ∧ letW w_6.drew fun w_7 => ∃ t36p : Addr, r = some t36p ∧ ∃ t38 : Int, (∀ u_7 : World, S__3 u_7 → u_7.cell? (t36p.add 20) = some (.int .i64 t38)) ∧ ∃ t40 : Int, (∀ u_8 : World, S__3 u_8 → u_8.cell? ((newA w).add 1) = some (.int .u8 t40)) ∧ ∃ t43p : Addr, r = some t43p ∧ (∃ u : Value, w_7.cell? (t43p.add 20) = some u) ∧ w_7.frozen? (t43p.add 20) = false ∧ letW (w_7.setCell (t43p.add 20) (.int .i64 (IntKind.i64.wrap (t38 + (IntKind.i64.wrap t40))))) fun w_8 => R (.tuple #[]) w_8)
    (∃ S__4 : World → Prop, S__4 w_6.drew ∧ letW w_6.drew fun w_9 => ∃ t5p : Addr, r = some t5p ∧ ∃ t7 : Int, (∀ u_9 : World, S__4 u_9 → u_9.cell? (t5p.add 20) = some (.int .i64 t7)) ∧ ∃ t9 : Int, (∀ u_10 : World, S__4 u_10 → u_10.cell? ((newA w).add 2) = some (.int .u8 t9)) ∧ ∃ t12p : Addr, r = some t12p ∧ (∃ u : Value, w_9.cell? (t12p.add 20) = some u) ∧ w_9.frozen? (t12p.add 20) = false ∧ letW (w_9.setCell (t12p.add 20) (.int .i64 (IntKind.i64.wrap (t7 + (IntKind.i64.wrap t9))))) fun w_10 => R (.tuple #[]) w_10))

theorem vm_run_jump.eq (R : Value → World → Prop) (r : Option Addr) (i_0 : Int) (i_1 : Int) (i_2 : Int) (i_3 : Int) (w : World) : fnVC Try.prog none vm_run_jump.live Try.f110 R [(.pointer r), (.agg #[(.int .u16 i_0), (.int .u8 i_1), (.int .u8 i_2), (.int .u32 i_3)])] w = vm_run_jump.vc R r i_0 i_1 i_2 i_3 w := by kernel_rfl
set_option maxHeartbeats 4000000 in
theorem vm_run_jump.ok {R : Value → World → Prop} {r : Option Addr} {i_0 : Int} {i_1 : Int} {i_2 : Int} {i_3 : Int} {w : World} (h : vm_run_jump.vc R r i_0 i_1 i_2 i_3 w) : Run Try.prog 110 #[(.pointer r), (.agg #[(.int .u16 i_0), (.int .u8 i_1), (.int .u8 i_2), (.int .u32 i_3)])] w R := by
  have h2 := Eq.mpr (vm_run_jump.eq R r i_0 i_1 i_2 i_3 w) h
  exact fn_sound Try.mixed Try.func110 (by kernel_rfl) h2

/-! ### (*riddle/vm.run).play: function 66 -/
noncomputable def vm_run_play.body : Code := bodyOf Try.f66
def vm_run_play.live : Nat → List Nat
  | 0 => [0, 1, 2, 6]
  | _ => []
noncomputable def vm_run_play.c0 : Code := sub vm_run_play.body [1, 0, 0]
def vm_run_play.K0 (R : Value → World → Prop) : Ex → St → World → Prop := (blockK 0 (retK Try.prog Try.f66 R))
def vm_run_play.L0 (R : Value → World → Prop) (r : Option Addr) (pA : Option Addr) (pn : Nat) (pc : Nat) (seen : Value) (does : Option Addr) (w : World) : Prop :=
  loopVC (fun K => code Try.prog none vm_run_play.live 0 vm_run_play.c0 K) (vm_run_play.live 0) (vm_run_play.K0 R) [(.pointer r), (.slice pA pn pc), seen, undef, undef, undef, (.pointer does), undef, undef, undef, undef, undef, undef, undef, undef, undef, undef, undef, undef, undef, undef, undef, undef, undef, undef, undef, undef, undef, undef, undef, undef, undef, undef, undef, undef, undef, undef, undef, undef, undef, undef, undef, undef, undef, undef, undef, undef, undef, undef, undef, undef, undef, undef, undef, undef, undef, undef, undef, undef, undef, undef, undef, undef, undef, undef, undef, undef, undef, undef, undef, undef, undef, undef, undef, undef] w
def vm_run_play.J1 (R : Value → World → Prop) (r : Option Addr) (pA : Option Addr) (pn : Nat) (pc : Nat) (seen : Value) (does : Option Addr) (w : World) : Prop :=
  vm_run_play.L0 R r pA pn pc seen does w

def vm_run_play.J0 (R : Value → World → Prop) (r : Option Addr) (pA : Option Addr) (pn : Nat) (pc : Nat) (seen : Value) (does : Option Addr) (t21 : Bool) (w : World) : Prop :=
  ifP t21
    (∃ t24p : Addr, r = some t24p ∧ ∃ t26 : Int, w.cell? (t24p.add 20) = some (.int .i64 t26) ∧ ∃ (g : FuncId) (fs cs : Array Value), seen = .func (.func g) fs cs ∧ okCall Try.prog g = true ∧ Run Try.prog g (fs ++ #[(.int .i64 t26)] ++ cs) w fun v w_2 => v = (.tuple #[]) ∧ ∃ t30p : Addr, r = some t30p ∧ ∃ t32 : Int, w_2.cell? (t30p.add 20) = some (.int .i64 t32) ∧ 0 ≤ (t32 : Int) ∧ (t32 : Int) < ((pn : Nat) : Int) ∧ ∃ t33p : Addr, pA = some t33p ∧ ∃ t34_0 : Int, w_2.cell? (t33p.add (Int.toNat t32 * 4)) = some (.int .u16 t34_0) ∧ ∃ t34_1 : Int, w_2.cell? ((t33p.add (Int.toNat t32 * 4)).add 1) = some (.int .u8 t34_1) ∧ ∃ t34_2 : Int, w_2.cell? ((t33p.add (Int.toNat t32 * 4)).add 2) = some (.int .u8 t34_2) ∧ ∃ t34_3 : Int, w_2.cell? ((t33p.add (Int.toNat t32 * 4)).add 3) = some (.int .u32 t34_3) ∧ letW (w_2.alloc (.cells #[(.int .u16 0), (.int .u8 0), (.int .u8 0), (.int .u32 0)] 47)) fun w_3 => storeRow (newA w_2) 0 [(.int .u16 t34_0), (.int .u8 t34_1), (.int .u8 t34_2), (.int .u32 t34_3)] w_3 fun w_4 => ∃ t36p : Addr, r = some t36p ∧ ∃ t38 : Int, w_4.cell? (t36p.add 20) = some (.int .i64 t38) ∧ ∃ t40p : Addr, r = some t40p ∧ (∃ u : Value, w_4.cell? (t40p.add 20) = some u) ∧ w_4.frozen? (t40p.add 20) = false ∧ letW (w_4.setCell (t40p.add 20) (.int .i64 (IntKind.i64.wrap (t38 + 1)))) fun w_5 => ∃ t43 : Int, w_5.cell? (newA w_2) = some (.int .u16 t43) ∧ Run Try.prog 64 #[(.int .u16 t43)] w_5 fun v_2 w_6 => ∃ t44 : Int, v_2 = (.int .i64 t44) ∧ ifP ((t44 : Int) == 5)
    (∃ t59_0 : Int, w_6.cell? (newA w_2) = some (.int .u16 t59_0) ∧ ∃ t59_1 : Int, w_6.cell? ((newA w_2).add 1) = some (.int .u8 t59_1) ∧ ∃ t59_2 : Int, w_6.cell? ((newA w_2).add 2) = some (.int .u8 t59_2) ∧ ∃ t59_3 : Int, w_6.cell? ((newA w_2).add 3) = some (.int .u32 t59_3) ∧ Run Try.prog 110 #[(.pointer r), (.agg #[(.int .u16 t59_0), (.int .u8 t59_1), (.int .u8 t59_2), (.int .u32 t59_3)])] w_6 fun v_3 w_7 => v_3 = (.tuple #[]) ∧ vm_run_play.L0 R r pA pn pc seen does w_7)
    (ifP ((t44 : Int) == 6)
    (∃ S_ : World → Prop, S_ w_6.drew ∧ letW w_6.drew fun w_8 => ∃ t66p : Addr, r = some t66p ∧ ∃ t69_0 : Int, (∀ u : World, S_ u → u.cell? (newA w_2) = some (.int .u16 t69_0)) ∧ ∃ t69_1 : Int, (∀ u_2 : World, S_ u_2 → u_2.cell? ((newA w_2).add 1) = some (.int .u8 t69_1)) ∧ ∃ t69_2 : Int, (∀ u_3 : World, S_ u_3 → u_3.cell? ((newA w_2).add 2) = some (.int .u8 t69_2)) ∧ ∃ t69_3 : Int, (∀ u_4 : World, S_ u_4 → u_4.cell? ((newA w_2).add 3) = some (.int .u32 t69_3)) ∧ Run Try.prog 97 #[(.pointer (some t66p)), (.agg #[(.int .u16 t69_0), (.int .u8 t69_1), (.int .u8 t69_2), (.int .u32 t69_3)])] w_8 fun v_4 w_9 => ∃ t70 : Int, v_4 = (.int .u32 t70) ∧ ∃ t71p : Addr, r = some t71p ∧ (∃ u : Value, w_9.cell? (t71p.add 21) = some u) ∧ w_9.frozen? (t71p.add 21) = false ∧ letW (w_9.setCell (t71p.add 21) (.int .u32 t70)) fun w_10 => ∃ t73p : Addr, r = some t73p ∧ (∃ u : Value, w_10.cell? (t73p.add 22) = some u) ∧ w_10.frozen? (t73p.add 22) = false ∧ letW (w_10.setCell (t73p.add 22) (.bool true)) fun w_11 => vm_run_play.J1 R r pA pn pc seen does w_11)
    (∃ S__2 : World → Prop, S__2 w_6.drew ∧ letW w_6.drew fun w_12 => ∃ t47 : Int, (∀ u_5 : World, S__2 u_5 → u_5.cell? (newA w_2) = some (.int .u16 t47)) ∧ ∃ t48p : Addr, does = some t48p ∧ 0 ≤ (t47 : Int) ∧ (t47 : Int) < ((256 : Nat) : Int) ∧ ∃ t50 : Value, (∀ u_6 : World, S__2 u_6 → u_6.cell? (t48p.add (Int.toNat t47 * 1)) = some t50) ∧ ∃ t52p : Addr, r = some t52p ∧ ∃ t54_0 : Int, (∀ u_7 : World, S__2 u_7 → u_7.cell? (newA w_2) = some (.int .u16 t54_0)) ∧ ∃ t54_1 : Int, (∀ u_8 : World, S__2 u_8 → u_8.cell? ((newA w_2).add 1) = some (.int .u8 t54_1)) ∧ ∃ t54_2 : Int, (∀ u_9 : World, S__2 u_9 → u_9.cell? ((newA w_2).add 2) = some (.int .u8 t54_2)) ∧ ∃ t54_3 : Int, (∀ u_10 : World, S__2 u_10 → u_10.cell? ((newA w_2).add 3) = some (.int .u32 t54_3)) ∧ ∃ (g_2 : FuncId) (fs_2 cs_2 : Array Value), t50 = .func (.func g_2) fs_2 cs_2 ∧ okCall Try.prog g_2 = true ∧ Run Try.prog g_2 (fs_2 ++ #[(.pointer (some t52p)), (.agg #[(.int .u16 t54_0), (.int .u8 t54_1), (.int .u8 t54_2), (.int .u32 t54_3)])] ++ cs_2) w_12 fun v_5 w_13 => v_5 = (.tuple #[]) ∧ vm_run_play.L0 R r pA pn pc seen does w_13)))
    (R (.tuple #[]) w)

@[reducible] def vm_run_play.B0 (R : Value → World → Prop) (r : Option Addr) (pA : Option Addr) (pn : Nat) (pc : Nat) (seen : Value) (does : Option Addr) (w : World) : Prop :=
  ∃ t10p : Addr, r = some t10p ∧ ∃ t12 : Bool, w.cell? (t10p.add 22) = some (.bool t12) ∧ ifP (!t12) (∃ t16p : Addr, r = some t16p ∧ ∃ t19 : Int, w.cell? (t16p.add 19) = some (.int .i64 t19) ∧ vm_run_play.J0 R r pA pn pc seen does ((t19 : Int) == 0) w) (vm_run_play.J0 R r pA pn pc seen does false w)

@[reducible] def vm_run_play.vc (R : Value → World → Prop) (r : Option Addr) (pA : Option Addr) (pn : Nat) (pc : Nat) (seen : Value) (w : World) : Prop :=
  Run Try.prog 49 #[] w fun v w_2 => ∃ t8 : Option Addr, v = (.pointer t8) ∧ vm_run_play.L0 R r pA pn pc seen t8 w_2

theorem vm_run_play.B0_eq (R : Value → World → Prop) (r : Option Addr) (pA : Option Addr) (pn : Nat) (pc : Nat) (seen : Value) (does : Option Addr) (w : World) (ts : Nat → Value) :
    code Try.prog none vm_run_play.live 0 vm_run_play.c0 (thenK (fun st w => loopVC (fun K => code Try.prog none vm_run_play.live 0 vm_run_play.c0 K) (vm_run_play.live 0) (vm_run_play.K0 R) (clearFrom (vm_run_play.live 0) 0 st) w) (vm_run_play.K0 R)) (mergeFrom (vm_run_play.live 0) ts 0 (clearFrom (vm_run_play.live 0) 0 [(.pointer r), (.slice pA pn pc), seen, undef, undef, undef, (.pointer does), undef, undef, undef, undef, undef, undef, undef, undef, undef, undef, undef, undef, undef, undef, undef, undef, undef, undef, undef, undef, undef, undef, undef, undef, undef, undef, undef, undef, undef, undef, undef, undef, undef, undef, undef, undef, undef, undef, undef, undef, undef, undef, undef, undef, undef, undef, undef, undef, undef, undef, undef, undef, undef, undef, undef, undef, undef, undef, undef, undef, undef, undef, undef, undef, undef, undef, undef, undef])) w = vm_run_play.B0 R r pA pn pc seen does w := by kernel_rfl
theorem vm_run_play.L0_step {R : Value → World → Prop} {r : Option Addr} {pA : Option Addr} {pn : Nat} {pc : Nat} {seen : Value} {does : Option Addr} {w : World} (h : vm_run_play.B0 R r pA pn pc seen does w) : vm_run_play.L0 R r pA pn pc seen does w :=
  loop_step (live := vm_run_play.live) (b := 0) (x := vm_run_play.c0) fun ts => Eq.mpr (vm_run_play.B0_eq R r pA pn pc seen does w ts) h
theorem vm_run_play.eq (R : Value → World → Prop) (r : Option Addr) (pA : Option Addr) (pn : Nat) (pc : Nat) (seen : Value) (w : World) : fnVC Try.prog none vm_run_play.live Try.f66 R [(.pointer r), (.slice pA pn pc), seen] w = vm_run_play.vc R r pA pn pc seen w := by kernel_rfl
set_option maxHeartbeats 4000000 in
theorem vm_run_play.ok {R : Value → World → Prop} {r : Option Addr} {pA : Option Addr} {pn : Nat} {pc : Nat} {seen : Value} {w : World} (h : vm_run_play.vc R r pA pn pc seen w) : Run Try.prog 66 #[(.pointer r), (.slice pA pn pc), seen] w R := by
  have h2 := Eq.mpr (vm_run_play.eq R r pA pn pc seen w) h
  exact fn_sound Try.mixed Try.func66 (by kernel_rfl) h2

/-! ### riddle/vm.Run$1: function 67 -/
noncomputable def vm_Run_1.body : Code := bodyOf Try.f67
def vm_Run_1.live : Nat → List Nat
  | _ => []
@[reducible] def vm_Run_1.vc (R : Value → World → Prop) (t0 : Int) (t1 : Addr) (w : World) : Prop :=
  ∃ t3 : Int, w.cell? t1 = some (.int .i64 t3) ∧ (∃ u : Value, w.cell? t1 = some u) ∧ w.frozen? t1 = false ∧ letW (w.setCell t1 (.int .i64 (IntKind.i64.wrap (t3 + 1)))) fun w_2 => R (.tuple #[]) w_2

theorem vm_Run_1.eq (R : Value → World → Prop) (t0 : Int) (t1 : Addr) (w : World) : fnVC Try.prog none vm_Run_1.live Try.f67 R [(.int .i64 t0), (.pointer (some t1))] w = vm_Run_1.vc R t0 t1 w := by kernel_rfl
set_option maxHeartbeats 4000000 in
theorem vm_Run_1.ok {R : Value → World → Prop} {t0 : Int} {t1 : Addr} {w : World} (h : vm_Run_1.vc R t0 t1 w) : Run Try.prog 67 #[(.int .i64 t0), (.pointer (some t1))] w R := by
  have h2 := Eq.mpr (vm_Run_1.eq R t0 t1 w) h
  exact fn_sound Try.mixed Try.func67 (by kernel_rfl) h2

/-! ### riddle/vm.Run: function 40 -/
noncomputable def vm_Run.body : Code := bodyOf Try.f40
def vm_Run.live : Nat → List Nat
  | _ => []
@[reducible] def vm_Run.vc (R : Value → World → Prop) (pA : Option Addr) (pn : Nat) (pc : Nat) (packetA : Option Addr) (packetn : Nat) (packetc : Nat) (w : World) : Prop :=
  letW (w.alloc (.cells #[(.int .u32 0), (.int .i64 0), (.int .i64 0)] 33)) fun w_2 => Run Try.prog 65 #[(.slice pA pn pc), (.slice packetA packetn packetc)] w_2 fun v w_3 => ∃ t120 : Option Addr, ∃ t121 : Int, v = (.tuple #[(.pointer t120), (.int .i64 t121)]) ∧ ifP ((t121 : Int) != 0)
    (storeRow (newA w) 0 [(.int .u32 0), (.int .i64 0), (.int .i64 0)] w_3 fun w_4 => ∃ t4_0 : Int, w_4.cell? (newA w) = some (.int .u32 t4_0) ∧ ∃ t4_1 : Int, w_4.cell? ((newA w).add 1) = some (.int .i64 t4_1) ∧ ∃ t4_2 : Int, w_4.cell? ((newA w).add 2) = some (.int .i64 t4_2) ∧ R (.tuple #[(.agg #[(.int .u32 t4_0), (.int .i64 t4_1), (.int .i64 t4_2)]), (.int .i64 t121)]) w_4)
    (letW (w_3.alloc (.cells #[(.int .i64 0)] 3)) fun w_5 => (∃ u : Value, w_5.cell? (newA w_3) = some u) ∧ w_5.frozen? (newA w_3) = false ∧ letW (w_5.setCell (newA w_3) (.int .i64 0)) fun w_6 => Run Try.prog 66 #[(.pointer t120), (.slice pA pn pc), (.func (.func 67) #[] #[(.pointer (some (newA w_3)))])] w_6 fun v_2 w_7 => v_2 = (.tuple #[]) ∧ ∃ S_ : World → Prop, S_ w_7.drew ∧ letW w_7.drew fun w_8 => ∃ t24p : Addr, t120 = some t24p ∧ ∃ t26 : Int, (∀ u : World, S_ u → u.cell? (t24p.add 21) = some (.int .u32 t26)) ∧ ∃ t28p : Addr, t120 = some t28p ∧ ∃ t31 : Int, (∀ u_2 : World, S_ u_2 → u_2.cell? (t28p.add 19) = some (.int .i64 t31)) ∧ ∃ t32 : Int, (∀ u_3 : World, S_ u_3 → u_3.cell? (newA w_3) = some (.int .i64 t32)) ∧ storeRow (newA w) 0 [(.int .u32 t26), (.int .i64 t31), (.int .i64 t32)] w_8 fun w_9 => ∃ t4_0_2 : Int, w_9.cell? (newA w) = some (.int .u32 t4_0_2) ∧ ∃ t4_1_2 : Int, w_9.cell? ((newA w).add 1) = some (.int .i64 t4_1_2) ∧ ∃ t4_2_2 : Int, w_9.cell? ((newA w).add 2) = some (.int .i64 t4_2_2) ∧ R (.tuple #[(.agg #[(.int .u32 t4_0_2), (.int .i64 t4_1_2), (.int .i64 t4_2_2)]), (.int .i64 0)]) w_9)

theorem vm_Run.eq (R : Value → World → Prop) (pA : Option Addr) (pn : Nat) (pc : Nat) (packetA : Option Addr) (packetn : Nat) (packetc : Nat) (w : World) : fnVC Try.prog none vm_Run.live Try.f40 R [(.slice pA pn pc), (.slice packetA packetn packetc)] w = vm_Run.vc R pA pn pc packetA packetn packetc w := by kernel_rfl
set_option maxHeartbeats 4000000 in
theorem vm_Run.ok {R : Value → World → Prop} {pA : Option Addr} {pn : Nat} {pc : Nat} {packetA : Option Addr} {packetn : Nat} {packetc : Nat} {w : World} (h : vm_Run.vc R pA pn pc packetA packetn packetc w) : Run Try.prog 40 #[(.slice pA pn pc), (.slice packetA packetn packetc)] w R := by
  have h2 := Eq.mpr (vm_Run.eq R pA pn pc packetA packetn packetc w) h
  exact fn_sound Try.mixed Try.func40 (by kernel_rfl) h2

/-! ### riddle/vm.Trace$1: function 68 -/
noncomputable def vm_Trace_1.body : Code := bodyOf Try.f68
def vm_Trace_1.live : Nat → List Nat
  | _ => []
@[reducible] def vm_Trace_1.vc (R : Value → World → Prop) (at_ : Int) (t1 : Addr) (w : World) : Prop :=
  ∃ (t3A : Option Addr) (t3n t3c : Nat), w.cell? t1 = some (.slice t3A t3n t3c) ∧ letW (w.alloc (.cells #[(.int .i64 at_)] 3)) fun w_2 => ∃ (v : Value) (w_3 : World), (Builtin.append_ #[62, 62] 62 #[(.slice t3A t3n t3c), (.slice (some (newA w)) 1 1)]).run Try.prog w_2 = .ok v w_3 ∧ ∃ (t6A : Option Addr) (t6n t6c : Nat), v = (.slice t6A t6n t6c) ∧ (∃ u : Value, w_3.cell? t1 = some u) ∧ w_3.frozen? t1 = false ∧ letW (w_3.setCell t1 (.slice t6A t6n t6c)) fun w_4 => R (.tuple #[]) w_4

theorem vm_Trace_1.eq (R : Value → World → Prop) (at_ : Int) (t1 : Addr) (w : World) : fnVC Try.prog none vm_Trace_1.live Try.f68 R [(.int .i64 at_), (.pointer (some t1))] w = vm_Trace_1.vc R at_ t1 w := by kernel_rfl
set_option maxHeartbeats 4000000 in
theorem vm_Trace_1.ok {R : Value → World → Prop} {at_ : Int} {t1 : Addr} {w : World} (h : vm_Trace_1.vc R at_ t1 w) : Run Try.prog 68 #[(.int .i64 at_), (.pointer (some t1))] w R := by
  have h2 := Eq.mpr (vm_Trace_1.eq R at_ t1 w) h
  exact fn_sound Try.mixed Try.func68 (by kernel_rfl) h2

/-! ### riddle/vm.Trace: function 41 -/
noncomputable def vm_Trace.body : Code := bodyOf Try.f41
def vm_Trace.live : Nat → List Nat
  | _ => []
@[reducible] def vm_Trace.vc (R : Value → World → Prop) (pA : Option Addr) (pn : Nat) (pc : Nat) (packetA : Option Addr) (packetn : Nat) (packetc : Nat) (w : World) : Prop :=
  Run Try.prog 65 #[(.slice pA pn pc), (.slice packetA packetn packetc)] w fun v w_2 => ∃ t120 : Option Addr, ∃ t121 : Int, v = (.tuple #[(.pointer t120), (.int .i64 t121)]) ∧ ifP ((t121 : Int) != 0)
    (R (.tuple #[(.slice none 0 0), (.int .i64 t121)]) w_2)
    (letW (w_2.alloc (.cells #[(.slice none 0 0)] 62)) fun w_3 => Run Try.prog 66 #[(.pointer t120), (.slice pA pn pc), (.func (.func 68) #[] #[(.pointer (some (newA w_2)))])] w_3 fun v_2 w_4 => v_2 = (.tuple #[]) ∧ ∃ (t22A : Option Addr) (t22n t22c : Nat), w_4.cell? (newA w_2) = some (.slice t22A t22n t22c) ∧ R (.tuple #[(.slice t22A t22n t22c), (.int .i64 0)]) w_4)

theorem vm_Trace.eq (R : Value → World → Prop) (pA : Option Addr) (pn : Nat) (pc : Nat) (packetA : Option Addr) (packetn : Nat) (packetc : Nat) (w : World) : fnVC Try.prog none vm_Trace.live Try.f41 R [(.slice pA pn pc), (.slice packetA packetn packetc)] w = vm_Trace.vc R pA pn pc packetA packetn packetc w := by kernel_rfl
set_option maxHeartbeats 4000000 in
theorem vm_Trace.ok {R : Value → World → Prop} {pA : Option Addr} {pn : Nat} {pc : Nat} {packetA : Option Addr} {packetn : Nat} {packetc : Nat} {w : World} (h : vm_Trace.vc R pA pn pc packetA packetn packetc w) : Run Try.prog 41 #[(.slice pA pn pc), (.slice packetA packetn packetc)] w R := by
  have h2 := Eq.mpr (vm_Trace.eq R pA pn pc packetA packetn packetc w) h
  exact fn_sound Try.mixed Try.func41 (by kernel_rfl) h2

/-! ### riddle/riddlelaw15.GraphSame: function 9 -/
noncomputable def law15_GraphSame.body : Code := bodyOf Try.f9
def law15_GraphSame.live : Nat → List Nat
  | 0 => [0, 7, 8, 10, 11, 12, 13, 15, 16, 17, 18]
  | 2 => [0, 7, 19, 20]
  | 4 => [0, 7, 19, 20, 21]
  | _ => []
noncomputable def law15_GraphSame.c0 : Code := sub law15_GraphSame.body [1, 1, 1, 1, 1, 1, 1, 1, 1, 0, 1, 0, 0]
noncomputable def law15_GraphSame.c2 : Code := sub law15_GraphSame.body [1, 1, 1, 1, 1, 1, 1, 1, 1, 1, 1, 1, 0, 1, 0, 0]
noncomputable def law15_GraphSame.c4 : Code := sub law15_GraphSame.body [1, 1, 1, 1, 1, 1, 1, 1, 1, 1, 1, 1, 0, 1, 0, 0, 1, 0, 0, 0, 1, 0, 0]
def law15_GraphSame.K0 (R : Value → World → Prop) : Ex → St → World → Prop := (blockK 0 (thenK (fun st w => code Try.prog none law15_GraphSame.live 0 (sub law15_GraphSame.body [1, 1, 1, 1, 1, 1, 1, 1, 1, 1]) (retK Try.prog Try.f9 R) st w) (retK Try.prog Try.f9 R)))
def law15_GraphSame.L0 (R : Value → World → Prop) (pA : Option Addr) (pn : Nat) (pc : Nat) (gA : Option Addr) (gn : Nat) (gc : Nat) (e : Int) (f : Int) (v : Addr) (h_ : Int) (tA : Option Addr) (tn : Nat) (tc : Nat) (w : Addr) (i : Int) (gone : Int) (j : Int) (w_2 : World) : Prop :=
  loopVC (fun K => code Try.prog none law15_GraphSame.live 0 law15_GraphSame.c0 K) (law15_GraphSame.live 0) (law15_GraphSame.K0 R) [(.slice pA pn pc), undef, undef, undef, undef, undef, undef, (.slice gA gn gc), (.int .i64 e), undef, (.int .i64 f), (.pointer (some v)), (.int .i64 h_), (.slice tA tn tc), undef, (.pointer (some w)), (.int .i64 i), (.int .i64 gone), (.int .i64 j), undef, undef, undef, undef, undef, undef, undef, undef, undef, undef, undef, undef, undef, undef, undef, undef, undef, undef, undef, undef, undef, undef, undef, undef, undef, undef, undef, undef, undef, undef, undef, undef, undef, undef, undef, undef, undef, undef, undef, undef, undef, undef, undef, undef, undef, undef, undef, undef, undef, undef, undef, undef, undef, undef, undef, undef, undef, undef, undef, undef, undef, undef, undef, undef, undef, undef, undef, undef, undef, undef, undef, undef, undef, undef, undef, undef, undef, undef, undef, undef, undef, undef, undef, undef, undef, undef, undef, undef, undef, undef, undef, undef, undef, undef, undef, undef, undef, undef, undef, undef, undef, undef, undef, undef, undef, undef, undef, undef, undef, undef, undef, undef, undef, undef, undef, undef, undef, undef, undef, undef, undef, undef, undef, undef, undef, undef, undef, undef, undef, undef, undef, undef, undef, undef, undef, undef, undef, undef, undef, undef, undef, undef, undef, undef, undef, undef, undef, undef, undef, undef, undef, undef, undef, undef, undef, undef, undef, undef, undef, undef, undef, undef, undef, undef, undef, undef, undef, undef, undef, undef, undef, undef] w_2
def law15_GraphSame.K2 (R : Value → World → Prop) : Ex → St → World → Prop := (blockK 2 (thenK (fun st w => code Try.prog none law15_GraphSame.live 0 (sub law15_GraphSame.body [1, 1, 1, 1, 1, 1, 1, 1, 1, 1, 1, 1, 1]) (retK Try.prog Try.f9 R) st w) (retK Try.prog Try.f9 R)))
def law15_GraphSame.L2 (R : Value → World → Prop) (pA : Option Addr) (pn : Nat) (pc : Nat) (gA : Option Addr) (gn : Nat) (gc : Nat) (at_ : Int) (j : Int) (w : World) : Prop :=
  loopVC (fun K => code Try.prog none law15_GraphSame.live 2 law15_GraphSame.c2 K) (law15_GraphSame.live 2) (law15_GraphSame.K2 R) [(.slice pA pn pc), undef, undef, undef, undef, undef, undef, (.slice gA gn gc), undef, undef, undef, undef, undef, undef, undef, undef, undef, undef, undef, (.int .i64 at_), (.int .i64 j), undef, undef, undef, undef, undef, undef, undef, undef, undef, undef, undef, undef, undef, undef, undef, undef, undef, undef, undef, undef, undef, undef, undef, undef, undef, undef, undef, undef, undef, undef, undef, undef, undef, undef, undef, undef, undef, undef, undef, undef, undef, undef, undef, undef, undef, undef, undef, undef, undef, undef, undef, undef, undef, undef, undef, undef, undef, undef, undef, undef, undef, undef, undef, undef, undef, undef, undef, undef, undef, undef, undef, undef, undef, undef, undef, undef, undef, undef, undef, undef, undef, undef, undef, undef, undef, undef, undef, undef, undef, undef, undef, undef, undef, undef, undef, undef, undef, undef, undef, undef, undef, undef, undef, undef, undef, undef, undef, undef, undef, undef, undef, undef, undef, undef, undef, undef, undef, undef, undef, undef, undef, undef, undef, undef, undef, undef, undef, undef, undef, undef, undef, undef, undef, undef, undef, undef, undef, undef, undef, undef, undef, undef, undef, undef, undef, undef, undef, undef, undef, undef, undef, undef, undef, undef, undef, undef, undef, undef, undef, undef, undef, undef, undef, undef, undef, undef, undef, undef, undef, undef] w
def law15_GraphSame.K4 (R : Value → World → Prop) : Ex → St → World → Prop := (blockK 4 (thenK (fun st w => code Try.prog none law15_GraphSame.live 3 (sub law15_GraphSame.body [1, 1, 1, 1, 1, 1, 1, 1, 1, 1, 1, 1, 0, 1, 0, 0, 1, 0, 0, 1]) (blockK 3 (thenK (fun st w => code Try.prog none law15_GraphSame.live 2 (sub law15_GraphSame.body [1, 1, 1, 1, 1, 1, 1, 1, 1, 1, 1, 1, 0, 1, 0, 0, 1, 1]) (thenK (fun st w => loopVC (fun K => code Try.prog none law15_GraphSame.live 2 law15_GraphSame.c2 K) (law15_GraphSame.live 2) (law15_GraphSame.K2 R) (clearFrom (law15_GraphSame.live 2) 0 st) w) (law15_GraphSame.K2 R)) st w) (thenK (fun st w => loopVC (fun K => code Try.prog none law15_GraphSame.live 2 law15_GraphSame.c2 K) (law15_GraphSame.live 2) (law15_GraphSame.K2 R) (clearFrom (law15_GraphSame.live 2) 0 st) w) (law15_GraphSame.K2 R)))) st w) (blockK 3 (thenK (fun st w => code Try.prog none law15_GraphSame.live 2 (sub law15_GraphSame.body [1, 1, 1, 1, 1, 1, 1, 1, 1, 1, 1, 1, 0, 1, 0, 0, 1, 1]) (thenK (fun st w => loopVC (fun K => code Try.prog none law15_GraphSame.live 2 law15_GraphSame.c2 K) (law15_GraphSame.live 2) (law15_GraphSame.K2 R) (clearFrom (law15_GraphSame.live 2) 0 st) w) (law15_GraphSame.K2 R)) st w) (thenK (fun st w => loopVC (fun K => code Try.prog none law15_GraphSame.live 2 law15_GraphSame.c2 K) (law15_GraphSame.live 2) (law15_GraphSame.K2 R) (clearFrom (law15_GraphSame.live 2) 0 st) w) (law15_GraphSame.K2 R))))))
def law15_GraphSame.L4 (R : Value → World → Prop) (pA : Option Addr) (pn : Nat) (pc : Nat) (gA : Option Addr) (gn : Nat) (gc : Nat) (at_ : Int) (j : Int) (k : Int) (w : World) : Prop :=
  loopVC (fun K => code Try.prog none law15_GraphSame.live 4 law15_GraphSame.c4 K) (law15_GraphSame.live 4) (law15_GraphSame.K4 R) [(.slice pA pn pc), undef, undef, undef, undef, undef, undef, (.slice gA gn gc), undef, undef, undef, undef, undef, undef, undef, undef, undef, undef, undef, (.int .i64 at_), (.int .i64 j), (.int .i64 k), undef, undef, undef, undef, undef, undef, undef, undef, undef, undef, undef, undef, undef, undef, undef, undef, undef, undef, undef, undef, undef, undef, undef, undef, undef, undef, undef, undef, undef, undef, undef, undef, undef, undef, undef, undef, undef, undef, undef, undef, undef, undef, undef, undef, undef, undef, undef, undef, undef, undef, undef, undef, undef, undef, undef, undef, undef, undef, undef, undef, undef, undef, undef, undef, undef, undef, undef, undef, undef, undef, undef, undef, undef, undef, undef, undef, undef, undef, undef, undef, undef, undef, undef, undef, undef, undef, undef, undef, undef, undef, undef, undef, undef, undef, undef, undef, undef, undef, undef, undef, undef, undef, undef, undef, undef, undef, undef, undef, undef, undef, undef, undef, undef, undef, undef, undef, undef, undef, undef, undef, undef, undef, undef, undef, undef, undef, undef, undef, undef, undef, undef, undef, undef, undef, undef, undef, undef, undef, undef, undef, undef, undef, undef, undef, undef, undef, undef, undef, undef, undef, undef, undef, undef, undef, undef, undef, undef, undef, undef, undef, undef, undef, undef, undef, undef, undef, undef, undef, undef] w
def law15_GraphSame.J1 (R : Value → World → Prop) (pA : Option Addr) (pn : Nat) (pc : Nat) (gA : Option Addr) (gn : Nat) (gc : Nat) (e : Int) (f : Int) (v : Addr) (h_ : Int) (tA : Option Addr) (tn : Nat) (tc : Nat) (w : Addr) (i : Int) (gone : Int) (j : Int) (w_2 : World) : Prop :=
  law15_GraphSame.L0 R pA pn pc gA gn gc e f v h_ tA tn tc w i gone (IntKind.i64.wrap (j + 1)) w_2

def law15_GraphSame.J3 (R : Value → World → Prop) (pA : Option Addr) (pn : Nat) (pc : Nat) (gA : Option Addr) (gn : Nat) (gc : Nat) (at_ : Int) (j : Int) (k : Int) (t159 : Bool) (w : World) : Prop :=
  ifP t159
    (R (.bool false) w)
    (law15_GraphSame.L4 R pA pn pc gA gn gc (IntKind.i64.wrap (at_ + 1)) j (IntKind.i64.wrap (k + 1)) w)

def law15_GraphSame.J5 (R : Value → World → Prop) (pA : Option Addr) (pn : Nat) (pc : Nat) (gA : Option Addr) (gn : Nat) (gc : Nat) (at_ : Int) (j : Int) (w : World) : Prop :=
  law15_GraphSame.L2 R pA pn pc gA gn gc at_ (IntKind.i64.wrap (j + 1)) w

def law15_GraphSame.J4 (R : Value → World → Prop) (pA : Option Addr) (pn : Nat) (pc : Nat) (gA : Option Addr) (gn : Nat) (gc : Nat) (at_ : Int) (j : Int) (t181 : Bool) (w : World) : Prop :=
  ifP t181
    (law15_GraphSame.J5 R pA pn pc gA gn gc (IntKind.i64.wrap (at_ + 1)) j w)
    (law15_GraphSame.J5 R pA pn pc gA gn gc at_ j w)

@[reducible] def law15_GraphSame.B4 (R : Value → World → Prop) (pA : Option Addr) (pn : Nat) (pc : Nat) (gA : Option Addr) (gn : Nat) (gc : Nat) (at_ : Int) (j : Int) (k : Int) (w : World) : Prop :=
  0 ≤ (j : Int) ∧ (j : Int) < ((gn : Nat) : Int) ∧ ∃ t134p : Addr, gA = some t134p ∧ ∃ (t136A : Option Addr) (t136n t136c : Nat), w.cell? (t134p.add (Int.toNat j * 8)) = some (.slice t136A t136n t136c) ∧ ifP (decide ((k : Int) < ((t136n : Nat) : Int)))
    (∃ S_ : World → Prop, S_ w.drew ∧ letW w.drew fun w_2 => ifP (decide ((at_ : Int) ≥ ((pn : Nat) : Int))) (law15_GraphSame.J3 R pA pn pc gA gn gc at_ j k true w_2) (0 ≤ (at_ : Int) ∧ (at_ : Int) < ((pn : Nat) : Int) ∧ ∃ t148p : Addr, pA = some t148p ∧ ∃ t149_0 : Int, (∀ u : World, S_ u → u.cell? (t148p.add (Int.toNat at_ * 4)) = some (.int .u16 t149_0)) ∧ ∃ t149_1 : Int, (∀ u_2 : World, S_ u_2 → u_2.cell? ((t148p.add (Int.toNat at_ * 4)).add 1) = some (.int .u8 t149_1)) ∧ ∃ t149_2 : Int, (∀ u_3 : World, S_ u_3 → u_3.cell? ((t148p.add (Int.toNat at_ * 4)).add 2) = some (.int .u8 t149_2)) ∧ ∃ t149_3 : Int, (∀ u_4 : World, S_ u_4 → u_4.cell? ((t148p.add (Int.toNat at_ * 4)).add 3) = some (.int .u32 t149_3)) ∧ 0 ≤ (j : Int) ∧ (j : Int) < ((gn : Nat) : Int) ∧ ∃ t152p : Addr, gA = some t152p ∧ ∃ (t154A : Option Addr) (t154n t154c : Nat), (∀ u_5 : World, S_ u_5 → u_5.cell? (t152p.add (Int.toNat j * 8)) = some (.slice t154A t154n t154c)) ∧ 0 ≤ (k : Int) ∧ (k : Int) < ((t154n : Nat) : Int) ∧ ∃ t156p : Addr, t154A = some t156p ∧ ∃ t157_0 : Int, (∀ u_6 : World, S_ u_6 → u_6.cell? (t156p.add (Int.toNat k * 4)) = some (.int .u16 t157_0)) ∧ ∃ t157_1 : Int, (∀ u_7 : World, S_ u_7 → u_7.cell? ((t156p.add (Int.toNat k * 4)).add 1) = some (.int .u8 t157_1)) ∧ ∃ t157_2 : Int, (∀ u_8 : World, S_ u_8 → u_8.cell? ((t156p.add (Int.toNat k * 4)).add 2) = some (.int .u8 t157_2)) ∧ ∃ t157_3 : Int, (∀ u_9 : World, S_ u_9 → u_9.cell? ((t156p.add (Int.toNat k * 4)).add 3) = some (.int .u32 t157_3)) ∧ ∃ (v : Value) (w_3 : World), (eqSem .neq 47 (.tmp 149) (.tmp 157) (.agg #[(.int .u16 t149_0), (.int .u8 t149_1), (.int .u8 t149_2), (.int .u32 t149_3)]) (.agg #[(.int .u16 t157_0), (.int .u8 t157_1), (.int .u8 t157_2), (.int .u32 t157_3)])).run Try.prog w_2 = .ok v w_3 ∧ ∃ t158 : Bool, v = (.bool t158) ∧ law15_GraphSame.J3 R pA pn pc gA gn gc at_ j k t158 w_3))
    (0 ≤ (j : Int) ∧ (j : Int) < ((gn : Nat) : Int) ∧ ∃ t164p : Addr, gA = some t164p ∧ ∃ t166 : Int, w.cell? ((t164p.add (Int.toNat j * 8)).add 1) = some (.int .i64 t166) ∧ ifP ((t166 : Int) != 2) (law15_GraphSame.J4 R pA pn pc gA gn gc at_ j true w) (ifP (decide ((at_ : Int) < ((pn : Nat) : Int))) (0 ≤ (at_ : Int) ∧ (at_ : Int) < ((pn : Nat) : Int) ∧ ∃ t176p : Addr, pA = some t176p ∧ ∃ t178 : Int, w.cell? (t176p.add (Int.toNat at_ * 4)) = some (.int .u16 t178) ∧ law15_GraphSame.J4 R pA pn pc gA gn gc at_ j ((t178 : Int) == 5) w) (law15_GraphSame.J4 R pA pn pc gA gn gc at_ j false w)))

def law15_GraphSame.J6 (R : Value → World → Prop) (t4 : Bool) (w : World) : Prop :=
  R (.bool t4) w

@[reducible] def law15_GraphSame.B2 (R : Value → World → Prop) (pA : Option Addr) (pn : Nat) (pc : Nat) (gA : Option Addr) (gn : Nat) (gc : Nat) (at_ : Int) (j : Int) (w : World) : Prop :=
  ifP (decide ((j : Int) < ((gn : Nat) : Int)))
    (law15_GraphSame.L4 R pA pn pc gA gn gc at_ j 0 w)
    (ifP ((at_ : Int) == ((pn : Nat) : Int)) (Run Try.prog 14 #[] w fun v w_2 => ∃ t189 : Bool, v = (.bool t189) ∧ law15_GraphSame.J6 R t189 w_2) (law15_GraphSame.J6 R false w))

def law15_GraphSame.J2 (R : Value → World → Prop) (pA : Option Addr) (pn : Nat) (pc : Nat) (gA : Option Addr) (gn : Nat) (gc : Nat) (t124 : Bool) (w : World) : Prop :=
  ifP t124
    (R (.bool false) w)
    (law15_GraphSame.L2 R pA pn pc gA gn gc 0 0 w)

@[reducible] def law15_GraphSame.B0 (R : Value → World → Prop) (pA : Option Addr) (pn : Nat) (pc : Nat) (gA : Option Addr) (gn : Nat) (gc : Nat) (e : Int) (f : Int) (v : Addr) (h_ : Int) (tA : Option Addr) (tn : Nat) (tc : Nat) (w : Addr) (i : Int) (gone : Int) (j : Int) (w_2 : World) : Prop :=
  ifP (decide ((j : Int) < ((tn : Nat) : Int)))
    (0 ≤ (j : Int) ∧ (j : Int) < ((tn : Nat) : Int) ∧ ∃ t80p : Addr, tA = some t80p ∧ ∃ t81 : Int, w_2.cell? (t80p.add (Int.toNat j * 1)) = some (.int .i64 t81) ∧ 0 ≤ (t81 : Int) ∧ (t81 : Int) < ((pn : Nat) : Int) ∧ ∃ t82p : Addr, pA = some t82p ∧ ∃ t84 : Int, w_2.cell? (t82p.add (Int.toNat t81 * 4)) = some (.int .u16 t84) ∧ ifP ((t84 : Int) == 5)
    (law15_GraphSame.J1 R pA pn pc gA gn gc e f v h_ tA tn tc w i (IntKind.i64.wrap (gone + 1)) j w_2)
    (law15_GraphSame.J1 R pA pn pc gA gn gc e f v h_ tA tn tc w i gone j w_2))
    (ifP ((e : Int) != 0) (law15_GraphSame.J2 R pA pn pc gA gn gc true w_2) (ifP ((f : Int) != 0) (law15_GraphSame.J2 R pA pn pc gA gn gc true w_2) (ifP ((h_ : Int) != 0) (law15_GraphSame.J2 R pA pn pc gA gn gc true w_2) (ifP ((i : Int) != 0) (law15_GraphSame.J2 R pA pn pc gA gn gc true w_2) (∃ t104 : Int, w_2.cell? w = some (.int .u32 t104) ∧ ∃ t106 : Int, w_2.cell? v = some (.int .u32 t106) ∧ ifP ((t104 : Int) != t106) (law15_GraphSame.J2 R pA pn pc gA gn gc true w_2) (∃ t111 : Int, w_2.cell? (w.add 1) = some (.int .i64 t111) ∧ ∃ t113 : Int, w_2.cell? (v.add 1) = some (.int .i64 t113) ∧ ifP ((t111 : Int) != t113) (law15_GraphSame.J2 R pA pn pc gA gn gc true w_2) (∃ t118 : Int, w_2.cell? (w.add 2) = some (.int .i64 t118) ∧ ∃ t120 : Int, w_2.cell? (v.add 2) = some (.int .i64 t120) ∧ law15_GraphSame.J2 R pA pn pc gA gn gc ((t118 : Int) != (IntKind.i64.wrap (t120 - gone))) w_2)))))))

def law15_GraphSame.J0 (R : Value → World → Prop) (pA : Option Addr) (pn : Nat) (pc : Nat) (packetA : Option Addr) (packetn : Nat) (packetc : Nat) (t34 : Bool) (w : World) : Prop :=
  ifP t34
    (Run Try.prog 14 #[] w fun v w_2 => ∃ t35 : Bool, v = (.bool t35) ∧ R (.bool t35) w_2)
    (Run Try.prog 23 #[(.slice pA pn pc)] w fun v_2 w_3 => ∃ (t38A : Option Addr) (t38n t38c : Nat), v_2 = (.slice t38A t38n t38c) ∧ Run Try.prog 21 #[(.slice t38A t38n t38c)] w_3 fun v_3 w_4 => ∃ (t390A : Option Addr) (t390n t390c : Nat), ∃ t391 : Int, v_3 = (.tuple #[(.slice t390A t390n t390c), (.int .i64 t391)]) ∧ Run Try.prog 28 #[(.slice t390A t390n t390c)] w_4 fun v_4 w_5 => ∃ (t44A : Option Addr) (t44n t44c : Nat), v_4 = (.slice t44A t44n t44c) ∧ Run Try.prog 12 #[(.slice t44A t44n t44c)] w_5 fun v_5 w_6 => ∃ t450 : Int, ∃ t451 : Int, v_5 = (.tuple #[(.int .i64 t450), (.int .i64 t451)]) ∧ Run Try.prog 23 #[(.slice pA pn pc)] w_6 fun v_6 w_7 => ∃ (t50A : Option Addr) (t50n t50c : Nat), v_6 = (.slice t50A t50n t50c) ∧ Run Try.prog 29 #[(.slice packetA packetn packetc)] w_7 fun v_7 w_8 => ∃ (t52A : Option Addr) (t52n t52c : Nat), v_7 = (.slice t52A t52n t52c) ∧ Run Try.prog 40 #[(.slice t50A t50n t50c), (.slice t52A t52n t52c)] w_8 fun v_8 w_9 => ∃ t530_0 : Int, ∃ t530_1 : Int, ∃ t530_2 : Int, ∃ t531 : Int, v_8 = (.tuple #[(.agg #[(.int .u32 t530_0), (.int .i64 t530_1), (.int .i64 t530_2)]), (.int .i64 t531)]) ∧ letW (w_9.alloc (.cells #[(.int .u32 0), (.int .i64 0), (.int .i64 0)] 33)) fun w_10 => storeRow (newA w_9) 0 [(.int .u32 t530_0), (.int .i64 t530_1), (.int .i64 t530_2)] w_10 fun w_11 => Run Try.prog 23 #[(.slice pA pn pc)] w_11 fun v_9 w_12 => ∃ (t58A : Option Addr) (t58n t58c : Nat), v_9 = (.slice t58A t58n t58c) ∧ Run Try.prog 29 #[(.slice packetA packetn packetc)] w_12 fun v_10 w_13 => ∃ (t60A : Option Addr) (t60n t60c : Nat), v_10 = (.slice t60A t60n t60c) ∧ Run Try.prog 41 #[(.slice t58A t58n t58c), (.slice t60A t60n t60c)] w_13 fun v_11 w_14 => ∃ (t610A : Option Addr) (t610n t610c : Nat), ∃ t611 : Int, v_11 = (.tuple #[(.slice t610A t610n t610c), (.int .i64 t611)]) ∧ Run Try.prog 29 #[(.slice packetA packetn packetc)] w_14 fun v_12 w_15 => ∃ (t67A : Option Addr) (t67n t67c : Nat), v_12 = (.slice t67A t67n t67c) ∧ Run Try.prog 17 #[(.slice t390A t390n t390c), (.slice t67A t67n t67c)] w_15 fun v_13 w_16 => ∃ t680_0 : Int, ∃ t680_1 : Int, ∃ t680_2 : Int, ∃ t681 : Int, v_13 = (.tuple #[(.agg #[(.int .u32 t680_0), (.int .i64 t680_1), (.int .i64 t680_2)]), (.int .i64 t681)]) ∧ letW (w_16.alloc (.cells #[(.int .u32 0), (.int .i64 0), (.int .i64 0)] 33)) fun w_17 => storeRow (newA w_16) 0 [(.int .u32 t680_0), (.int .i64 t680_1), (.int .i64 t680_2)] w_17 fun w_18 => law15_GraphSame.L0 R pA pn pc t390A t390n t390c t391 t451 (newA w_9) t531 t610A t610n t610c (newA w_16) t681 0 0 w_18)

@[reducible] def law15_GraphSame.vc (R : Value → World → Prop) (pA : Option Addr) (pn : Nat) (pc : Nat) (packetA : Option Addr) (packetn : Nat) (packetc : Nat) (w : World) : Prop :=
  Run Try.prog 23 #[(.slice pA pn pc)] w fun v w_2 => ∃ (t24A : Option Addr) (t24n t24c : Nat), v = (.slice t24A t24n t24c) ∧ Run Try.prog 39 #[(.slice t24A t24n t24c)] w_2 fun v_2 w_3 => ∃ t250 : Int, ∃ t251 : Int, v_2 = (.tuple #[(.int .i64 t250), (.int .i64 t251)]) ∧ ifP ((t251 : Int) != 0) (law15_GraphSame.J0 R pA pn pc packetA packetn packetc true w_3) (law15_GraphSame.J0 R pA pn pc packetA packetn packetc (decide ((((packetn : Nat) : Int) : Int) > 65536)) w_3)

theorem law15_GraphSame.B0_eq (R : Value → World → Prop) (pA : Option Addr) (pn : Nat) (pc : Nat) (gA : Option Addr) (gn : Nat) (gc : Nat) (e : Int) (f : Int) (v : Addr) (h_ : Int) (tA : Option Addr) (tn : Nat) (tc : Nat) (w : Addr) (i : Int) (gone : Int) (j : Int) (w_2 : World) (ts : Nat → Value) :
    code Try.prog none law15_GraphSame.live 0 law15_GraphSame.c0 (thenK (fun st w => loopVC (fun K => code Try.prog none law15_GraphSame.live 0 law15_GraphSame.c0 K) (law15_GraphSame.live 0) (law15_GraphSame.K0 R) (clearFrom (law15_GraphSame.live 0) 0 st) w) (law15_GraphSame.K0 R)) (mergeFrom (law15_GraphSame.live 0) ts 0 (clearFrom (law15_GraphSame.live 0) 0 [(.slice pA pn pc), undef, undef, undef, undef, undef, undef, (.slice gA gn gc), (.int .i64 e), undef, (.int .i64 f), (.pointer (some v)), (.int .i64 h_), (.slice tA tn tc), undef, (.pointer (some w)), (.int .i64 i), (.int .i64 gone), (.int .i64 j), undef, undef, undef, undef, undef, undef, undef, undef, undef, undef, undef, undef, undef, undef, undef, undef, undef, undef, undef, undef, undef, undef, undef, undef, undef, undef, undef, undef, undef, undef, undef, undef, undef, undef, undef, undef, undef, undef, undef, undef, undef, undef, undef, undef, undef, undef, undef, undef, undef, undef, undef, undef, undef, undef, undef, undef, undef, undef, undef, undef, undef, undef, undef, undef, undef, undef, undef, undef, undef, undef, undef, undef, undef, undef, undef, undef, undef, undef, undef, undef, undef, undef, undef, undef, undef, undef, undef, undef, undef, undef, undef, undef, undef, undef, undef, undef, undef, undef, undef, undef, undef, undef, undef, undef, undef, undef, undef, undef, undef, undef, undef, undef, undef, undef, undef, undef, undef, undef, undef, undef, undef, undef, undef, undef, undef, undef, undef, undef, undef, undef, undef, undef, undef, undef, undef, undef, undef, undef, undef, undef, undef, undef, undef, undef, undef, undef, undef, undef, undef, undef, undef, undef, undef, undef, undef, undef, undef, undef, undef, undef, undef, undef, undef, undef, undef, undef, undef, undef, undef, undef, undef, undef])) w_2 = law15_GraphSame.B0 R pA pn pc gA gn gc e f v h_ tA tn tc w i gone j w_2 := by kernel_rfl
theorem law15_GraphSame.L0_step {R : Value → World → Prop} {pA : Option Addr} {pn : Nat} {pc : Nat} {gA : Option Addr} {gn : Nat} {gc : Nat} {e : Int} {f : Int} {v : Addr} {h_ : Int} {tA : Option Addr} {tn : Nat} {tc : Nat} {w : Addr} {i : Int} {gone : Int} {j : Int} {w_2 : World} (h : law15_GraphSame.B0 R pA pn pc gA gn gc e f v h_ tA tn tc w i gone j w_2) : law15_GraphSame.L0 R pA pn pc gA gn gc e f v h_ tA tn tc w i gone j w_2 :=
  loop_step (live := law15_GraphSame.live) (b := 0) (x := law15_GraphSame.c0) fun ts => Eq.mpr (law15_GraphSame.B0_eq R pA pn pc gA gn gc e f v h_ tA tn tc w i gone j w_2 ts) h
theorem law15_GraphSame.B2_eq (R : Value → World → Prop) (pA : Option Addr) (pn : Nat) (pc : Nat) (gA : Option Addr) (gn : Nat) (gc : Nat) (at_ : Int) (j : Int) (w : World) (ts : Nat → Value) :
    code Try.prog none law15_GraphSame.live 2 law15_GraphSame.c2 (thenK (fun st w => loopVC (fun K => code Try.prog none law15_GraphSame.live 2 law15_GraphSame.c2 K) (law15_GraphSame.live 2) (law15_GraphSame.K2 R) (clearFrom (law15_GraphSame.live 2) 0 st) w) (law15_GraphSame.K2 R)) (mergeFrom (law15_GraphSame.live 2) ts 0 (clearFrom (law15_GraphSame.live 2) 0 [(.slice pA pn pc), undef, undef, undef, undef, undef, undef, (.slice gA gn gc), undef, undef, undef, undef, undef, undef, undef, undef, undef, undef, undef, (.int .i64 at_), (.int .i64 j), undef, undef, undef, undef, undef, undef, undef, undef, undef, undef, undef, undef, undef, undef, undef, undef, undef, undef, undef, undef, undef, undef, undef, undef, undef, undef, undef, undef, undef, undef, undef, undef, undef, undef, undef, undef, undef, undef, undef, undef, undef, undef, undef, undef, undef, undef, undef, undef, undef, undef, undef, undef, undef, undef, undef, undef, undef, undef, undef, undef, undef, undef, undef, undef, undef, undef, undef, undef, undef, undef, undef, undef, undef, undef, undef, undef, undef, undef, undef, undef, undef, undef, undef, undef, undef, undef, undef, undef, undef, undef, undef, undef, undef, undef, undef, undef, undef, undef, undef, undef, undef, undef, undef, undef, undef, undef, undef, undef, undef, undef, undef, undef, undef, undef, undef, undef, undef, undef, undef, undef, undef, undef, undef, undef, undef, undef, undef, undef, undef, undef, undef, undef, undef, undef, undef, undef, undef, undef, undef, undef, undef, undef, undef, undef, undef, undef, undef, undef, undef, undef, undef, undef, undef, undef, undef, undef, undef, undef, undef, undef, undef, undef, undef, undef, undef, undef, undef, undef, undef, undef])) w = law15_GraphSame.B2 R pA pn pc gA gn gc at_ j w := by kernel_rfl
theorem law15_GraphSame.L2_step {R : Value → World → Prop} {pA : Option Addr} {pn : Nat} {pc : Nat} {gA : Option Addr} {gn : Nat} {gc : Nat} {at_ : Int} {j : Int} {w : World} (h : law15_GraphSame.B2 R pA pn pc gA gn gc at_ j w) : law15_GraphSame.L2 R pA pn pc gA gn gc at_ j w :=
  loop_step (live := law15_GraphSame.live) (b := 2) (x := law15_GraphSame.c2) fun ts => Eq.mpr (law15_GraphSame.B2_eq R pA pn pc gA gn gc at_ j w ts) h
theorem law15_GraphSame.B4_eq (R : Value → World → Prop) (pA : Option Addr) (pn : Nat) (pc : Nat) (gA : Option Addr) (gn : Nat) (gc : Nat) (at_ : Int) (j : Int) (k : Int) (w : World) (ts : Nat → Value) :
    code Try.prog none law15_GraphSame.live 4 law15_GraphSame.c4 (thenK (fun st w => loopVC (fun K => code Try.prog none law15_GraphSame.live 4 law15_GraphSame.c4 K) (law15_GraphSame.live 4) (law15_GraphSame.K4 R) (clearFrom (law15_GraphSame.live 4) 0 st) w) (law15_GraphSame.K4 R)) (mergeFrom (law15_GraphSame.live 4) ts 0 (clearFrom (law15_GraphSame.live 4) 0 [(.slice pA pn pc), undef, undef, undef, undef, undef, undef, (.slice gA gn gc), undef, undef, undef, undef, undef, undef, undef, undef, undef, undef, undef, (.int .i64 at_), (.int .i64 j), (.int .i64 k), undef, undef, undef, undef, undef, undef, undef, undef, undef, undef, undef, undef, undef, undef, undef, undef, undef, undef, undef, undef, undef, undef, undef, undef, undef, undef, undef, undef, undef, undef, undef, undef, undef, undef, undef, undef, undef, undef, undef, undef, undef, undef, undef, undef, undef, undef, undef, undef, undef, undef, undef, undef, undef, undef, undef, undef, undef, undef, undef, undef, undef, undef, undef, undef, undef, undef, undef, undef, undef, undef, undef, undef, undef, undef, undef, undef, undef, undef, undef, undef, undef, undef, undef, undef, undef, undef, undef, undef, undef, undef, undef, undef, undef, undef, undef, undef, undef, undef, undef, undef, undef, undef, undef, undef, undef, undef, undef, undef, undef, undef, undef, undef, undef, undef, undef, undef, undef, undef, undef, undef, undef, undef, undef, undef, undef, undef, undef, undef, undef, undef, undef, undef, undef, undef, undef, undef, undef, undef, undef, undef, undef, undef, undef, undef, undef, undef, undef, undef, undef, undef, undef, undef, undef, undef, undef, undef, undef, undef, undef, undef, undef, undef, undef, undef, undef, undef, undef, undef, undef])) w = law15_GraphSame.B4 R pA pn pc gA gn gc at_ j k w := by kernel_rfl
theorem law15_GraphSame.L4_step {R : Value → World → Prop} {pA : Option Addr} {pn : Nat} {pc : Nat} {gA : Option Addr} {gn : Nat} {gc : Nat} {at_ : Int} {j : Int} {k : Int} {w : World} (h : law15_GraphSame.B4 R pA pn pc gA gn gc at_ j k w) : law15_GraphSame.L4 R pA pn pc gA gn gc at_ j k w :=
  loop_step (live := law15_GraphSame.live) (b := 4) (x := law15_GraphSame.c4) fun ts => Eq.mpr (law15_GraphSame.B4_eq R pA pn pc gA gn gc at_ j k w ts) h
theorem law15_GraphSame.eq (R : Value → World → Prop) (pA : Option Addr) (pn : Nat) (pc : Nat) (packetA : Option Addr) (packetn : Nat) (packetc : Nat) (w : World) : fnVC Try.prog none law15_GraphSame.live Try.f9 R [(.slice pA pn pc), (.slice packetA packetn packetc)] w = law15_GraphSame.vc R pA pn pc packetA packetn packetc w := by kernel_rfl
set_option maxHeartbeats 4000000 in
theorem law15_GraphSame.ok {R : Value → World → Prop} {pA : Option Addr} {pn : Nat} {pc : Nat} {packetA : Option Addr} {packetn : Nat} {packetc : Nat} {w : World} (h : law15_GraphSame.vc R pA pn pc packetA packetn packetc w) : Run Try.prog 9 #[(.slice pA pn pc), (.slice packetA packetn packetc)] w R := by
  have h2 := Eq.mpr (law15_GraphSame.eq R pA pn pc packetA packetn packetc w) h
  exact fn_sound Try.mixed Try.func9 (by kernel_rfl) h2

end
end Go.Proofs.Ytbchjihecdkfeaa
