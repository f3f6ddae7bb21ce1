/- Printed by a program of this repo (wip/tools/gen.py) out of Lean's own print of the functions: each function's weakest precondition, and the equation that it is one. -/
import Derived.Test.YtkkfdpmjockelaaProg
import Derived.Test.YtkkfdpmjockelaaS3
import Derived.KernelRfl
namespace Go.Proofs.Ytkkfdpmjockelaa
open Go.Rd
set_option linter.unusedVariables false
set_option maxRecDepth 100000
section
theorem Try.mixed : Try.prog.follows .mixedOrders = true := by kernel_rfl

/-! ### riddle/riddleref2.Return: function 19 -/
noncomputable def ref2_Return.body : Code := bodyOf Try.f19
def ref2_Return.live : Nat → List Nat
  | _ => []
def ref2_Return.J0 (R : Value → World → Prop) (t2 : Bool) (w : World) : Prop :=
  R (.bool t2) w

@[reducible] def ref2_Return.vc (R : Value → World → Prop) (code_ : Int) (w : World) : Prop :=
  ifP ((code_ : Int) == 6) (ref2_Return.J0 R true w) (ref2_Return.J0 R ((code_ : Int) == 22) w)

theorem ref2_Return.eq (R : Value → World → Prop) (code_ : Int) (w : World) : fnVC Try.prog none ref2_Return.live Try.f19 R [(.int .u16 code_)] w = ref2_Return.vc R code_ w := by kernel_rfl
theorem ref2_Return.ok {R : Value → World → Prop} {code_ : Int} {w : World} (h : ref2_Return.vc R code_ w) : Run Try.prog 19 #[(.int .u16 code_)] w R :=
  fn_sound (args := [(.int .u16 code_)]) Try.mixed Try.func19 (by kernel_rfl) (Eq.mpr (ref2_Return.eq R code_ w) h)

/-! ### riddle/riddleref2.Jump: function 20 -/
noncomputable def ref2_Jump.body : Code := bodyOf Try.f20
def ref2_Jump.live : Nat → List Nat
  | _ => []
def ref2_Jump.J0 (R : Value → World → Prop) (t4 : Bool) (w : World) : Prop :=
  ifP t4
    (R (.bool true) w)
    (R (.bool false) w)

@[reducible] def ref2_Jump.vc (R : Value → World → Prop) (code_ : Int) (w : World) : Prop :=
  ifP ((code_ : Int) == 21)
    (ref2_Jump.J0 R ((code_ : Int) == 21) w)
    (ifP ((code_ : Int) == 29)
    (ref2_Jump.J0 R ((code_ : Int) == 29) w)
    (ifP ((code_ : Int) == 37)
    (ref2_Jump.J0 R ((code_ : Int) == 37) w)
    (ifP ((code_ : Int) == 45)
    (ref2_Jump.J0 R ((code_ : Int) == 45) w)
    (ifP ((code_ : Int) == 53)
    (ref2_Jump.J0 R ((code_ : Int) == 53) w)
    (ifP ((code_ : Int) == 61)
    (ref2_Jump.J0 R ((code_ : Int) == 61) w)
    (ifP ((code_ : Int) == 69)
    (ref2_Jump.J0 R ((code_ : Int) == 69) w)
    (ref2_Jump.J0 R ((code_ : Int) == 77) w)))))))

theorem ref2_Jump.eq (R : Value → World → Prop) (code_ : Int) (w : World) : fnVC Try.prog none ref2_Jump.live Try.f20 R [(.int .u16 code_)] w = ref2_Jump.vc R code_ w := by kernel_rfl
theorem ref2_Jump.ok {R : Value → World → Prop} {code_ : Int} {w : World} (h : ref2_Jump.vc R code_ w) : Run Try.prog 20 #[(.int .u16 code_)] w R :=
  fn_sound (args := [(.int .u16 code_)]) Try.mixed Try.func20 (by kernel_rfl) (Eq.mpr (ref2_Jump.eq R code_ w) h)

/-! ### riddle/riddleref2.Operation: function 30 -/
noncomputable def ref2_Operation.body : Code := bodyOf Try.f30
def ref2_Operation.live : Nat → List Nat
  | _ => []
def ref2_Operation.J1 (R : Value → World → Prop) (t17 : Bool) (w : World) : Prop :=
  ifP t17
    (R (.bool true) w)
    (R (.bool false) w)

def ref2_Operation.J0 (R : Value → World → Prop) (t3 : Int) (t4 : Bool) (w : World) : Prop :=
  ifP t4
    (R (.bool true) w)
    (ifP ((t3 : Int) == 100)
    (ref2_Operation.J1 R ((t3 : Int) == 100) w)
    (ifP ((t3 : Int) == 108)
    (ref2_Operation.J1 R ((t3 : Int) == 108) w)
    (ifP ((t3 : Int) == 116)
    (ref2_Operation.J1 R ((t3 : Int) == 116) w)
    (ifP ((t3 : Int) == 124)
    (ref2_Operation.J1 R ((t3 : Int) == 124) w)
    (ifP ((t3 : Int) == 148)
    (ref2_Operation.J1 R ((t3 : Int) == 148) w)
    (ifP ((t3 : Int) == 156)
    (ref2_Operation.J1 R ((t3 : Int) == 156) w)
    (ifP ((t3 : Int) == 164)
    (ref2_Operation.J1 R ((t3 : Int) == 164) w)
    (ref2_Operation.J1 R ((t3 : Int) == 172) w))))))))

@[reducible] def ref2_Operation.vc (R : Value → World → Prop) (code_ : Int) (w : World) : Prop :=
  ifP ((code_ : Int) == 4)
    (ref2_Operation.J0 R code_ ((code_ : Int) == 4) w)
    (ifP ((code_ : Int) == 12)
    (ref2_Operation.J0 R code_ ((code_ : Int) == 12) w)
    (ifP ((code_ : Int) == 20)
    (ref2_Operation.J0 R code_ ((code_ : Int) == 20) w)
    (ifP ((code_ : Int) == 28)
    (ref2_Operation.J0 R code_ ((code_ : Int) == 28) w)
    (ifP ((code_ : Int) == 36)
    (ref2_Operation.J0 R code_ ((code_ : Int) == 36) w)
    (ifP ((code_ : Int) == 44)
    (ref2_Operation.J0 R code_ ((code_ : Int) == 44) w)
    (ifP ((code_ : Int) == 52)
    (ref2_Operation.J0 R code_ ((code_ : Int) == 52) w)
    (ifP ((code_ : Int) == 60)
    (ref2_Operation.J0 R code_ ((code_ : Int) == 60) w)
    (ifP ((code_ : Int) == 68)
    (ref2_Operation.J0 R code_ ((code_ : Int) == 68) w)
    (ifP ((code_ : Int) == 76)
    (ref2_Operation.J0 R code_ ((code_ : Int) == 76) w)
    (ifP ((code_ : Int) == 84)
    (ref2_Operation.J0 R code_ ((code_ : Int) == 84) w)
    (ref2_Operation.J0 R code_ ((code_ : Int) == 92) w)))))))))))

theorem ref2_Operation.eq (R : Value → World → Prop) (code_ : Int) (w : World) : fnVC Try.prog none ref2_Operation.live Try.f30 R [(.int .u16 code_)] w = ref2_Operation.vc R code_ w := by kernel_rfl
theorem ref2_Operation.ok {R : Value → World → Prop} {code_ : Int} {w : World} (h : ref2_Operation.vc R code_ w) : Run Try.prog 30 #[(.int .u16 code_)] w R :=
  fn_sound (args := [(.int .u16 code_)]) Try.mixed Try.func30 (by kernel_rfl) (Eq.mpr (ref2_Operation.eq R code_ w) h)

/-! ### riddle/riddleref2.Known: function 21 -/
noncomputable def ref2_Known.body : Code := bodyOf Try.f21
def ref2_Known.live : Nat → List Nat
  | _ => []
def ref2_Known.J2 (R : Value → World → Prop) (t2 : Bool) (w : World) : Prop :=
  R (.bool t2) w

def ref2_Known.J1 (R : Value → World → Prop) (code_ : Int) (t14 : Bool) (w : World) : Prop :=
  ifP t14
    (R (.bool true) w)
    (Run Try.prog 20 #[(.int .u16 code_)] w fun v w_2 => ∃ t28 : Bool, v = (.bool t28) ∧ ifP t28 (ref2_Known.J2 R true w_2) (Run Try.prog 30 #[(.int .u16 code_)] w_2 fun v_2 w_3 => ∃ t31 : Bool, v_2 = (.bool t31) ∧ ref2_Known.J2 R t31 w_3))

def ref2_Known.J0 (R : Value → World → Prop) (code_ : Int) (t3 : Int) (t4 : Bool) (w : World) : Prop :=
  ifP t4
    (R (.bool true) w)
    (ifP ((t3 : Int) == 1)
    (ref2_Known.J1 R code_ ((t3 : Int) == 1) w)
    (ifP ((t3 : Int) == 97)
    (ref2_Known.J1 R code_ ((t3 : Int) == 97) w)
    (ifP ((t3 : Int) == 129)
    (ref2_Known.J1 R code_ ((t3 : Int) == 129) w)
    (ifP ((t3 : Int) == 177)
    (ref2_Known.J1 R code_ ((t3 : Int) == 177) w)
    (ifP ((t3 : Int) == 2)
    (ref2_Known.J1 R code_ ((t3 : Int) == 2) w)
    (ifP ((t3 : Int) == 3)
    (ref2_Known.J1 R code_ ((t3 : Int) == 3) w)
    (ifP ((t3 : Int) == 132)
    (ref2_Known.J1 R code_ ((t3 : Int) == 132) w)
    (ifP ((t3 : Int) == 6)
    (ref2_Known.J1 R code_ ((t3 : Int) == 6) w)
    (ifP ((t3 : Int) == 22)
    (ref2_Known.J1 R code_ ((t3 : Int) == 22) w)
    (ifP ((t3 : Int) == 7)
    (ref2_Known.J1 R code_ ((t3 : Int) == 7) w)
    (ifP ((t3 : Int) == 135)
    (ref2_Known.J1 R code_ ((t3 : Int) == 135) w)
    (ref2_Known.J1 R code_ ((t3 : Int) == 5) w))))))))))))

@[reducible] def ref2_Known.vc (R : Value → World → Prop) (code_ : Int) (w : World) : Prop :=
  ifP ((code_ : Int) == 0)
    (ref2_Known.J0 R code_ code_ ((code_ : Int) == 0) w)
    (ifP ((code_ : Int) == 32)
    (ref2_Known.J0 R code_ code_ ((code_ : Int) == 32) w)
    (ifP ((code_ : Int) == 40)
    (ref2_Known.J0 R code_ code_ ((code_ : Int) == 40) w)
    (ifP ((code_ : Int) == 48)
    (ref2_Known.J0 R code_ code_ ((code_ : Int) == 48) w)
    (ifP ((code_ : Int) == 64)
    (ref2_Known.J0 R code_ code_ ((code_ : Int) == 64) w)
    (ifP ((code_ : Int) == 72)
    (ref2_Known.J0 R code_ code_ ((code_ : Int) == 72) w)
    (ifP ((code_ : Int) == 80)
    (ref2_Known.J0 R code_ code_ ((code_ : Int) == 80) w)
    (ifP ((code_ : Int) == 96)
    (ref2_Known.J0 R code_ code_ ((code_ : Int) == 96) w)
    (ref2_Known.J0 R code_ code_ ((code_ : Int) == 128) w))))))))

theorem ref2_Known.eq (R : Value → World → Prop) (code_ : Int) (w : World) : fnVC Try.prog none ref2_Known.live Try.f21 R [(.int .u16 code_)] w = ref2_Known.vc R code_ w := by kernel_rfl
theorem ref2_Known.ok {R : Value → World → Prop} {code_ : Int} {w : World} (h : ref2_Known.vc R code_ w) : Run Try.prog 21 #[(.int .u16 code_)] w R :=
  fn_sound (args := [(.int .u16 code_)]) Try.mixed Try.func21 (by kernel_rfl) (Eq.mpr (ref2_Known.eq R code_ w) h)

/-! ### riddle/riddleref4.Fault: function 25 -/
noncomputable def ref4_Fault.body : Code := bodyOf Try.f25
def ref4_Fault.live : Nat → List Nat
  | _ => []
def ref4_Fault.J2 (R : Value → World → Prop) (t46 : Bool) (w : World) : Prop :=
  ifP t46
    (R (.int .i64 45) w)
    (R (.int .i64 0) w)

def ref4_Fault.J1 (R : Value → World → Prop) (i : Addr) (t32 : Bool) (w : World) : Prop :=
  ifP t32
    (R (.int .i64 44) w)
    (∃ t48 : Int, w.cell? i = some (.int .u16 t48) ∧ ifP ((t48 : Int) == 100) (∃ t57 : Int, w.cell? (i.add 3) = some (.int .u32 t57) ∧ ref4_Fault.J2 R (decide ((t57 : Int) > 31)) w) (∃ t52 : Int, w.cell? i = some (.int .u16 t52) ∧ ifP ((t52 : Int) == 116) (∃ t57_2 : Int, w.cell? (i.add 3) = some (.int .u32 t57_2) ∧ ref4_Fault.J2 R (decide ((t57_2 : Int) > 31)) w) (ref4_Fault.J2 R false w)))

def ref4_Fault.J0 (R : Value → World → Prop) (i : Addr) (t8 : Bool) (w : World) : Prop :=
  ifP t8
    (R (.int .i64 43) w)
    (∃ t34 : Int, w.cell? i = some (.int .u16 t34) ∧ ifP ((t34 : Int) == 52) (∃ t43 : Int, w.cell? (i.add 3) = some (.int .u32 t43) ∧ ref4_Fault.J1 R i ((t43 : Int) == 0) w) (∃ t38 : Int, w.cell? i = some (.int .u16 t38) ∧ ifP ((t38 : Int) == 148) (∃ t43_2 : Int, w.cell? (i.add 3) = some (.int .u32 t43_2) ∧ ref4_Fault.J1 R i ((t43_2 : Int) == 0) w) (ref4_Fault.J1 R i false w)))

@[reducible] def ref4_Fault.vc (R : Value → World → Prop) (i_0 : Int) (i_1 : Int) (i_2 : Int) (i_3 : Int) (w : World) : Prop :=
  letW (w.alloc (.cells #[(.int .u16 i_0), (.int .u8 i_1), (.int .u8 i_2), (.int .u32 i_3)] 39)) fun w_2 => ∃ t5 : Int, w_2.cell? (newA w) = some (.int .u16 t5) ∧ Run Try.prog 21 #[(.int .u16 t5)] w_2 fun v w_3 => ∃ t6 : Bool, v = (.bool t6) ∧ ifP (!t6)
    (R (.int .i64 42) w_3)
    (∃ t10 : Int, w_3.cell? (newA w) = some (.int .u16 t10) ∧ ifP ((t10 : Int) == 2) (∃ t29 : Int, w_3.cell? ((newA w).add 3) = some (.int .u32 t29) ∧ ref4_Fault.J0 R (newA w) (decide ((t29 : Int) ≥ 16)) w_3) (∃ t14 : Int, w_3.cell? (newA w) = some (.int .u16 t14) ∧ ifP ((t14 : Int) == 3) (∃ t29_2 : Int, w_3.cell? ((newA w).add 3) = some (.int .u32 t29_2) ∧ ref4_Fault.J0 R (newA w) (decide ((t29_2 : Int) ≥ 16)) w_3) (∃ t19 : Int, w_3.cell? (newA w) = some (.int .u16 t19) ∧ ifP ((t19 : Int) == 96) (∃ t29_3 : Int, w_3.cell? ((newA w).add 3) = some (.int .u32 t29_3) ∧ ref4_Fault.J0 R (newA w) (decide ((t29_3 : Int) ≥ 16)) w_3) (∃ t24 : Int, w_3.cell? (newA w) = some (.int .u16 t24) ∧ ifP ((t24 : Int) == 97) (∃ t29_4 : Int, w_3.cell? ((newA w).add 3) = some (.int .u32 t29_4) ∧ ref4_Fault.J0 R (newA w) (decide ((t29_4 : Int) ≥ 16)) w_3) (ref4_Fault.J0 R (newA w) false w_3)))))

theorem ref4_Fault.eq (R : Value → World → Prop) (i_0 : Int) (i_1 : Int) (i_2 : Int) (i_3 : Int) (w : World) : fnVC Try.prog none ref4_Fault.live Try.f25 R [(.agg #[(.int .u16 i_0), (.int .u8 i_1), (.int .u8 i_2), (.int .u32 i_3)])] w = ref4_Fault.vc R i_0 i_1 i_2 i_3 w := by kernel_rfl
theorem ref4_Fault.ok {R : Value → World → Prop} {i_0 : Int} {i_1 : Int} {i_2 : Int} {i_3 : Int} {w : World} (h : ref4_Fault.vc R i_0 i_1 i_2 i_3 w) : Run Try.prog 25 #[(.agg #[(.int .u16 i_0), (.int .u8 i_1), (.int .u8 i_2), (.int .u32 i_3)])] w R :=
  fn_sound (args := [(.agg #[(.int .u16 i_0), (.int .u8 i_1), (.int .u8 i_2), (.int .u32 i_3)])]) Try.mixed Try.func25 (by kernel_rfl) (Eq.mpr (ref4_Fault.eq R i_0 i_1 i_2 i_3 w) h)

/-! ### riddle/riddleref4.Check: function 9 -/
noncomputable def ref4_Check.body : Code := bodyOf Try.f9
def ref4_Check.live : Nat → List Nat
  | 0 => [0, 4, 5]
  | _ => []
noncomputable def ref4_Check.c0 : Code := sub ref4_Check.body [1, 1, 1, 1, 0, 1, 0, 0]
def ref4_Check.K0 (R : Value → World → Prop) : Ex → St → World → Prop := (blockK 0 (thenK (fun st w => code Try.prog none ref4_Check.live 0 (sub ref4_Check.body [1, 1, 1, 1, 1]) (retK Try.prog Try.f9 R) st w) (retK Try.prog Try.f9 R)))
def ref4_Check.L0 (R : Value → World → Prop) (pA : Option Addr) (pn : Nat) (pc : Nat) (n : Int) (i : Int) (w : World) : Prop :=
  loopVC (fun K => code Try.prog none ref4_Check.live 0 ref4_Check.c0 K) (ref4_Check.live 0) (ref4_Check.K0 R) [(.slice pA pn pc), undef, undef, undef, (.int .i64 n), (.int .i64 i), undef, undef, undef, undef, undef, undef, undef, undef, undef, undef, undef, undef, undef, undef, undef, undef, undef, undef, undef, undef, undef, undef, undef, undef, undef, undef, undef, undef, undef, undef, undef, undef, undef, undef, undef, undef, undef, undef, undef, undef, undef, undef, undef, undef, undef, undef, undef, undef, undef, undef, undef, undef, undef, undef, undef, undef, undef, undef, undef, undef, undef, undef, undef, undef, undef, undef, undef, undef, undef, undef, undef, undef, undef, undef, undef, undef, undef, undef, undef, undef, undef] w
def ref4_Check.J0 (R : Value → World → Prop) (pA : Option Addr) (pn : Nat) (pc : Nat) (n : Int) (i : Int) (t75 : Bool) (w : World) : Prop :=
  ifP t75
    (R (.tuple #[(.int .i64 i), (.int .i64 46)]) w)
    (ref4_Check.L0 R pA pn pc n (IntKind.i64.wrap (i + 1)) w)

@[reducible] def ref4_Check.B0 (R : Value → World → Prop) (pA : Option Addr) (pn : Nat) (pc : Nat) (n : Int) (i : Int) (w : World) : Prop :=
  ifP (decide ((i : Int) < n))
    (0 ≤ (i : Int) ∧ (i : Int) < ((pn : Nat) : Int) ∧ ∃ t21p : Addr, pA = some t21p ∧ ∃ t22_0 : Int, w.cell? (t21p.add (Int.toNat i * 4)) = some (.int .u16 t22_0) ∧ ∃ t22_1 : Int, w.cell? ((t21p.add (Int.toNat i * 4)).add 1) = some (.int .u8 t22_1) ∧ ∃ t22_2 : Int, w.cell? ((t21p.add (Int.toNat i * 4)).add 2) = some (.int .u8 t22_2) ∧ ∃ t22_3 : Int, w.cell? ((t21p.add (Int.toNat i * 4)).add 3) = some (.int .u32 t22_3) ∧ Run Try.prog 25 #[(.agg #[(.int .u16 t22_0), (.int .u8 t22_1), (.int .u8 t22_2), (.int .u32 t22_3)])] w fun v w_2 => ∃ t23 : Int, v = (.int .i64 t23) ∧ ifP ((t23 : Int) != 0)
    (R (.tuple #[(.int .i64 i), (.int .i64 t23)]) w_2)
    (0 ≤ (i : Int) ∧ (i : Int) < ((pn : Nat) : Int) ∧ ∃ t34p : Addr, pA = some t34p ∧ ∃ t36 : Int, w_2.cell? (t34p.add (Int.toNat i * 4)) = some (.int .u16 t36) ∧ ifP ((t36 : Int) == 5) (0 ≤ (i : Int) ∧ (i : Int) < ((pn : Nat) : Int) ∧ ∃ t41p : Addr, pA = some t41p ∧ ∃ t43 : Int, w_2.cell? ((t41p.add (Int.toNat i * 4)).add 3) = some (.int .u32 t43) ∧ ifP (decide ((t43 : Int) ≥ (IntKind.u32.wrap (IntKind.i64.wrap ((IntKind.i64.wrap (n - 1)) - i))))) (ref4_Check.J0 R pA pn pc n i true w_2) (0 ≤ (i : Int) ∧ (i : Int) < ((pn : Nat) : Int) ∧ ∃ t51p : Addr, pA = some t51p ∧ ∃ t53 : Int, w_2.cell? (t51p.add (Int.toNat i * 4)) = some (.int .u16 t53) ∧ Run Try.prog 20 #[(.int .u16 t53)] w_2 fun v_2 w_3 => ∃ t54 : Bool, v_2 = (.bool t54) ∧ ifP t54 (0 ≤ (i : Int) ∧ (i : Int) < ((pn : Nat) : Int) ∧ ∃ t58p : Addr, pA = some t58p ∧ ∃ t60 : Int, w_3.cell? ((t58p.add (Int.toNat i * 4)).add 1) = some (.int .u8 t60) ∧ ifP (decide ((IntKind.i64.wrap t60 : Int) ≥ (IntKind.i64.wrap ((IntKind.i64.wrap (n - 1)) - i)))) (ref4_Check.J0 R pA pn pc n i true w_3) (0 ≤ (i : Int) ∧ (i : Int) < ((pn : Nat) : Int) ∧ ∃ t67p : Addr, pA = some t67p ∧ ∃ t69 : Int, w_3.cell? ((t67p.add (Int.toNat i * 4)).add 2) = some (.int .u8 t69) ∧ ref4_Check.J0 R pA pn pc n i (decide ((IntKind.i64.wrap t69 : Int) ≥ (IntKind.i64.wrap ((IntKind.i64.wrap (n - 1)) - i)))) w_3)) (ref4_Check.J0 R pA pn pc n i false w_3))) (0 ≤ (i : Int) ∧ (i : Int) < ((pn : Nat) : Int) ∧ ∃ t51p_2 : Addr, pA = some t51p_2 ∧ ∃ t53_2 : Int, w_2.cell? (t51p_2.add (Int.toNat i * 4)) = some (.int .u16 t53_2) ∧ Run Try.prog 20 #[(.int .u16 t53_2)] w_2 fun v_3 w_4 => ∃ t54_2 : Bool, v_3 = (.bool t54_2) ∧ ifP t54_2 (0 ≤ (i : Int) ∧ (i : Int) < ((pn : Nat) : Int) ∧ ∃ t58p_2 : Addr, pA = some t58p_2 ∧ ∃ t60_2 : Int, w_4.cell? ((t58p_2.add (Int.toNat i * 4)).add 1) = some (.int .u8 t60_2) ∧ ifP (decide ((IntKind.i64.wrap t60_2 : Int) ≥ (IntKind.i64.wrap ((IntKind.i64.wrap (n - 1)) - i)))) (ref4_Check.J0 R pA pn pc n i true w_4) (0 ≤ (i : Int) ∧ (i : Int) < ((pn : Nat) : Int) ∧ ∃ t67p_2 : Addr, pA = some t67p_2 ∧ ∃ t69_2 : Int, w_4.cell? ((t67p_2.add (Int.toNat i * 4)).add 2) = some (.int .u8 t69_2) ∧ ref4_Check.J0 R pA pn pc n i (decide ((IntKind.i64.wrap t69_2 : Int) ≥ (IntKind.i64.wrap ((IntKind.i64.wrap (n - 1)) - i)))) w_4)) (ref4_Check.J0 R pA pn pc n i false w_4))))
    (0 ≤ (IntKind.i64.wrap (n - 1) : Int) ∧ (IntKind.i64.wrap (n - 1) : Int) < ((pn : Nat) : Int) ∧ ∃ t80p : Addr, pA = some t80p ∧ ∃ t82 : Int, w.cell? (t80p.add (Int.toNat (IntKind.i64.wrap (n - 1)) * 4)) = some (.int .u16 t82) ∧ Run Try.prog 19 #[(.int .u16 t82)] w fun v_4 w_5 => ∃ t83 : Bool, v_4 = (.bool t83) ∧ ifP (!t83)
    (R (.tuple #[(.int .i64 (IntKind.i64.wrap (n - 1))), (.int .i64 47)]) w_5)
    (R (.tuple #[(.int .i64 0), (.int .i64 0)]) w_5))

@[reducible] def ref4_Check.vc (R : Value → World → Prop) (pA : Option Addr) (pn : Nat) (pc : Nat) (w : World) : Prop :=
  ifP ((((pn : Nat) : Int) : Int) == 0)
    (R (.tuple #[(.int .i64 0), (.int .i64 40)]) w)
    (ifP (decide ((((pn : Nat) : Int) : Int) > 4096))
    (R (.tuple #[(.int .i64 4096), (.int .i64 41)]) w)
    (ref4_Check.L0 R pA pn pc ((pn : Nat) : Int) 0 w))

theorem ref4_Check.B0_eq (R : Value → World → Prop) (pA : Option Addr) (pn : Nat) (pc : Nat) (n : Int) (i : Int) (w : World) (ts : Nat → Value) :
    code Try.prog none ref4_Check.live 0 ref4_Check.c0 (thenK (fun st w => loopVC (fun K => code Try.prog none ref4_Check.live 0 ref4_Check.c0 K) (ref4_Check.live 0) (ref4_Check.K0 R) (clearFrom (ref4_Check.live 0) 0 st) w) (ref4_Check.K0 R)) (mergeFrom (ref4_Check.live 0) ts 0 (clearFrom (ref4_Check.live 0) 0 [(.slice pA pn pc), undef, undef, undef, (.int .i64 n), (.int .i64 i), undef, undef, undef, undef, undef, undef, undef, undef, undef, undef, undef, undef, undef, undef, undef, undef, undef, undef, undef, undef, undef, undef, undef, undef, undef, undef, undef, undef, undef, undef, undef, undef, undef, undef, undef, undef, undef, undef, undef, undef, undef, undef, undef, undef, undef, undef, undef, undef, undef, undef, undef, undef, undef, undef, undef, undef, undef, undef, undef, undef, undef, undef, undef, undef, undef, undef, undef, undef, undef, undef, undef, undef, undef, undef, undef, undef, undef, undef, undef, undef, undef])) w = ref4_Check.B0 R pA pn pc n i w := by kernel_rfl
theorem ref4_Check.L0_step {R : Value → World → Prop} {pA : Option Addr} {pn : Nat} {pc : Nat} {n : Int} {i : Int} {w : World} (h : ref4_Check.B0 R pA pn pc n i w) : ref4_Check.L0 R pA pn pc n i w :=
  loop_step (live := ref4_Check.live) (b := 0) (x := ref4_Check.c0) fun ts => Eq.mpr (ref4_Check.B0_eq R pA pn pc n i w ts) h
theorem ref4_Check.eq (R : Value → World → Prop) (pA : Option Addr) (pn : Nat) (pc : Nat) (w : World) : fnVC Try.prog none ref4_Check.live Try.f9 R [(.slice pA pn pc)] w = ref4_Check.vc R pA pn pc w := by kernel_rfl
theorem ref4_Check.ok {R : Value → World → Prop} {pA : Option Addr} {pn : Nat} {pc : Nat} {w : World} (h : ref4_Check.vc R pA pn pc w) : Run Try.prog 9 #[(.slice pA pn pc)] w R :=
  fn_sound (args := [(.slice pA pn pc)]) Try.mixed Try.func9 (by kernel_rfl) (Eq.mpr (ref4_Check.eq R pA pn pc w) h)

/-! ### riddle/riddlelaw0.CopyInsns: function 16 -/
noncomputable def law0_CopyInsns.body : Code := bodyOf Try.f16
def law0_CopyInsns.live : Nat → List Nat
  | _ => []
@[reducible] def law0_CopyInsns.vc (R : Value → World → Prop) (aA : Option Addr) (an : Nat) (ac : Nat) (w : World) : Prop :=
  letW (w.alloc (.cells #[] 39)) fun w_2 => ∃ (v : Value) (w_3 : World), (Builtin.append_ #[22, 22] 22 #[(.slice (some (newA w)) 0 0), (.slice aA an ac)]).run Try.prog w_2 = .ok v w_3 ∧ ∃ (t5A : Option Addr) (t5n t5c : Nat), v = (.slice t5A t5n t5c) ∧ R (.slice t5A t5n t5c) w_3

theorem law0_CopyInsns.eq (R : Value → World → Prop) (aA : Option Addr) (an : Nat) (ac : Nat) (w : World) : fnVC Try.prog none law0_CopyInsns.live Try.f16 R [(.slice aA an ac)] w = law0_CopyInsns.vc R aA an ac w := by kernel_rfl
theorem law0_CopyInsns.ok {R : Value → World → Prop} {aA : Option Addr} {an : Nat} {ac : Nat} {w : World} (h : law0_CopyInsns.vc R aA an ac w) : Run Try.prog 16 #[(.slice aA an ac)] w R :=
  fn_sound (args := [(.slice aA an ac)]) Try.mixed Try.func16 (by kernel_rfl) (Eq.mpr (law0_CopyInsns.eq R aA an ac w) h)

/-! ### riddle/riddlelaw0.LendInsns: function 10 -/
noncomputable def law0_LendInsns.body : Code := bodyOf Try.f10
def law0_LendInsns.live : Nat → List Nat
  | _ => []
@[reducible] def law0_LendInsns.vc (R : Value → World → Prop) (aA : Option Addr) (an : Nat) (ac : Nat) (w : World) : Prop :=
  Run Try.prog 16 #[(.slice aA an ac)] w fun v w_2 => ∃ (t5A : Option Addr) (t5n t5c : Nat), v = (.slice t5A t5n t5c) ∧ letW (w_2.alloc (.cells #[(.int .u16 7), (.int .u8 0), (.int .u8 0), (.int .u32 77), (.int .u16 7), (.int .u8 0), (.int .u8 0), (.int .u32 77), (.int .u16 7), (.int .u8 0), (.int .u8 0), (.int .u32 77)] 39)) fun w_3 => ∃ (v_2 : Value) (w_4 : World), (Builtin.append_ #[22, 22] 22 #[(.slice t5A t5n t5c), (.slice (some (newA w_2)) 3 3)]).run Try.prog w_3 = .ok v_2 w_4 ∧ ∃ (t10A : Option Addr) (t10n t10c : Nat), v_2 = (.slice t10A t10n t10c) ∧ (0 : Int) ≤ 0 ∧ (0 : Int) ≤ ((an : Nat) : Int) ∧ (((an : Nat) : Int) : Int) ≤ ((t10c : Nat) : Int) ∧ R (.slice (subA t10A t10c 0 4) ((Int.toNat ((an : Nat) : Int)) - 0) (t10c - 0)) w_4

theorem law0_LendInsns.eq (R : Value → World → Prop) (aA : Option Addr) (an : Nat) (ac : Nat) (w : World) : fnVC Try.prog none law0_LendInsns.live Try.f10 R [(.slice aA an ac)] w = law0_LendInsns.vc R aA an ac w := by kernel_rfl
theorem law0_LendInsns.ok {R : Value → World → Prop} {aA : Option Addr} {an : Nat} {ac : Nat} {w : World} (h : law0_LendInsns.vc R aA an ac w) : Run Try.prog 10 #[(.slice aA an ac)] w R :=
  fn_sound (args := [(.slice aA an ac)]) Try.mixed Try.func10 (by kernel_rfl) (Eq.mpr (law0_LendInsns.eq R aA an ac w) h)

/-! ### riddle/check.asked$1: function 32 -/
noncomputable def check_asked_1.body : Code := bodyOf Try.f32
def check_asked_1.live : Nat → List Nat
  | _ => []
@[reducible] def check_asked_1.vc (R : Value → World → Prop) (bad : Bool) (e : Int) (w : World) : Prop :=
  ifP bad
    (R (.int .i64 e) w)
    (R (.int .i64 0) w)

theorem check_asked_1.eq (R : Value → World → Prop) (bad : Bool) (e : Int) (w : World) : fnVC Try.prog none check_asked_1.live Try.f32 R [(.bool bad), (.int .i64 e)] w = check_asked_1.vc R bad e w := by kernel_rfl
theorem check_asked_1.ok {R : Value → World → Prop} {bad : Bool} {e : Int} {w : World} (h : check_asked_1.vc R bad e w) : Run Try.prog 32 #[(.bool bad), (.int .i64 e)] w R :=
  fn_sound (args := [(.bool bad), (.int .i64 e)]) Try.mixed Try.func32 (by kernel_rfl) (Eq.mpr (check_asked_1.eq R bad e w) h)

/-! ### riddle/insn.alu: function 42 -/
noncomputable def insn_alu.body : Code := bodyOf Try.f42
def insn_alu.live : Nat → List Nat
  | _ => []
def insn_alu.J1 (R : Value → World → Prop) (w : World) : Prop :=
  R (.bool true) w

def insn_alu.J2 (R : Value → World → Prop) (t3 : Int) (t15 : Bool) (w : World) : Prop :=
  ifP t15
    (insn_alu.J1 R w)
    (ifP ((t3 : Int) == 132)
    (insn_alu.J1 R w)
    (R (.bool false) w))

def insn_alu.J0 (R : Value → World → Prop) (t3 : Int) (t4 : Bool) (w : World) : Prop :=
  ifP t4
    (insn_alu.J1 R w)
    (ifP ((t3 : Int) == 12)
    (insn_alu.J2 R t3 ((t3 : Int) == 12) w)
    (ifP ((t3 : Int) == 28)
    (insn_alu.J2 R t3 ((t3 : Int) == 28) w)
    (ifP ((t3 : Int) == 44)
    (insn_alu.J2 R t3 ((t3 : Int) == 44) w)
    (ifP ((t3 : Int) == 60)
    (insn_alu.J2 R t3 ((t3 : Int) == 60) w)
    (ifP ((t3 : Int) == 76)
    (insn_alu.J2 R t3 ((t3 : Int) == 76) w)
    (ifP ((t3 : Int) == 92)
    (insn_alu.J2 R t3 ((t3 : Int) == 92) w)
    (ifP ((t3 : Int) == 108)
    (insn_alu.J2 R t3 ((t3 : Int) == 108) w)
    (ifP ((t3 : Int) == 124)
    (insn_alu.J2 R t3 ((t3 : Int) == 124) w)
    (ifP ((t3 : Int) == 156)
    (insn_alu.J2 R t3 ((t3 : Int) == 156) w)
    (insn_alu.J2 R t3 ((t3 : Int) == 172) w))))))))))

@[reducible] def insn_alu.vc (R : Value → World → Prop) (code_ : Int) (w : World) : Prop :=
  ifP ((code_ : Int) == 4)
    (insn_alu.J0 R code_ ((code_ : Int) == 4) w)
    (ifP ((code_ : Int) == 20)
    (insn_alu.J0 R code_ ((code_ : Int) == 20) w)
    (ifP ((code_ : Int) == 36)
    (insn_alu.J0 R code_ ((code_ : Int) == 36) w)
    (ifP ((code_ : Int) == 52)
    (insn_alu.J0 R code_ ((code_ : Int) == 52) w)
    (ifP ((code_ : Int) == 68)
    (insn_alu.J0 R code_ ((code_ : Int) == 68) w)
    (ifP ((code_ : Int) == 84)
    (insn_alu.J0 R code_ ((code_ : Int) == 84) w)
    (ifP ((code_ : Int) == 100)
    (insn_alu.J0 R code_ ((code_ : Int) == 100) w)
    (ifP ((code_ : Int) == 116)
    (insn_alu.J0 R code_ ((code_ : Int) == 116) w)
    (ifP ((code_ : Int) == 148)
    (insn_alu.J0 R code_ ((code_ : Int) == 148) w)
    (insn_alu.J0 R code_ ((code_ : Int) == 164) w)))))))))

theorem insn_alu.eq (R : Value → World → Prop) (code_ : Int) (w : World) : fnVC Try.prog none insn_alu.live Try.f42 R [(.int .u16 code_)] w = insn_alu.vc R code_ w := by kernel_rfl
theorem insn_alu.ok {R : Value → World → Prop} {code_ : Int} {w : World} (h : insn_alu.vc R code_ w) : Run Try.prog 42 #[(.int .u16 code_)] w R :=
  fn_sound (args := [(.int .u16 code_)]) Try.mixed Try.func42 (by kernel_rfl) (Eq.mpr (insn_alu.eq R code_ w) h)

/-! ### riddle/insn.test: function 43 -/
noncomputable def insn_test.body : Code := bodyOf Try.f43
def insn_test.live : Nat → List Nat
  | _ => []
def insn_test.J1 (R : Value → World → Prop) (w : World) : Prop :=
  R (.bool true) w

def insn_test.J2 (R : Value → World → Prop) (t9 : Bool) (w : World) : Prop :=
  ifP t9
    (insn_test.J1 R w)
    (R (.bool false) w)

def insn_test.J0 (R : Value → World → Prop) (t3 : Int) (t4 : Bool) (w : World) : Prop :=
  ifP t4
    (insn_test.J1 R w)
    (ifP ((t3 : Int) == 29)
    (insn_test.J2 R ((t3 : Int) == 29) w)
    (ifP ((t3 : Int) == 45)
    (insn_test.J2 R ((t3 : Int) == 45) w)
    (ifP ((t3 : Int) == 61)
    (insn_test.J2 R ((t3 : Int) == 61) w)
    (insn_test.J2 R ((t3 : Int) == 77) w))))

@[reducible] def insn_test.vc (R : Value → World → Prop) (code_ : Int) (w : World) : Prop :=
  ifP ((code_ : Int) == 21)
    (insn_test.J0 R code_ ((code_ : Int) == 21) w)
    (ifP ((code_ : Int) == 37)
    (insn_test.J0 R code_ ((code_ : Int) == 37) w)
    (ifP ((code_ : Int) == 53)
    (insn_test.J0 R code_ ((code_ : Int) == 53) w)
    (insn_test.J0 R code_ ((code_ : Int) == 69) w)))

theorem insn_test.eq (R : Value → World → Prop) (code_ : Int) (w : World) : fnVC Try.prog none insn_test.live Try.f43 R [(.int .u16 code_)] w = insn_test.vc R code_ w := by kernel_rfl
theorem insn_test.ok {R : Value → World → Prop} {code_ : Int} {w : World} (h : insn_test.vc R code_ w) : Run Try.prog 43 #[(.int .u16 code_)] w R :=
  fn_sound (args := [(.int .u16 code_)]) Try.mixed Try.func43 (by kernel_rfl) (Eq.mpr (insn_test.eq R code_ w) h)

/-! ### riddle/insn.Known: function 34 -/
noncomputable def insn_Known.body : Code := bodyOf Try.f34
def insn_Known.live : Nat → List Nat
  | _ => []
def insn_Known.J1 (R : Value → World → Prop) (w : World) : Prop :=
  R (.bool true) w

def insn_Known.J4 (R : Value → World → Prop) (t2 : Bool) (w : World) : Prop :=
  R (.bool t2) w

def insn_Known.J3 (R : Value → World → Prop) (code_ : Int) (t19 : Bool) (w : World) : Prop :=
  ifP t19
    (insn_Known.J1 R w)
    (Run Try.prog 42 #[(.int .u16 code_)] w fun v w_2 => ∃ t28 : Bool, v = (.bool t28) ∧ ifP t28 (insn_Known.J4 R true w_2) (Run Try.prog 43 #[(.int .u16 code_)] w_2 fun v_2 w_3 => ∃ t31 : Bool, v_2 = (.bool t31) ∧ insn_Known.J4 R t31 w_3))

def insn_Known.J2 (R : Value → World → Prop) (code_ : Int) (t3 : Int) (t14 : Bool) (w : World) : Prop :=
  ifP t14
    (insn_Known.J1 R w)
    (ifP ((t3 : Int) == 2)
    (insn_Known.J3 R code_ ((t3 : Int) == 2) w)
    (ifP ((t3 : Int) == 3)
    (insn_Known.J3 R code_ ((t3 : Int) == 3) w)
    (ifP ((t3 : Int) == 6)
    (insn_Known.J3 R code_ ((t3 : Int) == 6) w)
    (ifP ((t3 : Int) == 22)
    (insn_Known.J3 R code_ ((t3 : Int) == 22) w)
    (ifP ((t3 : Int) == 7)
    (insn_Known.J3 R code_ ((t3 : Int) == 7) w)
    (ifP ((t3 : Int) == 135)
    (insn_Known.J3 R code_ ((t3 : Int) == 135) w)
    (insn_Known.J3 R code_ ((t3 : Int) == 5) w)))))))

def insn_Known.J0 (R : Value → World → Prop) (code_ : Int) (t3 : Int) (t4 : Bool) (w : World) : Prop :=
  ifP t4
    (insn_Known.J1 R w)
    (ifP ((t3 : Int) == 1)
    (insn_Known.J2 R code_ t3 ((t3 : Int) == 1) w)
    (ifP ((t3 : Int) == 97)
    (insn_Known.J2 R code_ t3 ((t3 : Int) == 97) w)
    (ifP ((t3 : Int) == 129)
    (insn_Known.J2 R code_ t3 ((t3 : Int) == 129) w)
    (insn_Known.J2 R code_ t3 ((t3 : Int) == 177) w))))

@[reducible] def insn_Known.vc (R : Value → World → Prop) (code_ : Int) (w : World) : Prop :=
  ifP ((code_ : Int) == 0)
    (insn_Known.J0 R code_ code_ ((code_ : Int) == 0) w)
    (ifP ((code_ : Int) == 32)
    (insn_Known.J0 R code_ code_ ((code_ : Int) == 32) w)
    (ifP ((code_ : Int) == 40)
    (insn_Known.J0 R code_ code_ ((code_ : Int) == 40) w)
    (ifP ((code_ : Int) == 48)
    (insn_Known.J0 R code_ code_ ((code_ : Int) == 48) w)
    (ifP ((code_ : Int) == 64)
    (insn_Known.J0 R code_ code_ ((code_ : Int) == 64) w)
    (ifP ((code_ : Int) == 72)
    (insn_Known.J0 R code_ code_ ((code_ : Int) == 72) w)
    (ifP ((code_ : Int) == 80)
    (insn_Known.J0 R code_ code_ ((code_ : Int) == 80) w)
    (ifP ((code_ : Int) == 96)
    (insn_Known.J0 R code_ code_ ((code_ : Int) == 96) w)
    (insn_Known.J0 R code_ code_ ((code_ : Int) == 128) w))))))))

theorem insn_Known.eq (R : Value → World → Prop) (code_ : Int) (w : World) : fnVC Try.prog none insn_Known.live Try.f34 R [(.int .u16 code_)] w = insn_Known.vc R code_ w := by kernel_rfl
theorem insn_Known.ok {R : Value → World → Prop} {code_ : Int} {w : World} (h : insn_Known.vc R code_ w) : Run Try.prog 34 #[(.int .u16 code_)] w R :=
  fn_sound (args := [(.int .u16 code_)]) Try.mixed Try.func34 (by kernel_rfl) (Eq.mpr (insn_Known.eq R code_ w) h)

/-! ### riddle/check.asked$2: function 33 -/
noncomputable def check_asked_2.body : Code := bodyOf Try.f33
def check_asked_2.live : Nat → List Nat
  | _ => []
def check_asked_2.J0 (R : Value → World → Prop) (t5 : Int) (w : World) : Prop :=
  R (.int .i64 t5) w

@[reducible] def check_asked_2.vc (R : Value → World → Prop) (at_ : Int) (i_0 : Int) (i_1 : Int) (i_2 : Int) (i_3 : Int) (t2 : Addr) (w : World) : Prop :=
  letW (w.alloc (.cells #[(.int .u16 i_0), (.int .u8 i_1), (.int .u8 i_2), (.int .u32 i_3)] 39)) fun w_2 => ∃ S_ : World → Prop, S_ w_2.drew ∧ letW w_2.drew fun w_3 => ∃ t6 : Value, (∀ u : World, S_ u → u.cell? t2 = some t6) ∧ ∃ t8 : Int, (∀ u_2 : World, S_ u_2 → u_2.cell? (newA w) = some (.int .u16 t8)) ∧ Run Try.prog 34 #[(.int .u16 t8)] w_3 fun v w_4 => ∃ t9 : Bool, v = (.bool t9) ∧ S_ w_4 ∧ ∃ (g : FuncId) (fs cs : Array Value), t6 = .func (.func g) fs cs ∧ okCall Try.prog g = true ∧ Run Try.prog g (fs ++ #[(.bool (!t9)), (.int .i64 42)] ++ cs) w_4 fun v_2 w_5 => ∃ t11 : Int, v_2 = (.int .i64 t11) ∧ check_asked_2.J0 R t11 w_5

theorem check_asked_2.eq (R : Value → World → Prop) (at_ : Int) (i_0 : Int) (i_1 : Int) (i_2 : Int) (i_3 : Int) (t2 : Addr) (w : World) : fnVC Try.prog none check_asked_2.live Try.f33 R [(.int .i64 at_), (.agg #[(.int .u16 i_0), (.int .u8 i_1), (.int .u8 i_2), (.int .u32 i_3)]), (.pointer (some t2))] w = check_asked_2.vc R at_ i_0 i_1 i_2 i_3 t2 w := by kernel_rfl
theorem check_asked_2.ok {R : Value → World → Prop} {at_ : Int} {i_0 : Int} {i_1 : Int} {i_2 : Int} {i_3 : Int} {t2 : Addr} {w : World} (h : check_asked_2.vc R at_ i_0 i_1 i_2 i_3 t2 w) : Run Try.prog 33 #[(.int .i64 at_), (.agg #[(.int .u16 i_0), (.int .u8 i_1), (.int .u8 i_2), (.int .u32 i_3)]), (.pointer (some t2))] w R :=
  fn_sound (args := [(.int .i64 at_), (.agg #[(.int .u16 i_0), (.int .u8 i_1), (.int .u8 i_2), (.int .u32 i_3)]), (.pointer (some t2))]) Try.mixed Try.func33 (by kernel_rfl) (Eq.mpr (check_asked_2.eq R at_ i_0 i_1 i_2 i_3 t2 w) h)

/-! ### riddle/check.words: function 36 -/
noncomputable def check_words.body : Code := bodyOf Try.f36
def check_words.live : Nat → List Nat
  | _ => []
def check_words.J0 (R : Value → World → Prop) (t2 : Bool) (w : World) : Prop :=
  R (.bool t2) w

@[reducible] def check_words.vc (R : Value → World → Prop) (code_ : Int) (w : World) : Prop :=
  ifP ((code_ : Int) == 2) (check_words.J0 R true w) (ifP ((code_ : Int) == 3) (check_words.J0 R true w) (ifP ((code_ : Int) == 96) (check_words.J0 R true w) (check_words.J0 R ((code_ : Int) == 97) w)))

theorem check_words.eq (R : Value → World → Prop) (code_ : Int) (w : World) : fnVC Try.prog none check_words.live Try.f36 R [(.int .u16 code_)] w = check_words.vc R code_ w := by kernel_rfl
theorem check_words.ok {R : Value → World → Prop} {code_ : Int} {w : World} (h : check_words.vc R code_ w) : Run Try.prog 36 #[(.int .u16 code_)] w R :=
  fn_sound (args := [(.int .u16 code_)]) Try.mixed Try.func36 (by kernel_rfl) (Eq.mpr (check_words.eq R code_ w) h)

/-! ### riddle/check.asked$3: function 35 -/
noncomputable def check_asked_3.body : Code := bodyOf Try.f35
def check_asked_3.live : Nat → List Nat
  | _ => []
def check_asked_3.J0 (R : Value → World → Prop) (t5 : Int) (w : World) : Prop :=
  R (.int .i64 t5) w

@[reducible] def check_asked_3.vc (R : Value → World → Prop) (at_ : Int) (i_0 : Int) (i_1 : Int) (i_2 : Int) (i_3 : Int) (t2 : Addr) (w : World) : Prop :=
  letW (w.alloc (.cells #[(.int .u16 i_0), (.int .u8 i_1), (.int .u8 i_2), (.int .u32 i_3)] 39)) fun w_2 => ∃ S_ : World → Prop, S_ w_2.drew ∧ letW w_2.drew fun w_3 => ∃ t6 : Value, (∀ u : World, S_ u → u.cell? t2 = some t6) ∧ ∃ t8 : Int, (∀ u_2 : World, S_ u_2 → u_2.cell? (newA w) = some (.int .u16 t8)) ∧ Run Try.prog 36 #[(.int .u16 t8)] w_3 fun v w_4 => ∃ t9 : Bool, v = (.bool t9) ∧ S_ w_4 ∧ ifP t9 (∃ t12 : Int, (∀ u_3 : World, S_ u_3 → u_3.cell? ((newA w).add 3) = some (.int .u32 t12)) ∧ ∃ (g : FuncId) (fs cs : Array Value), t6 = .func (.func g) fs cs ∧ okCall Try.prog g = true ∧ Run Try.prog g (fs ++ #[(.bool (decide ((t12 : Int) ≥ 16))), (.int .i64 43)] ++ cs) w_4 fun v_2 w_5 => ∃ t15 : Int, v_2 = (.int .i64 t15) ∧ check_asked_3.J0 R t15 w_5) (∃ (g_2 : FuncId) (fs_2 cs_2 : Array Value), t6 = .func (.func g_2) fs_2 cs_2 ∧ okCall Try.prog g_2 = true ∧ Run Try.prog g_2 (fs_2 ++ #[(.bool false), (.int .i64 43)] ++ cs_2) w_4 fun v_3 w_6 => ∃ t15_2 : Int, v_3 = (.int .i64 t15_2) ∧ check_asked_3.J0 R t15_2 w_6)

theorem check_asked_3.eq (R : Value → World → Prop) (at_ : Int) (i_0 : Int) (i_1 : Int) (i_2 : Int) (i_3 : Int) (t2 : Addr) (w : World) : fnVC Try.prog none check_asked_3.live Try.f35 R [(.int .i64 at_), (.agg #[(.int .u16 i_0), (.int .u8 i_1), (.int .u8 i_2), (.int .u32 i_3)]), (.pointer (some t2))] w = check_asked_3.vc R at_ i_0 i_1 i_2 i_3 t2 w := by kernel_rfl
theorem check_asked_3.ok {R : Value → World → Prop} {at_ : Int} {i_0 : Int} {i_1 : Int} {i_2 : Int} {i_3 : Int} {t2 : Addr} {w : World} (h : check_asked_3.vc R at_ i_0 i_1 i_2 i_3 t2 w) : Run Try.prog 35 #[(.int .i64 at_), (.agg #[(.int .u16 i_0), (.int .u8 i_1), (.int .u8 i_2), (.int .u32 i_3)]), (.pointer (some t2))] w R :=
  fn_sound (args := [(.int .i64 at_), (.agg #[(.int .u16 i_0), (.int .u8 i_1), (.int .u8 i_2), (.int .u32 i_3)]), (.pointer (some t2))]) Try.mixed Try.func35 (by kernel_rfl) (Eq.mpr (check_asked_3.eq R at_ i_0 i_1 i_2 i_3 t2 w) h)

/-! ### riddle/check.asked$4: function 37 -/
noncomputable def check_asked_4.body : Code := bodyOf Try.f37
def check_asked_4.live : Nat → List Nat
  | _ => []
def check_asked_4.J0 (R : Value → World → Prop) (t5 : Int) (w : World) : Prop :=
  R (.int .i64 t5) w

@[reducible] def check_asked_4.vc (R : Value → World → Prop) (at_ : Int) (i_0 : Int) (i_1 : Int) (i_2 : Int) (i_3 : Int) (t2 : Addr) (w : World) : Prop :=
  letW (w.alloc (.cells #[(.int .u16 i_0), (.int .u8 i_1), (.int .u8 i_2), (.int .u32 i_3)] 39)) fun w_2 => ∃ t6 : Value, w_2.cell? t2 = some t6 ∧ ∃ t8 : Int, w_2.cell? (newA w) = some (.int .u16 t8) ∧ ifP ((t8 : Int) == 52) (∃ t17 : Int, w_2.cell? ((newA w).add 3) = some (.int .u32 t17) ∧ ∃ (g : FuncId) (fs cs : Array Value), t6 = .func (.func g) fs cs ∧ okCall Try.prog g = true ∧ Run Try.prog g (fs ++ #[(.bool ((t17 : Int) == 0)), (.int .i64 44)] ++ cs) w_2 fun v w_3 => ∃ t20 : Int, v = (.int .i64 t20) ∧ check_asked_4.J0 R t20 w_3) (∃ t12 : Int, w_2.cell? (newA w) = some (.int .u16 t12) ∧ ifP ((t12 : Int) == 148) (∃ t17_2 : Int, w_2.cell? ((newA w).add 3) = some (.int .u32 t17_2) ∧ ∃ (g_2 : FuncId) (fs_2 cs_2 : Array Value), t6 = .func (.func g_2) fs_2 cs_2 ∧ okCall Try.prog g_2 = true ∧ Run Try.prog g_2 (fs_2 ++ #[(.bool ((t17_2 : Int) == 0)), (.int .i64 44)] ++ cs_2) w_2 fun v_2 w_4 => ∃ t20_2 : Int, v_2 = (.int .i64 t20_2) ∧ check_asked_4.J0 R t20_2 w_4) (∃ (g_3 : FuncId) (fs_3 cs_3 : Array Value), t6 = .func (.func g_3) fs_3 cs_3 ∧ okCall Try.prog g_3 = true ∧ Run Try.prog g_3 (fs_3 ++ #[(.bool false), (.int .i64 44)] ++ cs_3) w_2 fun v_3 w_5 => ∃ t20_3 : Int, v_3 = (.int .i64 t20_3) ∧ check_asked_4.J0 R t20_3 w_5))

theorem check_asked_4.eq (R : Value → World → Prop) (at_ : Int) (i_0 : Int) (i_1 : Int) (i_2 : Int) (i_3 : Int) (t2 : Addr) (w : World) : fnVC Try.prog none check_asked_4.live Try.f37 R [(.int .i64 at_), (.agg #[(.int .u16 i_0), (.int .u8 i_1), (.int .u8 i_2), (.int .u32 i_3)]), (.pointer (some t2))] w = check_asked_4.vc R at_ i_0 i_1 i_2 i_3 t2 w := by kernel_rfl
theorem check_asked_4.ok {R : Value → World → Prop} {at_ : Int} {i_0 : Int} {i_1 : Int} {i_2 : Int} {i_3 : Int} {t2 : Addr} {w : World} (h : check_asked_4.vc R at_ i_0 i_1 i_2 i_3 t2 w) : Run Try.prog 37 #[(.int .i64 at_), (.agg #[(.int .u16 i_0), (.int .u8 i_1), (.int .u8 i_2), (.int .u32 i_3)]), (.pointer (some t2))] w R :=
  fn_sound (args := [(.int .i64 at_), (.agg #[(.int .u16 i_0), (.int .u8 i_1), (.int .u8 i_2), (.int .u32 i_3)]), (.pointer (some t2))]) Try.mixed Try.func37 (by kernel_rfl) (Eq.mpr (check_asked_4.eq R at_ i_0 i_1 i_2 i_3 t2 w) h)

/-! ### riddle/check.asked$5: function 38 -/
noncomputable def check_asked_5.body : Code := bodyOf Try.f38
def check_asked_5.live : Nat → List Nat
  | _ => []
def check_asked_5.J0 (R : Value → World → Prop) (t5 : Int) (w : World) : Prop :=
  R (.int .i64 t5) w

@[reducible] def check_asked_5.vc (R : Value → World → Prop) (at_ : Int) (i_0 : Int) (i_1 : Int) (i_2 : Int) (i_3 : Int) (t2 : Addr) (w : World) : Prop :=
  letW (w.alloc (.cells #[(.int .u16 i_0), (.int .u8 i_1), (.int .u8 i_2), (.int .u32 i_3)] 39)) fun w_2 => ∃ t6 : Value, w_2.cell? t2 = some t6 ∧ ∃ t8 : Int, w_2.cell? (newA w) = some (.int .u16 t8) ∧ ifP ((t8 : Int) == 100) (∃ t17 : Int, w_2.cell? ((newA w).add 3) = some (.int .u32 t17) ∧ ∃ (g : FuncId) (fs cs : Array Value), t6 = .func (.func g) fs cs ∧ okCall Try.prog g = true ∧ Run Try.prog g (fs ++ #[(.bool (decide ((t17 : Int) > 31))), (.int .i64 45)] ++ cs) w_2 fun v w_3 => ∃ t20 : Int, v = (.int .i64 t20) ∧ check_asked_5.J0 R t20 w_3) (∃ t12 : Int, w_2.cell? (newA w) = some (.int .u16 t12) ∧ ifP ((t12 : Int) == 116) (∃ t17_2 : Int, w_2.cell? ((newA w).add 3) = some (.int .u32 t17_2) ∧ ∃ (g_2 : FuncId) (fs_2 cs_2 : Array Value), t6 = .func (.func g_2) fs_2 cs_2 ∧ okCall Try.prog g_2 = true ∧ Run Try.prog g_2 (fs_2 ++ #[(.bool (decide ((t17_2 : Int) > 31))), (.int .i64 45)] ++ cs_2) w_2 fun v_2 w_4 => ∃ t20_2 : Int, v_2 = (.int .i64 t20_2) ∧ check_asked_5.J0 R t20_2 w_4) (∃ (g_3 : FuncId) (fs_3 cs_3 : Array Value), t6 = .func (.func g_3) fs_3 cs_3 ∧ okCall Try.prog g_3 = true ∧ Run Try.prog g_3 (fs_3 ++ #[(.bool false), (.int .i64 45)] ++ cs_3) w_2 fun v_3 w_5 => ∃ t20_3 : Int, v_3 = (.int .i64 t20_3) ∧ check_asked_5.J0 R t20_3 w_5))

theorem check_asked_5.eq (R : Value → World → Prop) (at_ : Int) (i_0 : Int) (i_1 : Int) (i_2 : Int) (i_3 : Int) (t2 : Addr) (w : World) : fnVC Try.prog none check_asked_5.live Try.f38 R [(.int .i64 at_), (.agg #[(.int .u16 i_0), (.int .u8 i_1), (.int .u8 i_2), (.int .u32 i_3)]), (.pointer (some t2))] w = check_asked_5.vc R at_ i_0 i_1 i_2 i_3 t2 w := by kernel_rfl
theorem check_asked_5.ok {R : Value → World → Prop} {at_ : Int} {i_0 : Int} {i_1 : Int} {i_2 : Int} {i_3 : Int} {t2 : Addr} {w : World} (h : check_asked_5.vc R at_ i_0 i_1 i_2 i_3 t2 w) : Run Try.prog 38 #[(.int .i64 at_), (.agg #[(.int .u16 i_0), (.int .u8 i_1), (.int .u8 i_2), (.int .u32 i_3)]), (.pointer (some t2))] w R :=
  fn_sound (args := [(.int .i64 at_), (.agg #[(.int .u16 i_0), (.int .u8 i_1), (.int .u8 i_2), (.int .u32 i_3)]), (.pointer (some t2))]) Try.mixed Try.func38 (by kernel_rfl) (Eq.mpr (check_asked_5.eq R at_ i_0 i_1 i_2 i_3 t2 w) h)

/-! ### riddle/insn.Class: function 27 -/
noncomputable def insn_Class.body : Code := bodyOf Try.f27
def insn_Class.live : Nat → List Nat
  | _ => []
@[reducible] def insn_Class.vc (R : Value → World → Prop) (code_ : Int) (w : World) : Prop :=
  Run Try.prog 34 #[(.int .u16 code_)] w fun v w_2 => ∃ t4 : Bool, v = (.bool t4) ∧ ifP (!t4)
    (R (.int .i64 (-1)) w_2)
    (R (.int .i64 (IntKind.i64.wrap (andI .u16 code_ 7))) w_2)

theorem insn_Class.eq (R : Value → World → Prop) (code_ : Int) (w : World) : fnVC Try.prog none insn_Class.live Try.f27 R [(.int .u16 code_)] w = insn_Class.vc R code_ w := by kernel_rfl
theorem insn_Class.ok {R : Value → World → Prop} {code_ : Int} {w : World} (h : insn_Class.vc R code_ w) : Run Try.prog 27 #[(.int .u16 code_)] w R :=
  fn_sound (args := [(.int .u16 code_)]) Try.mixed Try.func27 (by kernel_rfl) (Eq.mpr (insn_Class.eq R code_ w) h)

/-! ### riddle/check.astray: function 40 -/
noncomputable def check_astray.body : Code := bodyOf Try.f40
def check_astray.live : Nat → List Nat
  | _ => []
def check_astray.J0 (R : Value → World → Prop) (t4 : Bool) (w : World) : Prop :=
  R (.bool t4) w

@[reducible] def check_astray.vc (R : Value → World → Prop) (i_0 : Int) (i_1 : Int) (i_2 : Int) (i_3 : Int) (left : Int) (w : World) : Prop :=
  letW (w.alloc (.cells #[(.int .u16 i_0), (.int .u8 i_1), (.int .u8 i_2), (.int .u32 i_3)] 39)) fun w_2 => ∃ t6 : Int, w_2.cell? (newA w) = some (.int .u16 t6) ∧ Run Try.prog 27 #[(.int .u16 t6)] w_2 fun v w_3 => ∃ t7 : Int, v = (.int .i64 t7) ∧ ifP ((t7 : Int) != 5)
    (R (.bool false) w_3)
    (∃ t10 : Int, w_3.cell? (newA w) = some (.int .u16 t10) ∧ ifP ((t10 : Int) == 5)
    (∃ t13 : Int, w_3.cell? ((newA w).add 3) = some (.int .u32 t13) ∧ R (.bool (decide ((IntKind.u64.wrap t13 : Int) ≥ (IntKind.u64.wrap left)))) w_3)
    (∃ t19 : Int, w_3.cell? ((newA w).add 1) = some (.int .u8 t19) ∧ ifP (decide ((IntKind.i64.wrap t19 : Int) ≥ left)) (check_astray.J0 R true w_3) (∃ t25 : Int, w_3.cell? ((newA w).add 2) = some (.int .u8 t25) ∧ check_astray.J0 R (decide ((IntKind.i64.wrap t25 : Int) ≥ left)) w_3)))

theorem check_astray.eq (R : Value → World → Prop) (i_0 : Int) (i_1 : Int) (i_2 : Int) (i_3 : Int) (left : Int) (w : World) : fnVC Try.prog none check_astray.live Try.f40 R [(.agg #[(.int .u16 i_0), (.int .u8 i_1), (.int .u8 i_2), (.int .u32 i_3)]), (.int .i64 left)] w = check_astray.vc R i_0 i_1 i_2 i_3 left w := by kernel_rfl
theorem check_astray.ok {R : Value → World → Prop} {i_0 : Int} {i_1 : Int} {i_2 : Int} {i_3 : Int} {left : Int} {w : World} (h : check_astray.vc R i_0 i_1 i_2 i_3 left w) : Run Try.prog 40 #[(.agg #[(.int .u16 i_0), (.int .u8 i_1), (.int .u8 i_2), (.int .u32 i_3)]), (.int .i64 left)] w R :=
  fn_sound (args := [(.agg #[(.int .u16 i_0), (.int .u8 i_1), (.int .u8 i_2), (.int .u32 i_3)]), (.int .i64 left)]) Try.mixed Try.func40 (by kernel_rfl) (Eq.mpr (check_astray.eq R i_0 i_1 i_2 i_3 left w) h)

/-! ### riddle/check.asked$6: function 39 -/
noncomputable def check_asked_6.body : Code := bodyOf Try.f39
def check_asked_6.live : Nat → List Nat
  | _ => []
def check_asked_6.J0 (R : Value → World → Prop) (t6 : Int) (w : World) : Prop :=
  R (.int .i64 t6) w

@[reducible] def check_asked_6.vc (R : Value → World → Prop) (at_ : Int) (i_0 : Int) (i_1 : Int) (i_2 : Int) (i_3 : Int) (t2 : Addr) (t3 : Addr) (w : World) : Prop :=
  letW (w.alloc (.cells #[(.int .u16 i_0), (.int .u8 i_1), (.int .u8 i_2), (.int .u32 i_3)] 39)) fun w_2 => ∃ S_ : World → Prop, S_ w_2.drew ∧ letW w_2.drew fun w_3 => ∃ t7 : Value, (∀ u : World, S_ u → u.cell? t2 = some t7) ∧ ∃ t8_0 : Int, (∀ u_2 : World, S_ u_2 → u_2.cell? (newA w) = some (.int .u16 t8_0)) ∧ ∃ t8_1 : Int, (∀ u_3 : World, S_ u_3 → u_3.cell? ((newA w).add 1) = some (.int .u8 t8_1)) ∧ ∃ t8_2 : Int, (∀ u_4 : World, S_ u_4 → u_4.cell? ((newA w).add 2) = some (.int .u8 t8_2)) ∧ ∃ t8_3 : Int, (∀ u_5 : World, S_ u_5 → u_5.cell? ((newA w).add 3) = some (.int .u32 t8_3)) ∧ ∃ t9 : Int, (∀ u_6 : World, S_ u_6 → u_6.cell? t3 = some (.int .i64 t9)) ∧ Run Try.prog 40 #[(.agg #[(.int .u16 t8_0), (.int .u8 t8_1), (.int .u8 t8_2), (.int .u32 t8_3)]), (.int .i64 (IntKind.i64.wrap ((IntKind.i64.wrap (t9 - 1)) - at_)))] w_3 fun v w_4 => ∃ t13 : Bool, v = (.bool t13) ∧ S_ w_4 ∧ ∃ (g : FuncId) (fs cs : Array Value), t7 = .func (.func g) fs cs ∧ okCall Try.prog g = true ∧ Run Try.prog g (fs ++ #[(.bool t13), (.int .i64 46)] ++ cs) w_4 fun v_2 w_5 => ∃ t14 : Int, v_2 = (.int .i64 t14) ∧ check_asked_6.J0 R t14 w_5

theorem check_asked_6.eq (R : Value → World → Prop) (at_ : Int) (i_0 : Int) (i_1 : Int) (i_2 : Int) (i_3 : Int) (t2 : Addr) (t3 : Addr) (w : World) : fnVC Try.prog none check_asked_6.live Try.f39 R [(.int .i64 at_), (.agg #[(.int .u16 i_0), (.int .u8 i_1), (.int .u8 i_2), (.int .u32 i_3)]), (.pointer (some t2)), (.pointer (some t3))] w = check_asked_6.vc R at_ i_0 i_1 i_2 i_3 t2 t3 w := by kernel_rfl
theorem check_asked_6.ok {R : Value → World → Prop} {at_ : Int} {i_0 : Int} {i_1 : Int} {i_2 : Int} {i_3 : Int} {t2 : Addr} {t3 : Addr} {w : World} (h : check_asked_6.vc R at_ i_0 i_1 i_2 i_3 t2 t3 w) : Run Try.prog 39 #[(.int .i64 at_), (.agg #[(.int .u16 i_0), (.int .u8 i_1), (.int .u8 i_2), (.int .u32 i_3)]), (.pointer (some t2)), (.pointer (some t3))] w R :=
  fn_sound (args := [(.int .i64 at_), (.agg #[(.int .u16 i_0), (.int .u8 i_1), (.int .u8 i_2), (.int .u32 i_3)]), (.pointer (some t2)), (.pointer (some t3))]) Try.mixed Try.func39 (by kernel_rfl) (Eq.mpr (check_asked_6.eq R at_ i_0 i_1 i_2 i_3 t2 t3 w) h)

/-! ### riddle/check.asked: function 26 -/
noncomputable def check_asked.body : Code := bodyOf Try.f26
def check_asked.live : Nat → List Nat
  | _ => []
@[reducible] def check_asked.vc (R : Value → World → Prop) (n : Int) (w : World) : Prop :=
  letW (w.alloc (.cells #[(.int .i64 n)] 3)) fun w_2 => letW (w_2.alloc (.cells #[.nilFunc] 57)) fun w_3 => (∃ u : Value, w_3.cell? (newA w_2) = some u) ∧ w_3.frozen? (newA w_2) = false ∧ letW (w_3.setCell (newA w_2) (.func (.func 32) #[] #[])) fun w_4 => letW (w_4.alloc (.cells #[(.func (.func 33) #[] #[(.pointer (some (newA w_2)))]), (.func (.func 35) #[] #[(.pointer (some (newA w_2)))]), (.func (.func 37) #[] #[(.pointer (some (newA w_2)))]), (.func (.func 38) #[] #[(.pointer (some (newA w_2)))]), (.func (.func 39) #[] #[(.pointer (some (newA w_2))), (.pointer (some (newA w)))])] 52)) fun w_5 => R (.slice (some (newA w_4)) 5 5) w_5

theorem check_asked.eq (R : Value → World → Prop) (n : Int) (w : World) : fnVC Try.prog none check_asked.live Try.f26 R [(.int .i64 n)] w = check_asked.vc R n w := by kernel_rfl
theorem check_asked.ok {R : Value → World → Prop} {n : Int} {w : World} (h : check_asked.vc R n w) : Run Try.prog 26 #[(.int .i64 n)] w R :=
  fn_sound (args := [(.int .i64 n)]) Try.mixed Try.func26 (by kernel_rfl) (Eq.mpr (check_asked.eq R n w) h)

/-! ### riddle/check.Check: function 11 -/
noncomputable def check_Check.body : Code := bodyOf Try.f11
def check_Check.live : Nat → List Nat
  | 0 => [0, 4, 5, 6, 21, 22, 23]
  | 2 => [0, 4, 5, 6, 7, 8, 21, 22, 23, 28, 29, 30]
  | _ => []
noncomputable def check_Check.c0 : Code := sub check_Check.body [1, 0, 1, 1, 1, 1, 1, 0, 1, 0, 0]
noncomputable def check_Check.c2 : Code := sub check_Check.body [1, 0, 1, 1, 1, 1, 1, 0, 1, 0, 0, 1, 1, 0, 0, 1, 1, 0, 0]
def check_Check.K0 (R : Value → World → Prop) : Ex → St → World → Prop := (blockK 0 (thenK (fun st w => code Try.prog none check_Check.live 0 (sub check_Check.body [1, 0, 1, 1, 1, 1, 1, 1]) (retK Try.prog Try.f11 R) st w) (retK Try.prog Try.f11 R)))
def check_Check.L0 (R : Value → World → Prop) (pA : Option Addr) (pn : Nat) (pc : Nat) (asksA : Option Addr) (asksn : Nat) (asksc : Nat) (place : Int) (e : Int) (t21A : Option Addr) (t21n : Nat) (t21c : Nat) (t22 : Int) (t23 : Int) (w : World) : Prop :=
  loopVC (fun K => code Try.prog none check_Check.live 0 check_Check.c0 K) (check_Check.live 0) (check_Check.K0 R) [(.slice pA pn pc), undef, undef, undef, (.slice asksA asksn asksc), (.int .i64 place), (.int .i64 e), undef, undef, undef, undef, undef, undef, undef, undef, undef, undef, undef, undef, undef, undef, (.slice t21A t21n t21c), (.int .i64 t22), (.int .i64 t23), undef, undef, undef, undef, undef, undef, undef, undef, undef, undef, undef, undef, undef, undef, undef, undef, undef, undef, undef, undef, undef, undef, undef, undef, undef, undef, undef, undef, undef, undef, undef, undef, undef, undef, undef, undef] w
def check_Check.K2 (R : Value → World → Prop) : Ex → St → World → Prop := (blockK 2 (blockK 1 (thenK (fun st w => code Try.prog none check_Check.live 0 (sub check_Check.body [1, 0, 1, 1, 1, 1, 1, 0, 1, 0, 0, 1, 1, 1]) (thenK (fun st w => loopVC (fun K => code Try.prog none check_Check.live 0 check_Check.c0 K) (check_Check.live 0) (check_Check.K0 R) (clearFrom (check_Check.live 0) 0 st) w) (check_Check.K0 R)) st w) (thenK (fun st w => loopVC (fun K => code Try.prog none check_Check.live 0 check_Check.c0 K) (check_Check.live 0) (check_Check.K0 R) (clearFrom (check_Check.live 0) 0 st) w) (check_Check.K0 R)))))
def check_Check.L2 (R : Value → World → Prop) (pA : Option Addr) (pn : Nat) (pc : Nat) (asksA : Option Addr) (asksn : Nat) (asksc : Nat) (place : Int) (e : Int) (at_ : Int) (i : Addr) (t21A : Option Addr) (t21n : Nat) (t21c : Nat) (t22 : Int) (t23 : Int) (t28A : Option Addr) (t28n : Nat) (t28c : Nat) (t29 : Int) (t30 : Int) (w : World) : Prop :=
  loopVC (fun K => code Try.prog none check_Check.live 2 check_Check.c2 K) (check_Check.live 2) (check_Check.K2 R) [(.slice pA pn pc), undef, undef, undef, (.slice asksA asksn asksc), (.int .i64 place), (.int .i64 e), (.int .i64 at_), (.pointer (some i)), undef, undef, undef, undef, undef, undef, undef, undef, undef, undef, undef, undef, (.slice t21A t21n t21c), (.int .i64 t22), (.int .i64 t23), undef, undef, undef, undef, (.slice t28A t28n t28c), (.int .i64 t29), (.int .i64 t30), undef, undef, undef, undef, undef, undef, undef, undef, undef, undef, undef, undef, undef, undef, undef, undef, undef, undef, undef, undef, undef, undef, undef, undef, undef, undef, undef, undef, undef] w
def check_Check.J1 (R : Value → World → Prop) (place : Int) (e : Int) (last : Int) (t56 : Bool) (w : World) : Prop :=
  ifP t56
    (R (.tuple #[(.int .i64 last), (.int .i64 47)]) w)
    (R (.tuple #[(.int .i64 place), (.int .i64 e)]) w)

def check_Check.J0 (R : Value → World → Prop) (pA : Option Addr) (pn : Nat) (pc : Nat) (place : Int) (e : Int) (w : World) : Prop :=
  ifP ((e : Int) == 0) (0 ≤ (IntKind.i64.wrap (((pn : Nat) : Int) - 1) : Int) ∧ (IntKind.i64.wrap (((pn : Nat) : Int) - 1) : Int) < ((pn : Nat) : Int) ∧ ∃ t51p : Addr, pA = some t51p ∧ ∃ t53 : Int, w.cell? (t51p.add (Int.toNat (IntKind.i64.wrap (((pn : Nat) : Int) - 1)) * 4)) = some (.int .u16 t53) ∧ Run Try.prog 27 #[(.int .u16 t53)] w fun v w_2 => ∃ t54 : Int, v = (.int .i64 t54) ∧ check_Check.J1 R place e (IntKind.i64.wrap (((pn : Nat) : Int) - 1)) ((t54 : Int) != 6) w_2) (check_Check.J1 R place e (IntKind.i64.wrap (((pn : Nat) : Int) - 1)) false w)

@[reducible] def check_Check.B2 (R : Value → World → Prop) (pA : Option Addr) (pn : Nat) (pc : Nat) (asksA : Option Addr) (asksn : Nat) (asksc : Nat) (place : Int) (e : Int) (at_ : Int) (i : Addr) (t21A : Option Addr) (t21n : Nat) (t21c : Nat) (t22 : Int) (t23 : Int) (t28A : Option Addr) (t28n : Nat) (t28c : Nat) (t29 : Int) (t30 : Int) (w : World) : Prop :=
  ifP (decide ((t30 : Int) < t29))
    (0 ≤ (t30 : Int) ∧ (t30 : Int) < ((t28n : Nat) : Int) ∧ ∃ t32p : Addr, t28A = some t32p ∧ ∃ t33 : Value, w.cell? (t32p.add (Int.toNat t30 * 1)) = some t33 ∧ ∃ t36_0 : Int, w.cell? i = some (.int .u16 t36_0) ∧ ∃ t36_1 : Int, w.cell? (i.add 1) = some (.int .u8 t36_1) ∧ ∃ t36_2 : Int, w.cell? (i.add 2) = some (.int .u8 t36_2) ∧ ∃ t36_3 : Int, w.cell? (i.add 3) = some (.int .u32 t36_3) ∧ ∃ (g : FuncId) (fs cs : Array Value), t33 = .func (.func g) fs cs ∧ okCall Try.prog g = true ∧ Run Try.prog g (fs ++ #[(.int .i64 at_), (.agg #[(.int .u16 t36_0), (.int .u8 t36_1), (.int .u8 t36_2), (.int .u32 t36_3)])] ++ cs) w fun v w_2 => ∃ t37 : Int, v = (.int .i64 t37) ∧ ifP ((t37 : Int) != 0)
    (check_Check.J0 R pA pn pc at_ t37 w_2)
    (check_Check.L2 R pA pn pc asksA asksn asksc place t37 at_ i t21A t21n t21c t22 t23 t28A t28n t28c t29 (IntKind.i64.wrap (t30 + 1)) w_2))
    (check_Check.L0 R pA pn pc asksA asksn asksc place e t21A t21n t21c t22 (IntKind.i64.wrap (t23 + 1)) w)

@[reducible] def check_Check.B0 (R : Value → World → Prop) (pA : Option Addr) (pn : Nat) (pc : Nat) (asksA : Option Addr) (asksn : Nat) (asksc : Nat) (place : Int) (e : Int) (t21A : Option Addr) (t21n : Nat) (t21c : Nat) (t22 : Int) (t23 : Int) (w : World) : Prop :=
  ifP (decide ((t23 : Int) < t22))
    (0 ≤ (t23 : Int) ∧ (t23 : Int) < ((t21n : Nat) : Int) ∧ ∃ t26p : Addr, t21A = some t26p ∧ ∃ t27_0 : Int, w.cell? (t26p.add (Int.toNat t23 * 4)) = some (.int .u16 t27_0) ∧ ∃ t27_1 : Int, w.cell? ((t26p.add (Int.toNat t23 * 4)).add 1) = some (.int .u8 t27_1) ∧ ∃ t27_2 : Int, w.cell? ((t26p.add (Int.toNat t23 * 4)).add 2) = some (.int .u8 t27_2) ∧ ∃ t27_3 : Int, w.cell? ((t26p.add (Int.toNat t23 * 4)).add 3) = some (.int .u32 t27_3) ∧ letW (w.alloc (.cells #[(.int .u16 0), (.int .u8 0), (.int .u8 0), (.int .u32 0)] 39)) fun w_2 => storeRow (newA w) 0 [(.int .u16 t27_0), (.int .u8 t27_1), (.int .u8 t27_2), (.int .u32 t27_3)] w_2 fun w_3 => check_Check.L2 R pA pn pc asksA asksn asksc place e t23 (newA w) t21A t21n t21c t22 t23 asksA asksn asksc ((asksn : Nat) : Int) 0 w_3)
    (check_Check.J0 R pA pn pc place e w)

@[reducible] def check_Check.vc (R : Value → World → Prop) (pA : Option Addr) (pn : Nat) (pc : Nat) (w : World) : Prop :=
  ifP ((((pn : Nat) : Int) : Int) == 0)
    (R (.tuple #[(.int .i64 0), (.int .i64 40)]) w)
    (ifP (decide ((((pn : Nat) : Int) : Int) > 4096))
    (R (.tuple #[(.int .i64 4096), (.int .i64 41)]) w)
    (Run Try.prog 26 #[(.int .i64 ((pn : Nat) : Int))] w fun v w_2 => ∃ (t20A : Option Addr) (t20n t20c : Nat), v = (.slice t20A t20n t20c) ∧ check_Check.L0 R pA pn pc t20A t20n t20c 0 0 pA pn pc ((pn : Nat) : Int) 0 w_2))

theorem check_Check.B0_eq (R : Value → World → Prop) (pA : Option Addr) (pn : Nat) (pc : Nat) (asksA : Option Addr) (asksn : Nat) (asksc : Nat) (place : Int) (e : Int) (t21A : Option Addr) (t21n : Nat) (t21c : Nat) (t22 : Int) (t23 : Int) (w : World) (ts : Nat → Value) :
    code Try.prog none check_Check.live 0 check_Check.c0 (thenK (fun st w => loopVC (fun K => code Try.prog none check_Check.live 0 check_Check.c0 K) (check_Check.live 0) (check_Check.K0 R) (clearFrom (check_Check.live 0) 0 st) w) (check_Check.K0 R)) (mergeFrom (check_Check.live 0) ts 0 (clearFrom (check_Check.live 0) 0 [(.slice pA pn pc), undef, undef, undef, (.slice asksA asksn asksc), (.int .i64 place), (.int .i64 e), undef, undef, undef, undef, undef, undef, undef, undef, undef, undef, undef, undef, undef, undef, (.slice t21A t21n t21c), (.int .i64 t22), (.int .i64 t23), undef, undef, undef, undef, undef, undef, undef, undef, undef, undef, undef, undef, undef, undef, undef, undef, undef, undef, undef, undef, undef, undef, undef, undef, undef, undef, undef, undef, undef, undef, undef, undef, undef, undef, undef, undef])) w = check_Check.B0 R pA pn pc asksA asksn asksc place e t21A t21n t21c t22 t23 w := by kernel_rfl
theorem check_Check.L0_step {R : Value → World → Prop} {pA : Option Addr} {pn : Nat} {pc : Nat} {asksA : Option Addr} {asksn : Nat} {asksc : Nat} {place : Int} {e : Int} {t21A : Option Addr} {t21n : Nat} {t21c : Nat} {t22 : Int} {t23 : Int} {w : World} (h : check_Check.B0 R pA pn pc asksA asksn asksc place e t21A t21n t21c t22 t23 w) : check_Check.L0 R pA pn pc asksA asksn asksc place e t21A t21n t21c t22 t23 w :=
  loop_step (live := check_Check.live) (b := 0) (x := check_Check.c0) fun ts => Eq.mpr (check_Check.B0_eq R pA pn pc asksA asksn asksc place e t21A t21n t21c t22 t23 w ts) h
theorem check_Check.B2_eq (R : Value → World → Prop) (pA : Option Addr) (pn : Nat) (pc : Nat) (asksA : Option Addr) (asksn : Nat) (asksc : Nat) (place : Int) (e : Int) (at_ : Int) (i : Addr) (t21A : Option Addr) (t21n : Nat) (t21c : Nat) (t22 : Int) (t23 : Int) (t28A : Option Addr) (t28n : Nat) (t28c : Nat) (t29 : Int) (t30 : Int) (w : World) (ts : Nat → Value) :
    code Try.prog none check_Check.live 2 check_Check.c2 (thenK (fun st w => loopVC (fun K => code Try.prog none check_Check.live 2 check_Check.c2 K) (check_Check.live 2) (check_Check.K2 R) (clearFrom (check_Check.live 2) 0 st) w) (check_Check.K2 R)) (mergeFrom (check_Check.live 2) ts 0 (clearFrom (check_Check.live 2) 0 [(.slice pA pn pc), undef, undef, undef, (.slice asksA asksn asksc), (.int .i64 place), (.int .i64 e), (.int .i64 at_), (.pointer (some i)), undef, undef, undef, undef, undef, undef, undef, undef, undef, undef, undef, undef, (.slice t21A t21n t21c), (.int .i64 t22), (.int .i64 t23), undef, undef, undef, undef, (.slice t28A t28n t28c), (.int .i64 t29), (.int .i64 t30), undef, undef, undef, undef, undef, undef, undef, undef, undef, undef, undef, undef, undef, undef, undef, undef, undef, undef, undef, undef, undef, undef, undef, undef, undef, undef, undef, undef, undef])) w = check_Check.B2 R pA pn pc asksA asksn asksc place e at_ i t21A t21n t21c t22 t23 t28A t28n t28c t29 t30 w := by kernel_rfl
theorem check_Check.L2_step {R : Value → World → Prop} {pA : Option Addr} {pn : Nat} {pc : Nat} {asksA : Option Addr} {asksn : Nat} {asksc : Nat} {place : Int} {e : Int} {at_ : Int} {i : Addr} {t21A : Option Addr} {t21n : Nat} {t21c : Nat} {t22 : Int} {t23 : Int} {t28A : Option Addr} {t28n : Nat} {t28c : Nat} {t29 : Int} {t30 : Int} {w : World} (h : check_Check.B2 R pA pn pc asksA asksn asksc place e at_ i t21A t21n t21c t22 t23 t28A t28n t28c t29 t30 w) : check_Check.L2 R pA pn pc asksA asksn asksc place e at_ i t21A t21n t21c t22 t23 t28A t28n t28c t29 t30 w :=
  loop_step (live := check_Check.live) (b := 2) (x := check_Check.c2) fun ts => Eq.mpr (check_Check.B2_eq R pA pn pc asksA asksn asksc place e at_ i t21A t21n t21c t22 t23 t28A t28n t28c t29 t30 w ts) h
theorem check_Check.eq (R : Value → World → Prop) (pA : Option Addr) (pn : Nat) (pc : Nat) (w : World) : fnVC Try.prog none check_Check.live Try.f11 R [(.slice pA pn pc)] w = check_Check.vc R pA pn pc w := by kernel_rfl
theorem check_Check.ok {R : Value → World → Prop} {pA : Option Addr} {pn : Nat} {pc : Nat} {w : World} (h : check_Check.vc R pA pn pc w) : Run Try.prog 11 #[(.slice pA pn pc)] w R :=
  fn_sound (args := [(.slice pA pn pc)]) Try.mixed Try.func11 (by kernel_rfl) (Eq.mpr (check_Check.eq R pA pn pc w) h)

/-! ### riddle/riddlelaw0.SameInsns: function 28 -/
noncomputable def law0_SameInsns.body : Code := bodyOf Try.f28
def law0_SameInsns.live : Nat → List Nat
  | 0 => [0, 1, 5]
  | _ => []
noncomputable def law0_SameInsns.c0 : Code := sub law0_SameInsns.body [1, 1, 0, 1, 0, 0]
def law0_SameInsns.K0 (R : Value → World → Prop) : Ex → St → World → Prop := (blockK 0 (thenK (fun st w => code Try.prog none law0_SameInsns.live 0 (sub law0_SameInsns.body [1, 1, 1]) (retK Try.prog Try.f28 R) st w) (retK Try.prog Try.f28 R)))
def law0_SameInsns.L0 (R : Value → World → Prop) (aA : Option Addr) (an : Nat) (ac : Nat) (bA : Option Addr) (bn : Nat) (bc : Nat) (i : Int) (w : World) : Prop :=
  loopVC (fun K => code Try.prog none law0_SameInsns.live 0 law0_SameInsns.c0 K) (law0_SameInsns.live 0) (law0_SameInsns.K0 R) [(.slice aA an ac), (.slice bA bn bc), undef, undef, undef, (.int .i64 i), undef, undef, undef, undef, undef, undef, undef, undef, undef, undef, undef, undef, undef, undef, undef, undef, undef, undef, undef, undef] w
@[reducible] def law0_SameInsns.B0 (R : Value → World → Prop) (aA : Option Addr) (an : Nat) (ac : Nat) (bA : Option Addr) (bn : Nat) (bc : Nat) (i : Int) (w : World) : Prop :=
  ifP (decide ((i : Int) < ((an : Nat) : Int)))
    (∃ S_ : World → Prop, S_ w.drew ∧ letW w.drew fun w_2 => 0 ≤ (i : Int) ∧ (i : Int) < ((an : Nat) : Int) ∧ ∃ t19p : Addr, aA = some t19p ∧ ∃ t20_0 : Int, (∀ u : World, S_ u → u.cell? (t19p.add (Int.toNat i * 4)) = some (.int .u16 t20_0)) ∧ ∃ t20_1 : Int, (∀ u_2 : World, S_ u_2 → u_2.cell? ((t19p.add (Int.toNat i * 4)).add 1) = some (.int .u8 t20_1)) ∧ ∃ t20_2 : Int, (∀ u_3 : World, S_ u_3 → u_3.cell? ((t19p.add (Int.toNat i * 4)).add 2) = some (.int .u8 t20_2)) ∧ ∃ t20_3 : Int, (∀ u_4 : World, S_ u_4 → u_4.cell? ((t19p.add (Int.toNat i * 4)).add 3) = some (.int .u32 t20_3)) ∧ 0 ≤ (i : Int) ∧ (i : Int) < ((bn : Nat) : Int) ∧ ∃ t23p : Addr, bA = some t23p ∧ ∃ t24_0 : Int, (∀ u_5 : World, S_ u_5 → u_5.cell? (t23p.add (Int.toNat i * 4)) = some (.int .u16 t24_0)) ∧ ∃ t24_1 : Int, (∀ u_6 : World, S_ u_6 → u_6.cell? ((t23p.add (Int.toNat i * 4)).add 1) = some (.int .u8 t24_1)) ∧ ∃ t24_2 : Int, (∀ u_7 : World, S_ u_7 → u_7.cell? ((t23p.add (Int.toNat i * 4)).add 2) = some (.int .u8 t24_2)) ∧ ∃ t24_3 : Int, (∀ u_8 : World, S_ u_8 → u_8.cell? ((t23p.add (Int.toNat i * 4)).add 3) = some (.int .u32 t24_3)) ∧ ∃ (v : Value) (w_3 : World), (eqSem .neq 39 (.tmp 20) (.tmp 24) (.agg #[(.int .u16 t20_0), (.int .u8 t20_1), (.int .u8 t20_2), (.int .u32 t20_3)]) (.agg #[(.int .u16 t24_0), (.int .u8 t24_1), (.int .u8 t24_2), (.int .u32 t24_3)])).run Try.prog w_2 = .ok v w_3 ∧ ∃ t25 : Bool, v = (.bool t25) ∧ ifP t25
    (R (.bool false) w_3)
    (law0_SameInsns.L0 R aA an ac bA bn bc (IntKind.i64.wrap (i + 1)) w_3))
    (R (.bool true) w)

@[reducible] def law0_SameInsns.vc (R : Value → World → Prop) (aA : Option Addr) (an : Nat) (ac : Nat) (bA : Option Addr) (bn : Nat) (bc : Nat) (w : World) : Prop :=
  ifP ((((an : Nat) : Int) : Int) != ((bn : Nat) : Int))
    (R (.bool false) w)
    (law0_SameInsns.L0 R aA an ac bA bn bc 0 w)

theorem law0_SameInsns.B0_eq (R : Value → World → Prop) (aA : Option Addr) (an : Nat) (ac : Nat) (bA : Option Addr) (bn : Nat) (bc : Nat) (i : Int) (w : World) (ts : Nat → Value) :
    code Try.prog none law0_SameInsns.live 0 law0_SameInsns.c0 (thenK (fun st w => loopVC (fun K => code Try.prog none law0_SameInsns.live 0 law0_SameInsns.c0 K) (law0_SameInsns.live 0) (law0_SameInsns.K0 R) (clearFrom (law0_SameInsns.live 0) 0 st) w) (law0_SameInsns.K0 R)) (mergeFrom (law0_SameInsns.live 0) ts 0 (clearFrom (law0_SameInsns.live 0) 0 [(.slice aA an ac), (.slice bA bn bc), undef, undef, undef, (.int .i64 i), undef, undef, undef, undef, undef, undef, undef, undef, undef, undef, undef, undef, undef, undef, undef, undef, undef, undef, undef, undef])) w = law0_SameInsns.B0 R aA an ac bA bn bc i w := by kernel_rfl
theorem law0_SameInsns.L0_step {R : Value → World → Prop} {aA : Option Addr} {an : Nat} {ac : Nat} {bA : Option Addr} {bn : Nat} {bc : Nat} {i : Int} {w : World} (h : law0_SameInsns.B0 R aA an ac bA bn bc i w) : law0_SameInsns.L0 R aA an ac bA bn bc i w :=
  loop_step (live := law0_SameInsns.live) (b := 0) (x := law0_SameInsns.c0) fun ts => Eq.mpr (law0_SameInsns.B0_eq R aA an ac bA bn bc i w ts) h
theorem law0_SameInsns.eq (R : Value → World → Prop) (aA : Option Addr) (an : Nat) (ac : Nat) (bA : Option Addr) (bn : Nat) (bc : Nat) (w : World) : fnVC Try.prog none law0_SameInsns.live Try.f28 R [(.slice aA an ac), (.slice bA bn bc)] w = law0_SameInsns.vc R aA an ac bA bn bc w := by kernel_rfl
theorem law0_SameInsns.ok {R : Value → World → Prop} {aA : Option Addr} {an : Nat} {ac : Nat} {bA : Option Addr} {bn : Nat} {bc : Nat} {w : World} (h : law0_SameInsns.vc R aA an ac bA bn bc w) : Run Try.prog 28 #[(.slice aA an ac), (.slice bA bn bc)] w R :=
  fn_sound (args := [(.slice aA an ac), (.slice bA bn bc)]) Try.mixed Try.func28 (by kernel_rfl) (Eq.mpr (law0_SameInsns.eq R aA an ac bA bn bc w) h)

/-! ### riddle/riddlelaw0.SpoilInsns: function 29 -/
noncomputable def law0_SpoilInsns.body : Code := bodyOf Try.f29
def law0_SpoilInsns.live : Nat → List Nat
  | 0 => [0, 2, 3]
  | 2 => [0, 4]
  | _ => []
noncomputable def law0_SpoilInsns.c0 : Code := sub law0_SpoilInsns.body [1, 0, 1, 0, 0]
noncomputable def law0_SpoilInsns.c2 : Code := sub law0_SpoilInsns.body [1, 1, 1, 0, 0]
def law0_SpoilInsns.K0 (R : Value → World → Prop) : Ex → St → World → Prop := (blockK 0 (thenK (fun st w => code Try.prog none law0_SpoilInsns.live 0 (sub law0_SpoilInsns.body [1, 1]) (retK Try.prog Try.f29 R) st w) (retK Try.prog Try.f29 R)))
def law0_SpoilInsns.L0 (R : Value → World → Prop) (aA : Option Addr) (an : Nat) (ac : Nat) (fullA : Option Addr) (fulln : Nat) (fullc : Nat) (i : Int) (w : World) : Prop :=
  loopVC (fun K => code Try.prog none law0_SpoilInsns.live 0 law0_SpoilInsns.c0 K) (law0_SpoilInsns.live 0) (law0_SpoilInsns.K0 R) [(.slice aA an ac), undef, (.slice fullA fulln fullc), (.int .i64 i), undef, undef, undef, undef, undef, undef, undef, undef, undef, undef, undef, undef, undef, undef, undef, undef, undef, undef, undef, undef, undef, undef, undef, undef, undef] w
def law0_SpoilInsns.K2 (R : Value → World → Prop) : Ex → St → World → Prop := (blockK 2 (retK Try.prog Try.f29 R))
def law0_SpoilInsns.L2 (R : Value → World → Prop) (aA : Option Addr) (an : Nat) (ac : Nat) (i : Int) (w : World) : Prop :=
  loopVC (fun K => code Try.prog none law0_SpoilInsns.live 2 law0_SpoilInsns.c2 K) (law0_SpoilInsns.live 2) (law0_SpoilInsns.K2 R) [(.slice aA an ac), undef, undef, undef, (.int .i64 i), undef, undef, undef, undef, undef, undef, undef, undef, undef, undef, undef, undef, undef, undef, undef, undef, undef, undef, undef, undef, undef, undef, undef, undef] w
@[reducible] def law0_SpoilInsns.B2 (R : Value → World → Prop) (aA : Option Addr) (an : Nat) (ac : Nat) (i : Int) (w : World) : Prop :=
  ifP (decide ((i : Int) < ((an : Nat) : Int)))
    (0 ≤ (i : Int) ∧ (i : Int) < ((an : Nat) : Int) ∧ ∃ t28p : Addr, aA = some t28p ∧ storeRow (t28p.add (Int.toNat i * 4)) 0 [(.int .u16 7), (.int .u8 0), (.int .u8 0), (.int .u32 77)] w fun w_2 => law0_SpoilInsns.L2 R aA an ac (IntKind.i64.wrap (i + 1)) w_2)
    (R (.tuple #[]) w)

@[reducible] def law0_SpoilInsns.B0 (R : Value → World → Prop) (aA : Option Addr) (an : Nat) (ac : Nat) (fullA : Option Addr) (fulln : Nat) (fullc : Nat) (i : Int) (w : World) : Prop :=
  ifP (decide ((i : Int) < ((fulln : Nat) : Int)))
    (0 ≤ (i : Int) ∧ (i : Int) < ((fulln : Nat) : Int) ∧ ∃ t18p : Addr, fullA = some t18p ∧ storeRow (t18p.add (Int.toNat i * 4)) 0 [(.int .u16 7), (.int .u8 0), (.int .u8 0), (.int .u32 77)] w fun w_2 => law0_SpoilInsns.L0 R aA an ac fullA fulln fullc (IntKind.i64.wrap (i + 1)) w_2)
    (law0_SpoilInsns.L2 R aA an ac 0 w)

@[reducible] def law0_SpoilInsns.vc (R : Value → World → Prop) (aA : Option Addr) (an : Nat) (ac : Nat) (w : World) : Prop :=
  letW (w.alloc (.cells #[(.int .u16 7), (.int .u8 0), (.int .u8 0), (.int .u32 77)] 39)) fun w_2 => ∃ (v : Value) (w_3 : World), (Builtin.append_ #[22, 22] 22 #[(.slice aA an ac), (.slice (some (newA w)) 1 1)]).run Try.prog w_2 = .ok v w_3 ∧ ∃ (t8A : Option Addr) (t8n t8c : Nat), v = (.slice t8A t8n t8c) ∧ law0_SpoilInsns.L0 R aA an ac t8A t8n t8c 0 w_3

theorem law0_SpoilInsns.B0_eq (R : Value → World → Prop) (aA : Option Addr) (an : Nat) (ac : Nat) (fullA : Option Addr) (fulln : Nat) (fullc : Nat) (i : Int) (w : World) (ts : Nat → Value) :
    code Try.prog none law0_SpoilInsns.live 0 law0_SpoilInsns.c0 (thenK (fun st w => loopVC (fun K => code Try.prog none law0_SpoilInsns.live 0 law0_SpoilInsns.c0 K) (law0_SpoilInsns.live 0) (law0_SpoilInsns.K0 R) (clearFrom (law0_SpoilInsns.live 0) 0 st) w) (law0_SpoilInsns.K0 R)) (mergeFrom (law0_SpoilInsns.live 0) ts 0 (clearFrom (law0_SpoilInsns.live 0) 0 [(.slice aA an ac), undef, (.slice fullA fulln fullc), (.int .i64 i), undef, undef, undef, undef, undef, undef, undef, undef, undef, undef, undef, undef, undef, undef, undef, undef, undef, undef, undef, undef, undef, undef, undef, undef, undef])) w = law0_SpoilInsns.B0 R aA an ac fullA fulln fullc i w := by kernel_rfl
theorem law0_SpoilInsns.L0_step {R : Value → World → Prop} {aA : Option Addr} {an : Nat} {ac : Nat} {fullA : Option Addr} {fulln : Nat} {fullc : Nat} {i : Int} {w : World} (h : law0_SpoilInsns.B0 R aA an ac fullA fulln fullc i w) : law0_SpoilInsns.L0 R aA an ac fullA fulln fullc i w :=
  loop_step (live := law0_SpoilInsns.live) (b := 0) (x := law0_SpoilInsns.c0) fun ts => Eq.mpr (law0_SpoilInsns.B0_eq R aA an ac fullA fulln fullc i w ts) h
theorem law0_SpoilInsns.B2_eq (R : Value → World → Prop) (aA : Option Addr) (an : Nat) (ac : Nat) (i : Int) (w : World) (ts : Nat → Value) :
    code Try.prog none law0_SpoilInsns.live 2 law0_SpoilInsns.c2 (thenK (fun st w => loopVC (fun K => code Try.prog none law0_SpoilInsns.live 2 law0_SpoilInsns.c2 K) (law0_SpoilInsns.live 2) (law0_SpoilInsns.K2 R) (clearFrom (law0_SpoilInsns.live 2) 0 st) w) (law0_SpoilInsns.K2 R)) (mergeFrom (law0_SpoilInsns.live 2) ts 0 (clearFrom (law0_SpoilInsns.live 2) 0 [(.slice aA an ac), undef, undef, undef, (.int .i64 i), undef, undef, undef, undef, undef, undef, undef, undef, undef, undef, undef, undef, undef, undef, undef, undef, undef, undef, undef, undef, undef, undef, undef, undef])) w = law0_SpoilInsns.B2 R aA an ac i w := by kernel_rfl
theorem law0_SpoilInsns.L2_step {R : Value → World → Prop} {aA : Option Addr} {an : Nat} {ac : Nat} {i : Int} {w : World} (h : law0_SpoilInsns.B2 R aA an ac i w) : law0_SpoilInsns.L2 R aA an ac i w :=
  loop_step (live := law0_SpoilInsns.live) (b := 2) (x := law0_SpoilInsns.c2) fun ts => Eq.mpr (law0_SpoilInsns.B2_eq R aA an ac i w ts) h
theorem law0_SpoilInsns.eq (R : Value → World → Prop) (aA : Option Addr) (an : Nat) (ac : Nat) (w : World) : fnVC Try.prog none law0_SpoilInsns.live Try.f29 R [(.slice aA an ac)] w = law0_SpoilInsns.vc R aA an ac w := by kernel_rfl
theorem law0_SpoilInsns.ok {R : Value → World → Prop} {aA : Option Addr} {an : Nat} {ac : Nat} {w : World} (h : law0_SpoilInsns.vc R aA an ac w) : Run Try.prog 29 #[(.slice aA an ac)] w R :=
  fn_sound (args := [(.slice aA an ac)]) Try.mixed Try.func29 (by kernel_rfl) (Eq.mpr (law0_SpoilInsns.eq R aA an ac w) h)

/-! ### riddle/riddlelaw0.KeptInsns: function 12 -/
noncomputable def law0_KeptInsns.body : Code := bodyOf Try.f12
def law0_KeptInsns.live : Nat → List Nat
  | _ => []
def law0_KeptInsns.J0 (R : Value → World → Prop) (fullA : Option Addr) (fulln : Nat) (fullc : Nat) (ok_ : Bool) (w : World) : Prop :=
  Run Try.prog 29 #[(.slice fullA fulln fullc)] w fun v w_2 => v = (.tuple #[]) ∧ R (.bool ok_) w_2

@[reducible] def law0_KeptInsns.vc (R : Value → World → Prop) (lentA : Option Addr) (lentn : Nat) (lentc : Nat) (aA : Option Addr) (an : Nat) (ac : Nat) (w : World) : Prop :=
  (0 : Int) ≤ 0 ∧ (0 : Int) ≤ IntKind.i64.wrap (((lentn : Nat) : Int) + 3) ∧ (IntKind.i64.wrap (((lentn : Nat) : Int) + 3) : Int) ≤ ((lentc : Nat) : Int) ∧ Run Try.prog 28 #[(.slice lentA lentn lentc), (.slice aA an ac)] w fun v w_2 => ∃ t14 : Bool, v = (.bool t14) ∧ ifP t14 ((0 : Int) ≤ ((an : Nat) : Int) ∧ (((an : Nat) : Int) : Int) ≤ (((Int.toNat (IntKind.i64.wrap (((lentn : Nat) : Int) + 3))) - 0 : Nat) : Int) ∧ ((((Int.toNat (IntKind.i64.wrap (((lentn : Nat) : Int) + 3))) - 0 : Nat) : Int) : Int) ≤ ((lentc - 0 : Nat) : Int) ∧ letW (w_2.alloc (.cells #[(.int .u16 7), (.int .u8 0), (.int .u8 0), (.int .u32 77), (.int .u16 7), (.int .u8 0), (.int .u8 0), (.int .u32 77), (.int .u16 7), (.int .u8 0), (.int .u8 0), (.int .u32 77)] 39)) fun w_3 => Run Try.prog 28 #[(.slice (subA (subA lentA lentc 0 4) (lentc - 0) (Int.toNat ((an : Nat) : Int)) 4) (((Int.toNat (IntKind.i64.wrap (((lentn : Nat) : Int) + 3))) - 0) - (Int.toNat ((an : Nat) : Int))) ((lentc - 0) - (Int.toNat ((an : Nat) : Int)))), (.slice (some (newA w_2)) 3 3)] w_3 fun v_2 w_4 => ∃ t24 : Bool, v_2 = (.bool t24) ∧ law0_KeptInsns.J0 R (subA lentA lentc 0 4) ((Int.toNat (IntKind.i64.wrap (((lentn : Nat) : Int) + 3))) - 0) (lentc - 0) t24 w_4) (law0_KeptInsns.J0 R (subA lentA lentc 0 4) ((Int.toNat (IntKind.i64.wrap (((lentn : Nat) : Int) + 3))) - 0) (lentc - 0) false w_2)

theorem law0_KeptInsns.eq (R : Value → World → Prop) (lentA : Option Addr) (lentn : Nat) (lentc : Nat) (aA : Option Addr) (an : Nat) (ac : Nat) (w : World) : fnVC Try.prog none law0_KeptInsns.live Try.f12 R [(.slice lentA lentn lentc), (.slice aA an ac)] w = law0_KeptInsns.vc R lentA lentn lentc aA an ac w := by kernel_rfl
theorem law0_KeptInsns.ok {R : Value → World → Prop} {lentA : Option Addr} {lentn : Nat} {lentc : Nat} {aA : Option Addr} {an : Nat} {ac : Nat} {w : World} (h : law0_KeptInsns.vc R lentA lentn lentc aA an ac w) : Run Try.prog 12 #[(.slice lentA lentn lentc), (.slice aA an ac)] w R :=
  fn_sound (args := [(.slice lentA lentn lentc), (.slice aA an ac)]) Try.mixed Try.func12 (by kernel_rfl) (Eq.mpr (law0_KeptInsns.eq R lentA lentn lentc aA an ac w) h)

/-! ### riddle/check.Reach: function 15 -/
noncomputable def check_Reach.body : Code := bodyOf Try.f15
def check_Reach.live : Nat → List Nat
  | 0 => [6, 22, 23, 24]
  | _ => []
noncomputable def check_Reach.c0 : Code := sub check_Reach.body [1, 1, 1, 1, 0, 1, 0, 0]
def check_Reach.K0 (R : Value → World → Prop) : Ex → St → World → Prop := (blockK 0 (thenK (fun st w => code Try.prog none check_Reach.live 0 (sub check_Reach.body [1, 1, 1, 1, 1]) (retK Try.prog Try.f15 R) st w) (retK Try.prog Try.f15 R)))
def check_Reach.L0 (R : Value → World → Prop) (outA : Option Addr) (outn : Nat) (outc : Nat) (t22A : Option Addr) (t22n : Nat) (t22c : Nat) (t23 : Int) (t24 : Int) (w : World) : Prop :=
  loopVC (fun K => code Try.prog none check_Reach.live 0 check_Reach.c0 K) (check_Reach.live 0) (check_Reach.K0 R) [undef, undef, undef, undef, undef, undef, (.slice outA outn outc), undef, undef, undef, undef, undef, undef, undef, undef, undef, undef, undef, undef, undef, undef, undef, (.slice t22A t22n t22c), (.int .i64 t23), (.int .i64 t24), undef, undef, undef, undef, undef, undef, undef, undef, undef, undef, undef, undef, undef, undef, undef, undef, undef, undef, undef, undef, undef, undef, undef, undef, undef, undef, undef, undef, undef, undef, undef, undef, undef, undef, undef, undef, undef, undef, undef, undef, undef, undef, undef, undef, undef, undef, undef, undef, undef, undef, undef, undef, undef] w
def check_Reach.J0 (R : Value → World → Prop) (outA : Option Addr) (outn : Nat) (outc : Nat) (t22A : Option Addr) (t22n : Nat) (t22c : Nat) (t23 : Int) (t24 : Int) (w : World) : Prop :=
  check_Reach.L0 R outA outn outc t22A t22n t22c t23 (IntKind.i64.wrap (t24 + 1)) w

@[reducible] def check_Reach.B0 (R : Value → World → Prop) (outA : Option Addr) (outn : Nat) (outc : Nat) (t22A : Option Addr) (t22n : Nat) (t22c : Nat) (t23 : Int) (t24 : Int) (w : World) : Prop :=
  ifP (decide ((t24 : Int) < t23))
    (0 ≤ (t24 : Int) ∧ (t24 : Int) < ((t22n : Nat) : Int) ∧ ∃ t27p : Addr, t22A = some t27p ∧ ∃ t28_0 : Int, w.cell? (t27p.add (Int.toNat t24 * 4)) = some (.int .u16 t28_0) ∧ ∃ t28_1 : Int, w.cell? ((t27p.add (Int.toNat t24 * 4)).add 1) = some (.int .u8 t28_1) ∧ ∃ t28_2 : Int, w.cell? ((t27p.add (Int.toNat t24 * 4)).add 2) = some (.int .u8 t28_2) ∧ ∃ t28_3 : Int, w.cell? ((t27p.add (Int.toNat t24 * 4)).add 3) = some (.int .u32 t28_3) ∧ letW (w.alloc (.cells #[(.int .u16 0), (.int .u8 0), (.int .u8 0), (.int .u32 0)] 39)) fun w_2 => storeRow (newA w) 0 [(.int .u16 t28_0), (.int .u8 t28_1), (.int .u8 t28_2), (.int .u32 t28_3)] w_2 fun w_3 => 0 ≤ (t24 : Int) ∧ (t24 : Int) < ((outn : Nat) : Int) ∧ ∃ t31p : Addr, outA = some t31p ∧ ∃ t32 : Bool, w_3.cell? (t31p.add (Int.toNat t24 * 1)) = some (.bool t32) ∧ ifP (!t32)
    (check_Reach.J0 R outA outn outc t22A t22n t22c t23 t24 w_3)
    (∃ t36 : Int, w_3.cell? (newA w) = some (.int .u16 t36) ∧ ifP ((t36 : Int) == 5)
    (∃ t42 : Int, w_3.cell? ((newA w).add 3) = some (.int .u32 t42) ∧ 0 ≤ (IntKind.i64.wrap ((IntKind.i64.wrap (t24 + 1)) + (IntKind.i64.wrap t42)) : Int) ∧ (IntKind.i64.wrap ((IntKind.i64.wrap (t24 + 1)) + (IntKind.i64.wrap t42)) : Int) < ((outn : Nat) : Int) ∧ ∃ t45p : Addr, outA = some t45p ∧ (∃ u : Value, w_3.cell? (t45p.add (Int.toNat (IntKind.i64.wrap ((IntKind.i64.wrap (t24 + 1)) + (IntKind.i64.wrap t42))) * 1)) = some u) ∧ w_3.frozen? (t45p.add (Int.toNat (IntKind.i64.wrap ((IntKind.i64.wrap (t24 + 1)) + (IntKind.i64.wrap t42))) * 1)) = false ∧ letW (w_3.setCell (t45p.add (Int.toNat (IntKind.i64.wrap ((IntKind.i64.wrap (t24 + 1)) + (IntKind.i64.wrap t42))) * 1)) (.bool true)) fun w_4 => check_Reach.J0 R outA outn outc t22A t22n t22c t23 t24 w_4)
    (∃ t48 : Int, w_3.cell? (newA w) = some (.int .u16 t48) ∧ Run Try.prog 27 #[(.int .u16 t48)] w_3 fun v w_5 => ∃ t49 : Int, v = (.int .i64 t49) ∧ ifP ((t49 : Int) == 5)
    (∃ t55 : Int, w_5.cell? ((newA w).add 1) = some (.int .u8 t55) ∧ 0 ≤ (IntKind.i64.wrap ((IntKind.i64.wrap (t24 + 1)) + (IntKind.i64.wrap t55)) : Int) ∧ (IntKind.i64.wrap ((IntKind.i64.wrap (t24 + 1)) + (IntKind.i64.wrap t55)) : Int) < ((outn : Nat) : Int) ∧ ∃ t58p : Addr, outA = some t58p ∧ (∃ u : Value, w_5.cell? (t58p.add (Int.toNat (IntKind.i64.wrap ((IntKind.i64.wrap (t24 + 1)) + (IntKind.i64.wrap t55))) * 1)) = some u) ∧ w_5.frozen? (t58p.add (Int.toNat (IntKind.i64.wrap ((IntKind.i64.wrap (t24 + 1)) + (IntKind.i64.wrap t55))) * 1)) = false ∧ letW (w_5.setCell (t58p.add (Int.toNat (IntKind.i64.wrap ((IntKind.i64.wrap (t24 + 1)) + (IntKind.i64.wrap t55))) * 1)) (.bool true)) fun w_6 => ∃ t63 : Int, w_6.cell? ((newA w).add 2) = some (.int .u8 t63) ∧ 0 ≤ (IntKind.i64.wrap ((IntKind.i64.wrap (t24 + 1)) + (IntKind.i64.wrap t63)) : Int) ∧ (IntKind.i64.wrap ((IntKind.i64.wrap (t24 + 1)) + (IntKind.i64.wrap t63)) : Int) < ((outn : Nat) : Int) ∧ ∃ t66p : Addr, outA = some t66p ∧ (∃ u : Value, w_6.cell? (t66p.add (Int.toNat (IntKind.i64.wrap ((IntKind.i64.wrap (t24 + 1)) + (IntKind.i64.wrap t63))) * 1)) = some u) ∧ w_6.frozen? (t66p.add (Int.toNat (IntKind.i64.wrap ((IntKind.i64.wrap (t24 + 1)) + (IntKind.i64.wrap t63))) * 1)) = false ∧ letW (w_6.setCell (t66p.add (Int.toNat (IntKind.i64.wrap ((IntKind.i64.wrap (t24 + 1)) + (IntKind.i64.wrap t63))) * 1)) (.bool true)) fun w_7 => check_Reach.J0 R outA outn outc t22A t22n t22c t23 t24 w_7)
    (∃ t69 : Int, w_5.cell? (newA w) = some (.int .u16 t69) ∧ Run Try.prog 27 #[(.int .u16 t69)] w_5 fun v_2 w_8 => ∃ t70 : Int, v_2 = (.int .i64 t70) ∧ ifP ((t70 : Int) != 6)
    (0 ≤ (IntKind.i64.wrap (t24 + 1) : Int) ∧ (IntKind.i64.wrap (t24 + 1) : Int) < ((outn : Nat) : Int) ∧ ∃ t75p : Addr, outA = some t75p ∧ (∃ u : Value, w_8.cell? (t75p.add (Int.toNat (IntKind.i64.wrap (t24 + 1)) * 1)) = some u) ∧ w_8.frozen? (t75p.add (Int.toNat (IntKind.i64.wrap (t24 + 1)) * 1)) = false ∧ letW (w_8.setCell (t75p.add (Int.toNat (IntKind.i64.wrap (t24 + 1)) * 1)) (.bool true)) fun w_9 => check_Reach.J0 R outA outn outc t22A t22n t22c t23 t24 w_9)
    (check_Reach.J0 R outA outn outc t22A t22n t22c t23 t24 w_8)))))
    (R (.tuple #[(.slice outA outn outc), (.int .i64 0)]) w)

@[reducible] def check_Reach.vc (R : Value → World → Prop) (pA : Option Addr) (pn : Nat) (pc : Nat) (w : World) : Prop :=
  Run Try.prog 11 #[(.slice pA pn pc)] w fun v w_2 => ∃ t110 : Int, ∃ t111 : Int, v = (.tuple #[(.int .i64 t110), (.int .i64 t111)]) ∧ ifP ((t111 : Int) != 0)
    (R (.tuple #[(.slice none 0 0), (.int .i64 t111)]) w_2)
    (∃ (v_2 : Value) (w_3 : World), (Instr.makeSlice 30 (.int .i64 ((pn : Nat) : Int)) (.int .i64 ((pn : Nat) : Int))).run Try.prog w_2 = .ok v_2 w_3 ∧ ∃ (t19A : Option Addr) (t19n t19c : Nat), v_2 = (.slice t19A t19n t19c) ∧ 0 ≤ (0 : Int) ∧ (0 : Int) < ((t19n : Nat) : Int) ∧ ∃ t21p : Addr, t19A = some t21p ∧ (∃ u : Value, w_3.cell? (t21p.add (Int.toNat 0 * 1)) = some u) ∧ w_3.frozen? (t21p.add (Int.toNat 0 * 1)) = false ∧ letW (w_3.setCell (t21p.add (Int.toNat 0 * 1)) (.bool true)) fun w_4 => check_Reach.L0 R t19A t19n t19c pA pn pc ((pn : Nat) : Int) 0 w_4)

theorem check_Reach.B0_eq (R : Value → World → Prop) (outA : Option Addr) (outn : Nat) (outc : Nat) (t22A : Option Addr) (t22n : Nat) (t22c : Nat) (t23 : Int) (t24 : Int) (w : World) (ts : Nat → Value) :
    code Try.prog none check_Reach.live 0 check_Reach.c0 (thenK (fun st w => loopVC (fun K => code Try.prog none check_Reach.live 0 check_Reach.c0 K) (check_Reach.live 0) (check_Reach.K0 R) (clearFrom (check_Reach.live 0) 0 st) w) (check_Reach.K0 R)) (mergeFrom (check_Reach.live 0) ts 0 (clearFrom (check_Reach.live 0) 0 [undef, undef, undef, undef, undef, undef, (.slice outA outn outc), undef, undef, undef, undef, undef, undef, undef, undef, undef, undef, undef, undef, undef, undef, undef, (.slice t22A t22n t22c), (.int .i64 t23), (.int .i64 t24), undef, undef, undef, undef, undef, undef, undef, undef, undef, undef, undef, undef, undef, undef, undef, undef, undef, undef, undef, undef, undef, undef, undef, undef, undef, undef, undef, undef, undef, undef, undef, undef, undef, undef, undef, undef, undef, undef, undef, undef, undef, undef, undef, undef, undef, undef, undef, undef, undef, undef, undef, undef, undef])) w = check_Reach.B0 R outA outn outc t22A t22n t22c t23 t24 w := by kernel_rfl
theorem check_Reach.L0_step {R : Value → World → Prop} {outA : Option Addr} {outn : Nat} {outc : Nat} {t22A : Option Addr} {t22n : Nat} {t22c : Nat} {t23 : Int} {t24 : Int} {w : World} (h : check_Reach.B0 R outA outn outc t22A t22n t22c t23 t24 w) : check_Reach.L0 R outA outn outc t22A t22n t22c t23 t24 w :=
  loop_step (live := check_Reach.live) (b := 0) (x := check_Reach.c0) fun ts => Eq.mpr (check_Reach.B0_eq R outA outn outc t22A t22n t22c t23 t24 w ts) h
theorem check_Reach.eq (R : Value → World → Prop) (pA : Option Addr) (pn : Nat) (pc : Nat) (w : World) : fnVC Try.prog none check_Reach.live Try.f15 R [(.slice pA pn pc)] w = check_Reach.vc R pA pn pc w := by kernel_rfl
theorem check_Reach.ok {R : Value → World → Prop} {pA : Option Addr} {pn : Nat} {pc : Nat} {w : World} (h : check_Reach.vc R pA pn pc w) : Run Try.prog 15 #[(.slice pA pn pc)] w R :=
  fn_sound (args := [(.slice pA pn pc)]) Try.mixed Try.func15 (by kernel_rfl) (Eq.mpr (check_Reach.eq R pA pn pc w) h)

/-! ### riddle/riddlelaw0.SameBools: function 17 -/
noncomputable def law0_SameBools.body : Code := bodyOf Try.f17
def law0_SameBools.live : Nat → List Nat
  | 0 => [0, 1, 5]
  | _ => []
noncomputable def law0_SameBools.c0 : Code := sub law0_SameBools.body [1, 1, 0, 1, 0, 0]
def law0_SameBools.K0 (R : Value → World → Prop) : Ex → St → World → Prop := (blockK 0 (thenK (fun st w => code Try.prog none law0_SameBools.live 0 (sub law0_SameBools.body [1, 1, 1]) (retK Try.prog Try.f17 R) st w) (retK Try.prog Try.f17 R)))
def law0_SameBools.L0 (R : Value → World → Prop) (aA : Option Addr) (an : Nat) (ac : Nat) (bA : Option Addr) (bn : Nat) (bc : Nat) (i : Int) (w : World) : Prop :=
  loopVC (fun K => code Try.prog none law0_SameBools.live 0 law0_SameBools.c0 K) (law0_SameBools.live 0) (law0_SameBools.K0 R) [(.slice aA an ac), (.slice bA bn bc), undef, undef, undef, (.int .i64 i), undef, undef, undef, undef, undef, undef, undef, undef, undef, undef, undef, undef, undef, undef, undef, undef, undef, undef, undef, undef] w
@[reducible] def law0_SameBools.B0 (R : Value → World → Prop) (aA : Option Addr) (an : Nat) (ac : Nat) (bA : Option Addr) (bn : Nat) (bc : Nat) (i : Int) (w : World) : Prop :=
  ifP (decide ((i : Int) < ((an : Nat) : Int)))
    (letW w.drew fun w_2 => 0 ≤ (i : Int) ∧ (i : Int) < ((an : Nat) : Int) ∧ ∃ t19p : Addr, aA = some t19p ∧ ∃ t20 : Bool, w_2.cell? (t19p.add (Int.toNat i * 1)) = some (.bool t20) ∧ 0 ≤ (i : Int) ∧ (i : Int) < ((bn : Nat) : Int) ∧ ∃ t23p : Addr, bA = some t23p ∧ ∃ t24 : Bool, w_2.cell? (t23p.add (Int.toNat i * 1)) = some (.bool t24) ∧ ifP (!(t20 == t24))
    (R (.bool false) w_2)
    (law0_SameBools.L0 R aA an ac bA bn bc (IntKind.i64.wrap (i + 1)) w_2))
    (R (.bool true) w)

@[reducible] def law0_SameBools.vc (R : Value → World → Prop) (aA : Option Addr) (an : Nat) (ac : Nat) (bA : Option Addr) (bn : Nat) (bc : Nat) (w : World) : Prop :=
  ifP ((((an : Nat) : Int) : Int) != ((bn : Nat) : Int))
    (R (.bool false) w)
    (law0_SameBools.L0 R aA an ac bA bn bc 0 w)

theorem law0_SameBools.B0_eq (R : Value → World → Prop) (aA : Option Addr) (an : Nat) (ac : Nat) (bA : Option Addr) (bn : Nat) (bc : Nat) (i : Int) (w : World) (ts : Nat → Value) :
    code Try.prog none law0_SameBools.live 0 law0_SameBools.c0 (thenK (fun st w => loopVC (fun K => code Try.prog none law0_SameBools.live 0 law0_SameBools.c0 K) (law0_SameBools.live 0) (law0_SameBools.K0 R) (clearFrom (law0_SameBools.live 0) 0 st) w) (law0_SameBools.K0 R)) (mergeFrom (law0_SameBools.live 0) ts 0 (clearFrom (law0_SameBools.live 0) 0 [(.slice aA an ac), (.slice bA bn bc), undef, undef, undef, (.int .i64 i), undef, undef, undef, undef, undef, undef, undef, undef, undef, undef, undef, undef, undef, undef, undef, undef, undef, undef, undef, undef])) w = law0_SameBools.B0 R aA an ac bA bn bc i w := by kernel_rfl
theorem law0_SameBools.L0_step {R : Value → World → Prop} {aA : Option Addr} {an : Nat} {ac : Nat} {bA : Option Addr} {bn : Nat} {bc : Nat} {i : Int} {w : World} (h : law0_SameBools.B0 R aA an ac bA bn bc i w) : law0_SameBools.L0 R aA an ac bA bn bc i w :=
  loop_step (live := law0_SameBools.live) (b := 0) (x := law0_SameBools.c0) fun ts => Eq.mpr (law0_SameBools.B0_eq R aA an ac bA bn bc i w ts) h
theorem law0_SameBools.eq (R : Value → World → Prop) (aA : Option Addr) (an : Nat) (ac : Nat) (bA : Option Addr) (bn : Nat) (bc : Nat) (w : World) : fnVC Try.prog none law0_SameBools.live Try.f17 R [(.slice aA an ac), (.slice bA bn bc)] w = law0_SameBools.vc R aA an ac bA bn bc w := by kernel_rfl
theorem law0_SameBools.ok {R : Value → World → Prop} {aA : Option Addr} {an : Nat} {ac : Nat} {bA : Option Addr} {bn : Nat} {bc : Nat} {w : World} (h : law0_SameBools.vc R aA an ac bA bn bc w) : Run Try.prog 17 #[(.slice aA an ac), (.slice bA bn bc)] w R :=
  fn_sound (args := [(.slice aA an ac), (.slice bA bn bc)]) Try.mixed Try.func17 (by kernel_rfl) (Eq.mpr (law0_SameBools.eq R aA an ac bA bn bc w) h)

/-! ### riddle/riddlelaw4.awake: function 13 -/
noncomputable def law4_awake.body : Code := bodyOf Try.f13
def law4_awake.live : Nat → List Nat
  | _ => []
def law4_awake.J0 (R : Value → World → Prop) (t0 : Bool) (w : World) : Prop :=
  R (.bool t0) w

@[reducible] def law4_awake.vc (R : Value → World → Prop) (w : World) : Prop :=
  letW (w.alloc (.cells #[(.int .u16 7), (.int .u8 0), (.int .u8 0), (.int .u32 0), (.int .u16 135), (.int .u8 0), (.int .u8 0), (.int .u32 0)] 39)) fun w_2 => Run Try.prog 11 #[(.slice (some (newA w)) 2 2)] w_2 fun v w_3 => ∃ t110 : Int, ∃ t111 : Int, v = (.tuple #[(.int .i64 t110), (.int .i64 t111)]) ∧ letW (w_3.alloc (.cells #[(.int .u16 22), (.int .u8 0), (.int .u8 0), (.int .u32 0)] 39)) fun w_4 => Run Try.prog 11 #[(.slice (some (newA w_3)) 1 1)] w_4 fun v_2 w_5 => ∃ t170 : Int, ∃ t171 : Int, v_2 = (.tuple #[(.int .i64 t170), (.int .i64 t171)]) ∧ letW (w_5.alloc (.cells #[(.int .u16 5), (.int .u8 0), (.int .u8 0), (.int .u32 1), (.int .u16 7), (.int .u8 0), (.int .u8 0), (.int .u32 0), (.int .u16 6), (.int .u8 0), (.int .u8 0), (.int .u32 0)] 39)) fun w_6 => Run Try.prog 15 #[(.slice (some (newA w_5)) 3 3)] w_6 fun v_3 w_7 => ∃ (t250A : Option Addr) (t250n t250c : Nat), ∃ t251 : Int, v_3 = (.tuple #[(.slice t250A t250n t250c), (.int .i64 t251)]) ∧ ifP ((t111 : Int) == 47) (ifP ((t110 : Int) == 1) (ifP ((t171 : Int) == 0) (ifP ((t251 : Int) == 0) (letW (w_7.alloc (.cells #[(.bool true), (.bool false), (.bool true)] 4)) fun w_8 => Run Try.prog 17 #[(.slice t250A t250n t250c), (.slice (some (newA w_7)) 3 3)] w_8 fun v_4 w_9 => ∃ t45 : Bool, v_4 = (.bool t45) ∧ law4_awake.J0 R t45 w_9) (law4_awake.J0 R false w_7)) (law4_awake.J0 R false w_7)) (law4_awake.J0 R false w_7)) (law4_awake.J0 R false w_7)

theorem law4_awake.eq (R : Value → World → Prop) (w : World) : fnVC Try.prog none law4_awake.live Try.f13 R [] w = law4_awake.vc R  w := by kernel_rfl
theorem law4_awake.ok {R : Value → World → Prop} {w : World} (h : law4_awake.vc R  w) : Run Try.prog 13 #[] w R :=
  fn_sound (args := []) Try.mixed Try.func13 (by kernel_rfl) (Eq.mpr (law4_awake.eq R  w) h)

/-! ### riddle/riddlelaw4.CheckChecks: function 3 -/
noncomputable def law4_CheckChecks.body : Code := bodyOf Try.f3
def law4_CheckChecks.live : Nat → List Nat
  | _ => []
def law4_CheckChecks.J0 (R : Value → World → Prop) (t2 : Bool) (w : World) : Prop :=
  R (.bool t2) w

@[reducible] def law4_CheckChecks.vc (R : Value → World → Prop) (pA : Option Addr) (pn : Nat) (pc : Nat) (w : World) : Prop :=
  Run Try.prog 9 #[(.slice pA pn pc)] w fun v w_2 => ∃ t100 : Int, ∃ t101 : Int, v = (.tuple #[(.int .i64 t100), (.int .i64 t101)]) ∧ Run Try.prog 10 #[(.slice pA pn pc)] w_2 fun v_2 w_3 => ∃ (t14A : Option Addr) (t14n t14c : Nat), v_2 = (.slice t14A t14n t14c) ∧ Run Try.prog 11 #[(.slice t14A t14n t14c)] w_3 fun v_3 w_4 => ∃ t170 : Int, ∃ t171 : Int, v_3 = (.tuple #[(.int .i64 t170), (.int .i64 t171)]) ∧ Run Try.prog 12 #[(.slice t14A t14n t14c), (.slice pA pn pc)] w_4 fun v_4 w_5 => ∃ t22 : Bool, v_4 = (.bool t22) ∧ ifP t22 (ifP ((t170 : Int) == t100) (ifP ((t171 : Int) == t101) (Run Try.prog 13 #[] w_5 fun v_5 w_6 => ∃ t34 : Bool, v_5 = (.bool t34) ∧ law4_CheckChecks.J0 R t34 w_6) (law4_CheckChecks.J0 R false w_5)) (law4_CheckChecks.J0 R false w_5)) (law4_CheckChecks.J0 R false w_5)

theorem law4_CheckChecks.eq (R : Value → World → Prop) (pA : Option Addr) (pn : Nat) (pc : Nat) (w : World) : fnVC Try.prog none law4_CheckChecks.live Try.f3 R [(.slice pA pn pc)] w = law4_CheckChecks.vc R pA pn pc w := by kernel_rfl
theorem law4_CheckChecks.ok {R : Value → World → Prop} {pA : Option Addr} {pn : Nat} {pc : Nat} {w : World} (h : law4_CheckChecks.vc R pA pn pc w) : Run Try.prog 3 #[(.slice pA pn pc)] w R :=
  fn_sound (args := [(.slice pA pn pc)]) Try.mixed Try.func3 (by kernel_rfl) (Eq.mpr (law4_CheckChecks.eq R pA pn pc w) h)

/-! ### riddle/riddleref4.Reach: function 14 -/
noncomputable def ref4_Reach.body : Code := bodyOf Try.f14
def ref4_Reach.live : Nat → List Nat
  | 0 => [0, 6, 7]
  | _ => []
noncomputable def ref4_Reach.c0 : Code := sub ref4_Reach.body [1, 1, 1, 1, 0, 1, 0, 0]
def ref4_Reach.K0 (R : Value → World → Prop) : Ex → St → World → Prop := (blockK 0 (thenK (fun st w => code Try.prog none ref4_Reach.live 0 (sub ref4_Reach.body [1, 1, 1, 1, 1]) (retK Try.prog Try.f14 R) st w) (retK Try.prog Try.f14 R)))
def ref4_Reach.L0 (R : Value → World → Prop) (pA : Option Addr) (pn : Nat) (pc : Nat) (outA : Option Addr) (outn : Nat) (outc : Nat) (i : Int) (w : World) : Prop :=
  loopVC (fun K => code Try.prog none ref4_Reach.live 0 ref4_Reach.c0 K) (ref4_Reach.live 0) (ref4_Reach.K0 R) [(.slice pA pn pc), undef, undef, undef, undef, undef, (.slice outA outn outc), (.int .i64 i), undef, undef, undef, undef, undef, undef, undef, undef, undef, undef, undef, undef, undef, undef, undef, undef, undef, undef, undef, undef, undef, undef, undef, undef, undef, undef, undef, undef, undef, undef, undef, undef, undef, undef, undef, undef, undef, undef, undef, undef, undef, undef, undef, undef, undef, undef, undef, undef, undef, undef, undef, undef, undef, undef, undef, undef, undef, undef, undef, undef, undef, undef, undef, undef, undef, undef, undef, undef, undef, undef, undef, undef, undef, undef, undef, undef, undef, undef, undef, undef, undef, undef, undef, undef] w
def ref4_Reach.J1 (R : Value → World → Prop) (pA : Option Addr) (pn : Nat) (pc : Nat) (outA : Option Addr) (outn : Nat) (outc : Nat) (i : Int) (w : World) : Prop :=
  ref4_Reach.L0 R pA pn pc outA outn outc (IntKind.i64.wrap (i + 1)) w

def ref4_Reach.J0 (R : Value → World → Prop) (pA : Option Addr) (pn : Nat) (pc : Nat) (outA : Option Addr) (outn : Nat) (outc : Nat) (i : Int) (t39 : Bool) (w : World) : Prop :=
  ifP t39
    (ref4_Reach.J1 R pA pn pc outA outn outc i w)
    (0 ≤ (i : Int) ∧ (i : Int) < ((pn : Nat) : Int) ∧ ∃ t47p : Addr, pA = some t47p ∧ ∃ t49 : Int, w.cell? (t47p.add (Int.toNat i * 4)) = some (.int .u16 t49) ∧ ifP ((t49 : Int) == 5)
    (0 ≤ (i : Int) ∧ (i : Int) < ((pn : Nat) : Int) ∧ ∃ t56p : Addr, pA = some t56p ∧ ∃ t58 : Int, w.cell? ((t56p.add (Int.toNat i * 4)).add 3) = some (.int .u32 t58) ∧ 0 ≤ (IntKind.i64.wrap ((IntKind.i64.wrap (i + 1)) + (IntKind.i64.wrap t58)) : Int) ∧ (IntKind.i64.wrap ((IntKind.i64.wrap (i + 1)) + (IntKind.i64.wrap t58)) : Int) < ((outn : Nat) : Int) ∧ ∃ t61p : Addr, outA = some t61p ∧ (∃ u : Value, w.cell? (t61p.add (Int.toNat (IntKind.i64.wrap ((IntKind.i64.wrap (i + 1)) + (IntKind.i64.wrap t58))) * 1)) = some u) ∧ w.frozen? (t61p.add (Int.toNat (IntKind.i64.wrap ((IntKind.i64.wrap (i + 1)) + (IntKind.i64.wrap t58))) * 1)) = false ∧ letW (w.setCell (t61p.add (Int.toNat (IntKind.i64.wrap ((IntKind.i64.wrap (i + 1)) + (IntKind.i64.wrap t58))) * 1)) (.bool true)) fun w_2 => ref4_Reach.J1 R pA pn pc outA outn outc i w_2)
    (0 ≤ (i : Int) ∧ (i : Int) < ((pn : Nat) : Int) ∧ ∃ t65p : Addr, pA = some t65p ∧ ∃ t67 : Int, w.cell? (t65p.add (Int.toNat i * 4)) = some (.int .u16 t67) ∧ Run Try.prog 20 #[(.int .u16 t67)] w fun v w_3 => ∃ t68 : Bool, v = (.bool t68) ∧ ifP t68
    (0 ≤ (i : Int) ∧ (i : Int) < ((pn : Nat) : Int) ∧ ∃ t74p : Addr, pA = some t74p ∧ ∃ t76 : Int, w_3.cell? ((t74p.add (Int.toNat i * 4)).add 1) = some (.int .u8 t76) ∧ 0 ≤ (IntKind.i64.wrap ((IntKind.i64.wrap (i + 1)) + (IntKind.i64.wrap t76)) : Int) ∧ (IntKind.i64.wrap ((IntKind.i64.wrap (i + 1)) + (IntKind.i64.wrap t76)) : Int) < ((outn : Nat) : Int) ∧ ∃ t79p : Addr, outA = some t79p ∧ (∃ u : Value, w_3.cell? (t79p.add (Int.toNat (IntKind.i64.wrap ((IntKind.i64.wrap (i + 1)) + (IntKind.i64.wrap t76))) * 1)) = some u) ∧ w_3.frozen? (t79p.add (Int.toNat (IntKind.i64.wrap ((IntKind.i64.wrap (i + 1)) + (IntKind.i64.wrap t76))) * 1)) = false ∧ letW (w_3.setCell (t79p.add (Int.toNat (IntKind.i64.wrap ((IntKind.i64.wrap (i + 1)) + (IntKind.i64.wrap t76))) * 1)) (.bool true)) fun w_4 => 0 ≤ (i : Int) ∧ (i : Int) < ((pn : Nat) : Int) ∧ ∃ t85p : Addr, pA = some t85p ∧ ∃ t87 : Int, w_4.cell? ((t85p.add (Int.toNat i * 4)).add 2) = some (.int .u8 t87) ∧ 0 ≤ (IntKind.i64.wrap ((IntKind.i64.wrap (i + 1)) + (IntKind.i64.wrap t87)) : Int) ∧ (IntKind.i64.wrap ((IntKind.i64.wrap (i + 1)) + (IntKind.i64.wrap t87)) : Int) < ((outn : Nat) : Int) ∧ ∃ t90p : Addr, outA = some t90p ∧ (∃ u : Value, w_4.cell? (t90p.add (Int.toNat (IntKind.i64.wrap ((IntKind.i64.wrap (i + 1)) + (IntKind.i64.wrap t87))) * 1)) = some u) ∧ w_4.frozen? (t90p.add (Int.toNat (IntKind.i64.wrap ((IntKind.i64.wrap (i + 1)) + (IntKind.i64.wrap t87))) * 1)) = false ∧ letW (w_4.setCell (t90p.add (Int.toNat (IntKind.i64.wrap ((IntKind.i64.wrap (i + 1)) + (IntKind.i64.wrap t87))) * 1)) (.bool true)) fun w_5 => ref4_Reach.J1 R pA pn pc outA outn outc i w_5)
    (0 ≤ (IntKind.i64.wrap (i + 1) : Int) ∧ (IntKind.i64.wrap (i + 1) : Int) < ((outn : Nat) : Int) ∧ ∃ t43p : Addr, outA = some t43p ∧ (∃ u : Value, w_3.cell? (t43p.add (Int.toNat (IntKind.i64.wrap (i + 1)) * 1)) = some u) ∧ w_3.frozen? (t43p.add (Int.toNat (IntKind.i64.wrap (i + 1)) * 1)) = false ∧ letW (w_3.setCell (t43p.add (Int.toNat (IntKind.i64.wrap (i + 1)) * 1)) (.bool true)) fun w_6 => ref4_Reach.J1 R pA pn pc outA outn outc i w_6)))

@[reducible] def ref4_Reach.B0 (R : Value → World → Prop) (pA : Option Addr) (pn : Nat) (pc : Nat) (outA : Option Addr) (outn : Nat) (outc : Nat) (i : Int) (w : World) : Prop :=
  ifP (decide ((i : Int) < ((pn : Nat) : Int)))
    (0 ≤ (i : Int) ∧ (i : Int) < ((outn : Nat) : Int) ∧ ∃ t29p : Addr, outA = some t29p ∧ ∃ t30 : Bool, w.cell? (t29p.add (Int.toNat i * 1)) = some (.bool t30) ∧ ifP (!t30) (ref4_Reach.J0 R pA pn pc outA outn outc i true w) (0 ≤ (i : Int) ∧ (i : Int) < ((pn : Nat) : Int) ∧ ∃ t35p : Addr, pA = some t35p ∧ ∃ t37 : Int, w.cell? (t35p.add (Int.toNat i * 4)) = some (.int .u16 t37) ∧ Run Try.prog 19 #[(.int .u16 t37)] w fun v w_2 => ∃ t38 : Bool, v = (.bool t38) ∧ ref4_Reach.J0 R pA pn pc outA outn outc i t38 w_2))
    (R (.tuple #[(.slice outA outn outc), (.int .i64 0)]) w)

@[reducible] def ref4_Reach.vc (R : Value → World → Prop) (pA : Option Addr) (pn : Nat) (pc : Nat) (w : World) : Prop :=
  Run Try.prog 9 #[(.slice pA pn pc)] w fun v w_2 => ∃ t100 : Int, ∃ t101 : Int, v = (.tuple #[(.int .i64 t100), (.int .i64 t101)]) ∧ ifP ((t101 : Int) != 0)
    (R (.tuple #[(.slice none 0 0), (.int .i64 t101)]) w_2)
    (∃ (v_2 : Value) (w_3 : World), (Instr.makeSlice 30 (.int .i64 ((pn : Nat) : Int)) (.int .i64 ((pn : Nat) : Int))).run Try.prog w_2 = .ok v_2 w_3 ∧ ∃ (t18A : Option Addr) (t18n t18c : Nat), v_2 = (.slice t18A t18n t18c) ∧ 0 ≤ (0 : Int) ∧ (0 : Int) < ((t18n : Nat) : Int) ∧ ∃ t20p : Addr, t18A = some t20p ∧ (∃ u : Value, w_3.cell? (t20p.add (Int.toNat 0 * 1)) = some u) ∧ w_3.frozen? (t20p.add (Int.toNat 0 * 1)) = false ∧ letW (w_3.setCell (t20p.add (Int.toNat 0 * 1)) (.bool true)) fun w_4 => ref4_Reach.L0 R pA pn pc t18A t18n t18c 0 w_4)

theorem ref4_Reach.B0_eq (R : Value → World → Prop) (pA : Option Addr) (pn : Nat) (pc : Nat) (outA : Option Addr) (outn : Nat) (outc : Nat) (i : Int) (w : World) (ts : Nat → Value) :
    code Try.prog none ref4_Reach.live 0 ref4_Reach.c0 (thenK (fun st w => loopVC (fun K => code Try.prog none ref4_Reach.live 0 ref4_Reach.c0 K) (ref4_Reach.live 0) (ref4_Reach.K0 R) (clearFrom (ref4_Reach.live 0) 0 st) w) (ref4_Reach.K0 R)) (mergeFrom (ref4_Reach.live 0) ts 0 (clearFrom (ref4_Reach.live 0) 0 [(.slice pA pn pc), undef, undef, undef, undef, undef, (.slice outA outn outc), (.int .i64 i), undef, undef, undef, undef, undef, undef, undef, undef, undef, undef, undef, undef, undef, undef, undef, undef, undef, undef, undef, undef, undef, undef, undef, undef, undef, undef, undef, undef, undef, undef, undef, undef, undef, undef, undef, undef, undef, undef, undef, undef, undef, undef, undef, undef, undef, undef, undef, undef, undef, undef, undef, undef, undef, undef, undef, undef, undef, undef, undef, undef, undef, undef, undef, undef, undef, undef, undef, undef, undef, undef, undef, undef, undef, undef, undef, undef, undef, undef, undef, undef, undef, undef, undef, undef])) w = ref4_Reach.B0 R pA pn pc outA outn outc i w := by kernel_rfl
theorem ref4_Reach.L0_step {R : Value → World → Prop} {pA : Option Addr} {pn : Nat} {pc : Nat} {outA : Option Addr} {outn : Nat} {outc : Nat} {i : Int} {w : World} (h : ref4_Reach.B0 R pA pn pc outA outn outc i w) : ref4_Reach.L0 R pA pn pc outA outn outc i w :=
  loop_step (live := ref4_Reach.live) (b := 0) (x := ref4_Reach.c0) fun ts => Eq.mpr (ref4_Reach.B0_eq R pA pn pc outA outn outc i w ts) h
theorem ref4_Reach.eq (R : Value → World → Prop) (pA : Option Addr) (pn : Nat) (pc : Nat) (w : World) : fnVC Try.prog none ref4_Reach.live Try.f14 R [(.slice pA pn pc)] w = ref4_Reach.vc R pA pn pc w := by kernel_rfl
theorem ref4_Reach.ok {R : Value → World → Prop} {pA : Option Addr} {pn : Nat} {pc : Nat} {w : World} (h : ref4_Reach.vc R pA pn pc w) : Run Try.prog 14 #[(.slice pA pn pc)] w R :=
  fn_sound (args := [(.slice pA pn pc)]) Try.mixed Try.func14 (by kernel_rfl) (Eq.mpr (ref4_Reach.eq R pA pn pc w) h)

/-! ### riddle/riddlelaw0.SpoilBools: function 18 -/
noncomputable def law0_SpoilBools.body : Code := bodyOf Try.f18
def law0_SpoilBools.live : Nat → List Nat
  | 0 => [0, 2, 3]
  | 2 => [0, 4]
  | _ => []
noncomputable def law0_SpoilBools.c0 : Code := sub law0_SpoilBools.body [1, 0, 1, 0, 0]
noncomputable def law0_SpoilBools.c2 : Code := sub law0_SpoilBools.body [1, 1, 1, 0, 0]
def law0_SpoilBools.K0 (R : Value → World → Prop) : Ex → St → World → Prop := (blockK 0 (thenK (fun st w => code Try.prog none law0_SpoilBools.live 0 (sub law0_SpoilBools.body [1, 1]) (retK Try.prog Try.f18 R) st w) (retK Try.prog Try.f18 R)))
def law0_SpoilBools.L0 (R : Value → World → Prop) (aA : Option Addr) (an : Nat) (ac : Nat) (fullA : Option Addr) (fulln : Nat) (fullc : Nat) (i : Int) (w : World) : Prop :=
  loopVC (fun K => code Try.prog none law0_SpoilBools.live 0 law0_SpoilBools.c0 K) (law0_SpoilBools.live 0) (law0_SpoilBools.K0 R) [(.slice aA an ac), undef, (.slice fullA fulln fullc), (.int .i64 i), undef, undef, undef, undef, undef, undef, undef, undef, undef, undef, undef, undef, undef, undef, undef, undef, undef, undef, undef, undef, undef, undef] w
def law0_SpoilBools.K2 (R : Value → World → Prop) : Ex → St → World → Prop := (blockK 2 (retK Try.prog Try.f18 R))
def law0_SpoilBools.L2 (R : Value → World → Prop) (aA : Option Addr) (an : Nat) (ac : Nat) (i : Int) (w : World) : Prop :=
  loopVC (fun K => code Try.prog none law0_SpoilBools.live 2 law0_SpoilBools.c2 K) (law0_SpoilBools.live 2) (law0_SpoilBools.K2 R) [(.slice aA an ac), undef, undef, undef, (.int .i64 i), undef, undef, undef, undef, undef, undef, undef, undef, undef, undef, undef, undef, undef, undef, undef, undef, undef, undef, undef, undef, undef] w
@[reducible] def law0_SpoilBools.B2 (R : Value → World → Prop) (aA : Option Addr) (an : Nat) (ac : Nat) (i : Int) (w : World) : Prop :=
  ifP (decide ((i : Int) < ((an : Nat) : Int)))
    (0 ≤ (i : Int) ∧ (i : Int) < ((an : Nat) : Int) ∧ ∃ t25p : Addr, aA = some t25p ∧ (∃ u : Value, w.cell? (t25p.add (Int.toNat i * 1)) = some u) ∧ w.frozen? (t25p.add (Int.toNat i * 1)) = false ∧ letW (w.setCell (t25p.add (Int.toNat i * 1)) (.bool true)) fun w_2 => law0_SpoilBools.L2 R aA an ac (IntKind.i64.wrap (i + 1)) w_2)
    (R (.tuple #[]) w)

@[reducible] def law0_SpoilBools.B0 (R : Value → World → Prop) (aA : Option Addr) (an : Nat) (ac : Nat) (fullA : Option Addr) (fulln : Nat) (fullc : Nat) (i : Int) (w : World) : Prop :=
  ifP (decide ((i : Int) < ((fulln : Nat) : Int)))
    (0 ≤ (i : Int) ∧ (i : Int) < ((fulln : Nat) : Int) ∧ ∃ t16p : Addr, fullA = some t16p ∧ (∃ u : Value, w.cell? (t16p.add (Int.toNat i * 1)) = some u) ∧ w.frozen? (t16p.add (Int.toNat i * 1)) = false ∧ letW (w.setCell (t16p.add (Int.toNat i * 1)) (.bool true)) fun w_2 => law0_SpoilBools.L0 R aA an ac fullA fulln fullc (IntKind.i64.wrap (i + 1)) w_2)
    (law0_SpoilBools.L2 R aA an ac 0 w)

@[reducible] def law0_SpoilBools.vc (R : Value → World → Prop) (aA : Option Addr) (an : Nat) (ac : Nat) (w : World) : Prop :=
  letW (w.alloc (.cells #[(.bool true)] 4)) fun w_2 => ∃ (v : Value) (w_3 : World), (Builtin.append_ #[30, 30] 30 #[(.slice aA an ac), (.slice (some (newA w)) 1 1)]).run Try.prog w_2 = .ok v w_3 ∧ ∃ (t7A : Option Addr) (t7n t7c : Nat), v = (.slice t7A t7n t7c) ∧ law0_SpoilBools.L0 R aA an ac t7A t7n t7c 0 w_3

theorem law0_SpoilBools.B0_eq (R : Value → World → Prop) (aA : Option Addr) (an : Nat) (ac : Nat) (fullA : Option Addr) (fulln : Nat) (fullc : Nat) (i : Int) (w : World) (ts : Nat → Value) :
    code Try.prog none law0_SpoilBools.live 0 law0_SpoilBools.c0 (thenK (fun st w => loopVC (fun K => code Try.prog none law0_SpoilBools.live 0 law0_SpoilBools.c0 K) (law0_SpoilBools.live 0) (law0_SpoilBools.K0 R) (clearFrom (law0_SpoilBools.live 0) 0 st) w) (law0_SpoilBools.K0 R)) (mergeFrom (law0_SpoilBools.live 0) ts 0 (clearFrom (law0_SpoilBools.live 0) 0 [(.slice aA an ac), undef, (.slice fullA fulln fullc), (.int .i64 i), undef, undef, undef, undef, undef, undef, undef, undef, undef, undef, undef, undef, undef, undef, undef, undef, undef, undef, undef, undef, undef, undef])) w = law0_SpoilBools.B0 R aA an ac fullA fulln fullc i w := by kernel_rfl
theorem law0_SpoilBools.L0_step {R : Value → World → Prop} {aA : Option Addr} {an : Nat} {ac : Nat} {fullA : Option Addr} {fulln : Nat} {fullc : Nat} {i : Int} {w : World} (h : law0_SpoilBools.B0 R aA an ac fullA fulln fullc i w) : law0_SpoilBools.L0 R aA an ac fullA fulln fullc i w :=
  loop_step (live := law0_SpoilBools.live) (b := 0) (x := law0_SpoilBools.c0) fun ts => Eq.mpr (law0_SpoilBools.B0_eq R aA an ac fullA fulln fullc i w ts) h
theorem law0_SpoilBools.B2_eq (R : Value → World → Prop) (aA : Option Addr) (an : Nat) (ac : Nat) (i : Int) (w : World) (ts : Nat → Value) :
    code Try.prog none law0_SpoilBools.live 2 law0_SpoilBools.c2 (thenK (fun st w => loopVC (fun K => code Try.prog none law0_SpoilBools.live 2 law0_SpoilBools.c2 K) (law0_SpoilBools.live 2) (law0_SpoilBools.K2 R) (clearFrom (law0_SpoilBools.live 2) 0 st) w) (law0_SpoilBools.K2 R)) (mergeFrom (law0_SpoilBools.live 2) ts 0 (clearFrom (law0_SpoilBools.live 2) 0 [(.slice aA an ac), undef, undef, undef, (.int .i64 i), undef, undef, undef, undef, undef, undef, undef, undef, undef, undef, undef, undef, undef, undef, undef, undef, undef, undef, undef, undef, undef])) w = law0_SpoilBools.B2 R aA an ac i w := by kernel_rfl
theorem law0_SpoilBools.L2_step {R : Value → World → Prop} {aA : Option Addr} {an : Nat} {ac : Nat} {i : Int} {w : World} (h : law0_SpoilBools.B2 R aA an ac i w) : law0_SpoilBools.L2 R aA an ac i w :=
  loop_step (live := law0_SpoilBools.live) (b := 2) (x := law0_SpoilBools.c2) fun ts => Eq.mpr (law0_SpoilBools.B2_eq R aA an ac i w ts) h
theorem law0_SpoilBools.eq (R : Value → World → Prop) (aA : Option Addr) (an : Nat) (ac : Nat) (w : World) : fnVC Try.prog none law0_SpoilBools.live Try.f18 R [(.slice aA an ac)] w = law0_SpoilBools.vc R aA an ac w := by kernel_rfl
theorem law0_SpoilBools.ok {R : Value → World → Prop} {aA : Option Addr} {an : Nat} {ac : Nat} {w : World} (h : law0_SpoilBools.vc R aA an ac w) : Run Try.prog 18 #[(.slice aA an ac)] w R :=
  fn_sound (args := [(.slice aA an ac)]) Try.mixed Try.func18 (by kernel_rfl) (Eq.mpr (law0_SpoilBools.eq R aA an ac w) h)

/-! ### riddle/riddlelaw4.CheckReaches: function 4 -/
noncomputable def law4_CheckReaches.body : Code := bodyOf Try.f4
def law4_CheckReaches.live : Nat → List Nat
  | _ => []
def law4_CheckReaches.J1 (R : Value → World → Prop) (t2 : Bool) (w : World) : Prop :=
  R (.bool t2) w

def law4_CheckReaches.J0 (R : Value → World → Prop) (wantA : Option Addr) (wantn : Nat) (wantc : Nat) (xA : Option Addr) (xn : Nat) (xc : Nat) (yA : Option Addr) (yn : Nat) (yc : Nat) (t45 : Bool) (w : World) : Prop :=
  ifP t45
    (R (.bool false) w)
    (Run Try.prog 18 #[(.slice xA xn xc)] w fun v w_2 => v = (.tuple #[]) ∧ Run Try.prog 17 #[(.slice yA yn yc), (.slice wantA wantn wantc)] w_2 fun v_2 w_3 => ∃ t50 : Bool, v_2 = (.bool t50) ∧ ifP t50 (Run Try.prog 13 #[] w_3 fun v_3 w_4 => ∃ t52 : Bool, v_3 = (.bool t52) ∧ law4_CheckReaches.J1 R t52 w_4) (law4_CheckReaches.J1 R false w_3))

@[reducible] def law4_CheckReaches.vc (R : Value → World → Prop) (pA : Option Addr) (pn : Nat) (pc : Nat) (w : World) : Prop :=
  Run Try.prog 14 #[(.slice pA pn pc)] w fun v w_2 => ∃ (t120A : Option Addr) (t120n t120c : Nat), ∃ t121 : Int, v = (.tuple #[(.slice t120A t120n t120c), (.int .i64 t121)]) ∧ Run Try.prog 10 #[(.slice pA pn pc)] w_2 fun v_2 w_3 => ∃ (t16A : Option Addr) (t16n t16c : Nat), v_2 = (.slice t16A t16n t16c) ∧ Run Try.prog 15 #[(.slice t16A t16n t16c)] w_3 fun v_3 w_4 => ∃ (t190A : Option Addr) (t190n t190c : Nat), ∃ t191 : Int, v_3 = (.tuple #[(.slice t190A t190n t190c), (.int .i64 t191)]) ∧ Run Try.prog 12 #[(.slice t16A t16n t16c), (.slice pA pn pc)] w_4 fun v_4 w_5 => ∃ t24 : Bool, v_4 = (.bool t24) ∧ ifP (!t24)
    (R (.bool false) w_5)
    (Run Try.prog 16 #[(.slice pA pn pc)] w_5 fun v_5 w_6 => ∃ (t28A : Option Addr) (t28n t28c : Nat), v_5 = (.slice t28A t28n t28c) ∧ Run Try.prog 15 #[(.slice t28A t28n t28c)] w_6 fun v_6 w_7 => ∃ (t290A : Option Addr) (t290n t290c : Nat), ∃ t291 : Int, v_6 = (.tuple #[(.slice t290A t290n t290c), (.int .i64 t291)]) ∧ ifP ((t191 : Int) != t121) (law4_CheckReaches.J0 R t120A t120n t120c t190A t190n t190c t290A t290n t290c true w_7) (ifP ((t291 : Int) != t121) (law4_CheckReaches.J0 R t120A t120n t120c t190A t190n t190c t290A t290n t290c true w_7) (Run Try.prog 17 #[(.slice t190A t190n t190c), (.slice t120A t120n t120c)] w_7 fun v_7 w_8 => ∃ t43 : Bool, v_7 = (.bool t43) ∧ law4_CheckReaches.J0 R t120A t120n t120c t190A t190n t190c t290A t290n t290c (!t43) w_8)))

theorem law4_CheckReaches.eq (R : Value → World → Prop) (pA : Option Addr) (pn : Nat) (pc : Nat) (w : World) : fnVC Try.prog none law4_CheckReaches.live Try.f4 R [(.slice pA pn pc)] w = law4_CheckReaches.vc R pA pn pc w := by kernel_rfl
theorem law4_CheckReaches.ok {R : Value → World → Prop} {pA : Option Addr} {pn : Nat} {pc : Nat} {w : World} (h : law4_CheckReaches.vc R pA pn pc w) : Run Try.prog 4 #[(.slice pA pn pc)] w R :=
  fn_sound (args := [(.slice pA pn pc)]) Try.mixed Try.func4 (by kernel_rfl) (Eq.mpr (law4_CheckReaches.eq R pA pn pc w) h)

/-! ### riddle/riddlelaw4.CheckAhead: function 6 -/
noncomputable def law4_CheckAhead.body : Code := bodyOf Try.f6
def law4_CheckAhead.live : Nat → List Nat
  | _ => []
def law4_CheckAhead.J1 (R : Value → World → Prop) (t6 : Bool) (w : World) : Prop :=
  R (.bool t6) w

def law4_CheckAhead.J0 (R : Value → World → Prop) (pA : Option Addr) (pn : Nat) (pc : Nat) (qA : Option Addr) (qn : Nat) (qc : Nat) (k : Int) (t41 : Bool) (w : World) : Prop :=
  ifP t41
    (Run Try.prog 13 #[] w fun v w_2 => ∃ t42 : Bool, v = (.bool t42) ∧ R (.bool t42) w_2)
    (letW (w.alloc (.cells #[(.int .u16 0), (.int .u8 0), (.int .u8 0), (.int .u32 k), (.int .u16 7), (.int .u8 0), (.int .u8 0), (.int .u32 0), (.int .u16 2), (.int .u8 0), (.int .u8 0), (.int .u32 (andI .u32 k 15)), (.int .u16 12), (.int .u8 0), (.int .u8 0), (.int .u32 0)] 39)) fun w_3 => ∃ (v_2 : Value) (w_4 : World), (Builtin.append_ #[22, 22] 22 #[(.slice (some (newA w)) 4 4), (.slice pA pn pc)]).run Try.prog w_3 = .ok v_2 w_4 ∧ ∃ (t54A : Option Addr) (t54n t54c : Nat), v_2 = (.slice t54A t54n t54c) ∧ Run Try.prog 11 #[(.slice t54A t54n t54c)] w_4 fun v_3 w_5 => ∃ t550 : Int, ∃ t551 : Int, v_3 = (.tuple #[(.int .i64 t550), (.int .i64 t551)]) ∧ Run Try.prog 16 #[(.slice pA pn pc)] w_5 fun v_4 w_6 => ∃ (t60A : Option Addr) (t60n t60c : Nat), v_4 = (.slice t60A t60n t60c) ∧ ∃ (v_5 : Value) (w_7 : World), (Builtin.append_ #[22, 22] 22 #[(.slice t60A t60n t60c), (.slice qA qn qc)]).run Try.prog w_6 = .ok v_5 w_7 ∧ ∃ (t62A : Option Addr) (t62n t62c : Nat), v_5 = (.slice t62A t62n t62c) ∧ Run Try.prog 11 #[(.slice t62A t62n t62c)] w_7 fun v_6 w_8 => ∃ t630 : Int, ∃ t631 : Int, v_6 = (.tuple #[(.int .i64 t630), (.int .i64 t631)]) ∧ ifP ((t551 : Int) == 0) (ifP ((t631 : Int) == 0) (Run Try.prog 13 #[] w_8 fun v_7 w_9 => ∃ t73 : Bool, v_7 = (.bool t73) ∧ law4_CheckAhead.J1 R t73 w_9) (law4_CheckAhead.J1 R false w_8)) (law4_CheckAhead.J1 R false w_8))

@[reducible] def law4_CheckAhead.vc (R : Value → World → Prop) (pA : Option Addr) (pn : Nat) (pc : Nat) (qA : Option Addr) (qn : Nat) (qc : Nat) (k : Int) (w : World) : Prop :=
  Run Try.prog 16 #[(.slice pA pn pc)] w fun v w_2 => ∃ (t18A : Option Addr) (t18n t18c : Nat), v = (.slice t18A t18n t18c) ∧ Run Try.prog 11 #[(.slice t18A t18n t18c)] w_2 fun v_2 w_3 => ∃ t190 : Int, ∃ t191 : Int, v_2 = (.tuple #[(.int .i64 t190), (.int .i64 t191)]) ∧ Run Try.prog 16 #[(.slice qA qn qc)] w_3 fun v_3 w_4 => ∃ (t24A : Option Addr) (t24n t24c : Nat), v_3 = (.slice t24A t24n t24c) ∧ Run Try.prog 11 #[(.slice t24A t24n t24c)] w_4 fun v_4 w_5 => ∃ t250 : Int, ∃ t251 : Int, v_4 = (.tuple #[(.int .i64 t250), (.int .i64 t251)]) ∧ ifP ((t191 : Int) != 0) (law4_CheckAhead.J0 R pA pn pc qA qn qc k true w_5) (ifP ((t251 : Int) != 0) (law4_CheckAhead.J0 R pA pn pc qA qn qc k true w_5) (law4_CheckAhead.J0 R pA pn pc qA qn qc k (decide ((IntKind.i64.wrap (((pn : Nat) : Int) + ((qn : Nat) : Int)) : Int) > 4092)) w_5))

theorem law4_CheckAhead.eq (R : Value → World → Prop) (pA : Option Addr) (pn : Nat) (pc : Nat) (qA : Option Addr) (qn : Nat) (qc : Nat) (k : Int) (w : World) : fnVC Try.prog none law4_CheckAhead.live Try.f6 R [(.slice pA pn pc), (.slice qA qn qc), (.int .u32 k)] w = law4_CheckAhead.vc R pA pn pc qA qn qc k w := by kernel_rfl
theorem law4_CheckAhead.ok {R : Value → World → Prop} {pA : Option Addr} {pn : Nat} {pc : Nat} {qA : Option Addr} {qn : Nat} {qc : Nat} {k : Int} {w : World} (h : law4_CheckAhead.vc R pA pn pc qA qn qc k w) : Run Try.prog 6 #[(.slice pA pn pc), (.slice qA qn qc), (.int .u32 k)] w R :=
  fn_sound (args := [(.slice pA pn pc), (.slice qA qn qc), (.int .u32 k)]) Try.mixed Try.func6 (by kernel_rfl) (Eq.mpr (law4_CheckAhead.eq R pA pn pc qA qn qc k w) h)

/-! ### riddle/riddlelaw0.Low: function 22 -/
noncomputable def law0_Low.body : Code := bodyOf Try.f22
def law0_Low.live : Nat → List Nat
  | _ => []
@[reducible] def law0_Low.vc (R : Value → World → Prop) (x : Int) (w : World) : Prop :=
  R (.int .i64 (andI .i64 x 9223372036854775807)) w

theorem law0_Low.eq (R : Value → World → Prop) (x : Int) (w : World) : fnVC Try.prog none law0_Low.live Try.f22 R [(.int .i64 x)] w = law0_Low.vc R x w := by kernel_rfl
theorem law0_Low.ok {R : Value → World → Prop} {x : Int} {w : World} (h : law0_Low.vc R x w) : Run Try.prog 22 #[(.int .i64 x)] w R :=
  fn_sound (args := [(.int .i64 x)]) Try.mixed Try.func22 (by kernel_rfl) (Eq.mpr (law0_Low.eq R x w) h)

/-! ### riddle/riddlelaw4.CheckSpoilt: function 7 -/
noncomputable def law4_CheckSpoilt.body : Code := bodyOf Try.f7
def law4_CheckSpoilt.live : Nat → List Nat
  | 0 => [0, 9, 10, 11, 12]
  | _ => []
noncomputable def law4_CheckSpoilt.c0 : Code := sub law4_CheckSpoilt.body [1, 1, 1, 1, 1, 1, 0, 1, 0, 0]
def law4_CheckSpoilt.K0 (R : Value → World → Prop) : Ex → St → World → Prop := (blockK 0 (thenK (fun st w => code Try.prog none law4_CheckSpoilt.live 0 (sub law4_CheckSpoilt.body [1, 1, 1, 1, 1, 1, 1]) (retK Try.prog Try.f7 R) st w) (retK Try.prog Try.f7 R)))
def law4_CheckSpoilt.L0 (R : Value → World → Prop) (pA : Option Addr) (pn : Nat) (pc : Nat) (i : Int) (badA : Option Addr) (badn : Nat) (badc : Nat) (codesA : Option Addr) (codesn : Nat) (codesc : Nat) (j : Int) (w : World) : Prop :=
  loopVC (fun K => code Try.prog none law4_CheckSpoilt.live 0 law4_CheckSpoilt.c0 K) (law4_CheckSpoilt.live 0) (law4_CheckSpoilt.K0 R) [(.slice pA pn pc), undef, undef, undef, undef, undef, undef, undef, undef, (.int .i64 i), (.slice badA badn badc), (.slice codesA codesn codesc), (.int .i64 j), undef, undef, undef, undef, undef, undef, undef, undef, undef, undef, undef, undef, undef, undef, undef, undef, undef, undef, undef, undef, undef, undef, undef, undef, undef, undef, undef, undef, undef, undef, undef, undef, undef, undef, undef, undef, undef, undef, undef, undef, undef, undef, undef, undef, undef, undef, undef, undef, undef, undef, undef, undef, undef, undef, undef, undef, undef, undef, undef, undef, undef, undef, undef, undef, undef, undef, undef, undef, undef, undef, undef, undef, undef, undef, undef, undef, undef, undef, undef, undef, undef, undef, undef, undef, undef, undef, undef, undef, undef, undef, undef, undef, undef, undef, undef, undef, undef, undef, undef, undef, undef] w
def law4_CheckSpoilt.J1 (R : Value → World → Prop) (pA : Option Addr) (pn : Nat) (pc : Nat) (i : Int) (badA : Option Addr) (badn : Nat) (badc : Nat) (codesA : Option Addr) (codesn : Nat) (codesc : Nat) (j : Int) (w : World) : Prop :=
  law4_CheckSpoilt.L0 R pA pn pc i badA badn badc codesA codesn codesc (IntKind.i64.wrap (j + 1)) w

def law4_CheckSpoilt.J2 (R : Value → World → Prop) (pA : Option Addr) (pn : Nat) (pc : Nat) (i : Int) (badA : Option Addr) (badn : Nat) (badc : Nat) (codesA : Option Addr) (codesn : Nat) (codesc : Nat) (j : Int) (t88 : Bool) (w : World) : Prop :=
  ifP t88
    (R (.bool false) w)
    (law4_CheckSpoilt.J1 R pA pn pc i badA badn badc codesA codesn codesc j w)

def law4_CheckSpoilt.J0 (R : Value → World → Prop) (pA : Option Addr) (pn : Nat) (pc : Nat) (i : Int) (badA : Option Addr) (badn : Nat) (badc : Nat) (codesA : Option Addr) (codesn : Nat) (codesc : Nat) (j : Int) (t63 : Bool) (w : World) : Prop :=
  ifP t63
    (law4_CheckSpoilt.J1 R pA pn pc i badA badn badc codesA codesn codesc j w)
    (Run Try.prog 16 #[(.slice pA pn pc)] w fun v w_2 => ∃ (t65A : Option Addr) (t65n t65c : Nat), v = (.slice t65A t65n t65c) ∧ 0 ≤ (j : Int) ∧ (j : Int) < ((badn : Nat) : Int) ∧ ∃ t70p : Addr, badA = some t70p ∧ ∃ t71_0 : Int, w_2.cell? (t70p.add (Int.toNat j * 4)) = some (.int .u16 t71_0) ∧ ∃ t71_1 : Int, w_2.cell? ((t70p.add (Int.toNat j * 4)).add 1) = some (.int .u8 t71_1) ∧ ∃ t71_2 : Int, w_2.cell? ((t70p.add (Int.toNat j * 4)).add 2) = some (.int .u8 t71_2) ∧ ∃ t71_3 : Int, w_2.cell? ((t70p.add (Int.toNat j * 4)).add 3) = some (.int .u32 t71_3) ∧ 0 ≤ (i : Int) ∧ (i : Int) < ((t65n : Nat) : Int) ∧ ∃ t72p : Addr, t65A = some t72p ∧ storeRow (t72p.add (Int.toNat i * 4)) 0 [(.int .u16 t71_0), (.int .u8 t71_1), (.int .u8 t71_2), (.int .u32 t71_3)] w_2 fun w_3 => Run Try.prog 11 #[(.slice t65A t65n t65c)] w_3 fun v_2 w_4 => ∃ t750 : Int, ∃ t751 : Int, v_2 = (.tuple #[(.int .i64 t750), (.int .i64 t751)]) ∧ ifP ((t750 : Int) != i) (law4_CheckSpoilt.J2 R pA pn pc i badA badn badc codesA codesn codesc j true w_4) (0 ≤ (j : Int) ∧ (j : Int) < ((codesn : Nat) : Int) ∧ ∃ t85p : Addr, codesA = some t85p ∧ ∃ t86 : Int, w_4.cell? (t85p.add (Int.toNat j * 1)) = some (.int .i64 t86) ∧ law4_CheckSpoilt.J2 R pA pn pc i badA badn badc codesA codesn codesc j ((t751 : Int) != t86) w_4))

def law4_CheckSpoilt.J3 (R : Value → World → Prop) (t6 : Bool) (w : World) : Prop :=
  R (.bool t6) w

@[reducible] def law4_CheckSpoilt.B0 (R : Value → World → Prop) (pA : Option Addr) (pn : Nat) (pc : Nat) (i : Int) (badA : Option Addr) (badn : Nat) (badc : Nat) (codesA : Option Addr) (codesn : Nat) (codesc : Nat) (j : Int) (w : World) : Prop :=
  ifP (decide ((j : Int) < ((badn : Nat) : Int)))
    (ifP ((j : Int) == 5) (law4_CheckSpoilt.J0 R pA pn pc i badA badn badc codesA codesn codesc j (decide ((((pn : Nat) : Int) : Int) > 200)) w) (law4_CheckSpoilt.J0 R pA pn pc i badA badn badc codesA codesn codesc j false w))
    (Run Try.prog 16 #[(.slice pA pn pc)] w fun v w_2 => ∃ (t90A : Option Addr) (t90n t90c : Nat), v = (.slice t90A t90n t90c) ∧ 0 ≤ (IntKind.i64.wrap (((t90n : Nat) : Int) - 1) : Int) ∧ (IntKind.i64.wrap (((t90n : Nat) : Int) - 1) : Int) < ((t90n : Nat) : Int) ∧ ∃ t96p : Addr, t90A = some t96p ∧ storeRow (t96p.add (Int.toNat (IntKind.i64.wrap (((t90n : Nat) : Int) - 1)) * 4)) 0 [(.int .u16 132), (.int .u8 0), (.int .u8 0), (.int .u32 0)] w_2 fun w_3 => Run Try.prog 11 #[(.slice t90A t90n t90c)] w_3 fun v_2 w_4 => ∃ t990 : Int, ∃ t991 : Int, v_2 = (.tuple #[(.int .i64 t990), (.int .i64 t991)]) ∧ ifP ((t990 : Int) == (IntKind.i64.wrap (((pn : Nat) : Int) - 1))) (ifP ((t991 : Int) == 47) (Run Try.prog 13 #[] w_4 fun v_3 w_5 => ∃ t112 : Bool, v_3 = (.bool t112) ∧ law4_CheckSpoilt.J3 R t112 w_5) (law4_CheckSpoilt.J3 R false w_4)) (law4_CheckSpoilt.J3 R false w_4))

@[reducible] def law4_CheckSpoilt.vc (R : Value → World → Prop) (pA : Option Addr) (pn : Nat) (pc : Nat) (at_ : Int) (k : Int) (w : World) : Prop :=
  Run Try.prog 16 #[(.slice pA pn pc)] w fun v w_2 => ∃ (t21A : Option Addr) (t21n t21c : Nat), v = (.slice t21A t21n t21c) ∧ Run Try.prog 11 #[(.slice t21A t21n t21c)] w_2 fun v_2 w_3 => ∃ t220 : Int, ∃ t221 : Int, v_2 = (.tuple #[(.int .i64 t220), (.int .i64 t221)]) ∧ ifP ((t221 : Int) != 0)
    (Run Try.prog 13 #[] w_3 fun v_3 w_4 => ∃ t27 : Bool, v_3 = (.bool t27) ∧ R (.bool t27) w_4)
    (Run Try.prog 22 #[(.int .i64 at_)] w_3 fun v_4 w_5 => ∃ t29 : Int, v_4 = (.int .i64 t29) ∧ ((pn : Nat) : Int) ≠ 0 ∧ letW (w_5.alloc (.cells #[(.int .u16 8), (.int .u8 0), (.int .u8 0), (.int .u32 k), (.int .u16 3), (.int .u8 0), (.int .u8 0), (.int .u32 (maxI k 16)), (.int .u16 148), (.int .u8 0), (.int .u8 0), (.int .u32 0), (.int .u16 116), (.int .u8 0), (.int .u8 0), (.int .u32 (maxI k 32)), (.int .u16 5), (.int .u8 0), (.int .u8 0), (.int .u32 (maxI k (IntKind.u32.wrap ((pn : Nat) : Int)))), (.int .u16 77), (.int .u8 0), (.int .u8 255), (.int .u32 0)] 39)) fun w_6 => letW (w_6.alloc (.cells #[(.int .i64 42), (.int .i64 43), (.int .i64 44), (.int .i64 45), (.int .i64 46), (.int .i64 46)] 23)) fun w_7 => law4_CheckSpoilt.L0 R pA pn pc (Int.tmod t29 ((pn : Nat) : Int)) (some (newA w_5)) 6 6 (some (newA w_6)) 6 6 0 w_7)

theorem law4_CheckSpoilt.B0_eq (R : Value → World → Prop) (pA : Option Addr) (pn : Nat) (pc : Nat) (i : Int) (badA : Option Addr) (badn : Nat) (badc : Nat) (codesA : Option Addr) (codesn : Nat) (codesc : Nat) (j : Int) (w : World) (ts : Nat → Value) :
    code Try.prog none law4_CheckSpoilt.live 0 law4_CheckSpoilt.c0 (thenK (fun st w => loopVC (fun K => code Try.prog none law4_CheckSpoilt.live 0 law4_CheckSpoilt.c0 K) (law4_CheckSpoilt.live 0) (law4_CheckSpoilt.K0 R) (clearFrom (law4_CheckSpoilt.live 0) 0 st) w) (law4_CheckSpoilt.K0 R)) (mergeFrom (law4_CheckSpoilt.live 0) ts 0 (clearFrom (law4_CheckSpoilt.live 0) 0 [(.slice pA pn pc), undef, undef, undef, undef, undef, undef, undef, undef, (.int .i64 i), (.slice badA badn badc), (.slice codesA codesn codesc), (.int .i64 j), undef, undef, undef, undef, undef, undef, undef, undef, undef, undef, undef, undef, undef, undef, undef, undef, undef, undef, undef, undef, undef, undef, undef, undef, undef, undef, undef, undef, undef, undef, undef, undef, undef, undef, undef, undef, undef, undef, undef, undef, undef, undef, undef, undef, undef, undef, undef, undef, undef, undef, undef, undef, undef, undef, undef, undef, undef, undef, undef, undef, undef, undef, undef, undef, undef, undef, undef, undef, undef, undef, undef, undef, undef, undef, undef, undef, undef, undef, undef, undef, undef, undef, undef, undef, undef, undef, undef, undef, undef, undef, undef, undef, undef, undef, undef, undef, undef, undef, undef, undef, undef])) w = law4_CheckSpoilt.B0 R pA pn pc i badA badn badc codesA codesn codesc j w := by kernel_rfl
theorem law4_CheckSpoilt.L0_step {R : Value → World → Prop} {pA : Option Addr} {pn : Nat} {pc : Nat} {i : Int} {badA : Option Addr} {badn : Nat} {badc : Nat} {codesA : Option Addr} {codesn : Nat} {codesc : Nat} {j : Int} {w : World} (h : law4_CheckSpoilt.B0 R pA pn pc i badA badn badc codesA codesn codesc j w) : law4_CheckSpoilt.L0 R pA pn pc i badA badn badc codesA codesn codesc j w :=
  loop_step (live := law4_CheckSpoilt.live) (b := 0) (x := law4_CheckSpoilt.c0) fun ts => Eq.mpr (law4_CheckSpoilt.B0_eq R pA pn pc i badA badn badc codesA codesn codesc j w ts) h
theorem law4_CheckSpoilt.eq (R : Value → World → Prop) (pA : Option Addr) (pn : Nat) (pc : Nat) (at_ : Int) (k : Int) (w : World) : fnVC Try.prog none law4_CheckSpoilt.live Try.f7 R [(.slice pA pn pc), (.int .i64 at_), (.int .u32 k)] w = law4_CheckSpoilt.vc R pA pn pc at_ k w := by kernel_rfl
theorem law4_CheckSpoilt.ok {R : Value → World → Prop} {pA : Option Addr} {pn : Nat} {pc : Nat} {at_ : Int} {k : Int} {w : World} (h : law4_CheckSpoilt.vc R pA pn pc at_ k w) : Run Try.prog 7 #[(.slice pA pn pc), (.int .i64 at_), (.int .u32 k)] w R :=
  fn_sound (args := [(.slice pA pn pc), (.int .i64 at_), (.int .u32 k)]) Try.mixed Try.func7 (by kernel_rfl) (Eq.mpr (law4_CheckSpoilt.eq R pA pn pc at_ k w) h)

/-! ### riddle/word.fits: function 41 -/
noncomputable def word_fits.body : Code := bodyOf Try.f41
def word_fits.live : Nat → List Nat
  | _ => []
def word_fits.J0 (R : Value → World → Prop) (t6 : Bool) (w : World) : Prop :=
  R (.bool t6) w

@[reducible] def word_fits.vc (R : Value → World → Prop) (n : Int) (at_ : Int) (size : Int) (w : World) : Prop :=
  ifP ((size : Int) == 1) (ifP (decide ((at_ : Int) ≥ 0)) (word_fits.J0 R (decide ((at_ : Int) ≤ (IntKind.i64.wrap (n - size)))) w) (word_fits.J0 R false w)) (ifP ((size : Int) == 2) (ifP (decide ((at_ : Int) ≥ 0)) (word_fits.J0 R (decide ((at_ : Int) ≤ (IntKind.i64.wrap (n - size)))) w) (word_fits.J0 R false w)) (ifP ((size : Int) == 4) (ifP (decide ((at_ : Int) ≥ 0)) (word_fits.J0 R (decide ((at_ : Int) ≤ (IntKind.i64.wrap (n - size)))) w) (word_fits.J0 R false w)) (word_fits.J0 R false w)))

theorem word_fits.eq (R : Value → World → Prop) (n : Int) (at_ : Int) (size : Int) (w : World) : fnVC Try.prog none word_fits.live Try.f41 R [(.int .i64 n), (.int .i64 at_), (.int .i64 size)] w = word_fits.vc R n at_ size w := by kernel_rfl
theorem word_fits.ok {R : Value → World → Prop} {n : Int} {at_ : Int} {size : Int} {w : World} (h : word_fits.vc R n at_ size w) : Run Try.prog 41 #[(.int .i64 n), (.int .i64 at_), (.int .i64 size)] w R :=
  fn_sound (args := [(.int .i64 n), (.int .i64 at_), (.int .i64 size)]) Try.mixed Try.func41 (by kernel_rfl) (Eq.mpr (word_fits.eq R n at_ size w) h)

/-! ### riddle/word.Get: function 31 -/
noncomputable def word_Get.body : Code := bodyOf Try.f31
def word_Get.live : Nat → List Nat
  | 0 => [8, 22, 23, 24]
  | _ => []
noncomputable def word_Get.c0 : Code := sub word_Get.body [1, 1, 1, 0, 1, 0, 0]
def word_Get.K0 (R : Value → World → Prop) : Ex → St → World → Prop := (blockK 0 (thenK (fun st w => code Try.prog none word_Get.live 0 (sub word_Get.body [1, 1, 1, 1]) (retK Try.prog Try.f31 R) st w) (retK Try.prog Try.f31 R)))
def word_Get.L0 (R : Value → World → Prop) (v : Int) (t22A : Option Addr) (t22n : Nat) (t22c : Nat) (t23 : Int) (t24 : Int) (w : World) : Prop :=
  loopVC (fun K => code Try.prog none word_Get.live 0 word_Get.c0 K) (word_Get.live 0) (word_Get.K0 R) [undef, undef, undef, undef, undef, undef, undef, undef, (.int .u32 v), undef, undef, undef, undef, undef, undef, undef, undef, undef, undef, undef, undef, undef, (.slice t22A t22n t22c), (.int .i64 t23), (.int .i64 t24), undef, undef, undef, undef, undef, undef, undef, undef, undef, undef] w
@[reducible] def word_Get.B0 (R : Value → World → Prop) (v : Int) (t22A : Option Addr) (t22n : Nat) (t22c : Nat) (t23 : Int) (t24 : Int) (w : World) : Prop :=
  ifP (decide ((t24 : Int) < t23))
    (0 ≤ (t24 : Int) ∧ (t24 : Int) < ((t22n : Nat) : Int) ∧ ∃ t26p : Addr, t22A = some t26p ∧ ∃ t27 : Int, w.cell? (t26p.add (Int.toNat t24 * 1)) = some (.int .u8 t27) ∧ word_Get.L0 R (orI .u32 (IntKind.u32.wrap (v * 2 ^ 8)) (IntKind.u32.wrap t27)) t22A t22n t22c t23 (IntKind.i64.wrap (t24 + 1)) w)
    (R (.tuple #[(.int .u32 v), (.bool true)]) w)

@[reducible] def word_Get.vc (R : Value → World → Prop) (bA : Option Addr) (bn : Nat) (bc : Nat) (at_ : Int) (size : Int) (w : World) : Prop :=
  Run Try.prog 41 #[(.int .i64 ((bn : Nat) : Int)), (.int .i64 at_), (.int .i64 size)] w fun v w_2 => ∃ t15 : Bool, v = (.bool t15) ∧ ifP (!t15)
    (R (.tuple #[(.int .u32 0), (.bool false)]) w_2)
    ((0 : Int) ≤ at_ ∧ (at_ : Int) ≤ IntKind.i64.wrap (at_ + size) ∧ (IntKind.i64.wrap (at_ + size) : Int) ≤ ((bc : Nat) : Int) ∧ word_Get.L0 R 0 (subA bA bc (Int.toNat at_) 1) ((Int.toNat (IntKind.i64.wrap (at_ + size))) - (Int.toNat at_)) (bc - (Int.toNat at_)) (((Int.toNat (IntKind.i64.wrap (at_ + size))) - (Int.toNat at_) : Nat) : Int) 0 w_2)

theorem word_Get.B0_eq (R : Value → World → Prop) (v : Int) (t22A : Option Addr) (t22n : Nat) (t22c : Nat) (t23 : Int) (t24 : Int) (w : World) (ts : Nat → Value) :
    code Try.prog none word_Get.live 0 word_Get.c0 (thenK (fun st w => loopVC (fun K => code Try.prog none word_Get.live 0 word_Get.c0 K) (word_Get.live 0) (word_Get.K0 R) (clearFrom (word_Get.live 0) 0 st) w) (word_Get.K0 R)) (mergeFrom (word_Get.live 0) ts 0 (clearFrom (word_Get.live 0) 0 [undef, undef, undef, undef, undef, undef, undef, undef, (.int .u32 v), undef, undef, undef, undef, undef, undef, undef, undef, undef, undef, undef, undef, undef, (.slice t22A t22n t22c), (.int .i64 t23), (.int .i64 t24), undef, undef, undef, undef, undef, undef, undef, undef, undef, undef])) w = word_Get.B0 R v t22A t22n t22c t23 t24 w := by kernel_rfl
theorem word_Get.L0_step {R : Value → World → Prop} {v : Int} {t22A : Option Addr} {t22n : Nat} {t22c : Nat} {t23 : Int} {t24 : Int} {w : World} (h : word_Get.B0 R v t22A t22n t22c t23 t24 w) : word_Get.L0 R v t22A t22n t22c t23 t24 w :=
  loop_step (live := word_Get.live) (b := 0) (x := word_Get.c0) fun ts => Eq.mpr (word_Get.B0_eq R v t22A t22n t22c t23 t24 w ts) h
theorem word_Get.eq (R : Value → World → Prop) (bA : Option Addr) (bn : Nat) (bc : Nat) (at_ : Int) (size : Int) (w : World) : fnVC Try.prog none word_Get.live Try.f31 R [(.slice bA bn bc), (.int .i64 at_), (.int .i64 size)] w = word_Get.vc R bA bn bc at_ size w := by kernel_rfl
theorem word_Get.ok {R : Value → World → Prop} {bA : Option Addr} {bn : Nat} {bc : Nat} {at_ : Int} {size : Int} {w : World} (h : word_Get.vc R bA bn bc at_ size w) : Run Try.prog 31 #[(.slice bA bn bc), (.int .i64 at_), (.int .i64 size)] w R :=
  fn_sound (args := [(.slice bA bn bc), (.int .i64 at_), (.int .i64 size)]) Try.mixed Try.func31 (by kernel_rfl) (Eq.mpr (word_Get.eq R bA bn bc at_ size w) h)

/-! ### riddle/insn.Decode: function 23 -/
noncomputable def insn_Decode.body : Code := bodyOf Try.f23
def insn_Decode.live : Nat → List Nat
  | 0 => [0, 4, 5]
  | _ => []
noncomputable def insn_Decode.c0 : Code := sub insn_Decode.body [1, 1, 1, 1, 0, 1, 0, 0]
def insn_Decode.K0 (R : Value → World → Prop) : Ex → St → World → Prop := (blockK 0 (thenK (fun st w => code Try.prog none insn_Decode.live 0 (sub insn_Decode.body [1, 1, 1, 1, 1]) (retK Try.prog Try.f23 R) st w) (retK Try.prog Try.f23 R)))
def insn_Decode.L0 (R : Value → World → Prop) (bA : Option Addr) (bn : Nat) (bc : Nat) (outA : Option Addr) (outn : Nat) (outc : Nat) (at_ : Int) (w : World) : Prop :=
  loopVC (fun K => code Try.prog none insn_Decode.live 0 insn_Decode.c0 K) (insn_Decode.live 0) (insn_Decode.K0 R) [(.slice bA bn bc), undef, undef, undef, (.slice outA outn outc), (.int .i64 at_), undef, undef, undef, undef, undef, undef, undef, undef, undef, undef, undef, undef, undef, undef, undef, undef, undef, undef, undef, undef, undef, undef, undef, undef, undef, undef, undef, undef, undef, undef, undef, undef, undef, undef, undef, undef, undef, undef, undef, undef, undef, undef, undef, undef, undef, undef, undef, undef] w
def insn_Decode.J0 (R : Value → World → Prop) (bA : Option Addr) (bn : Nat) (bc : Nat) (outA : Option Addr) (outn : Nat) (outc : Nat) (at_ : Int) (w : World) : Prop :=
  insn_Decode.L0 R bA bn bc outA outn outc (IntKind.i64.wrap (at_ + 8)) w

@[reducible] def insn_Decode.B0 (R : Value → World → Prop) (bA : Option Addr) (bn : Nat) (bc : Nat) (outA : Option Addr) (outn : Nat) (outc : Nat) (at_ : Int) (w : World) : Prop :=
  ifP (decide ((at_ : Int) < ((bn : Nat) : Int)))
    (Run Try.prog 31 #[(.slice bA bn bc), (.int .i64 at_), (.int .i64 2)] w fun v w_2 => ∃ t260 : Int, ∃ t261 : Bool, v = (.tuple #[(.int .u32 t260), (.bool t261)]) ∧ Run Try.prog 31 #[(.slice bA bn bc), (.int .i64 (IntKind.i64.wrap (at_ + 4))), (.int .i64 4)] w_2 fun v_2 w_3 => ∃ t330 : Int, ∃ t331 : Bool, v_2 = (.tuple #[(.int .u32 t330), (.bool t331)]) ∧ ∃ S_ : World → Prop, S_ w_3.drew ∧ letW w_3.drew fun w_4 => 0 ≤ (IntKind.i64.wrap (at_ + 2) : Int) ∧ (IntKind.i64.wrap (at_ + 2) : Int) < ((bn : Nat) : Int) ∧ ∃ t42p : Addr, bA = some t42p ∧ ∃ t43 : Int, (∀ u : World, S_ u → u.cell? (t42p.add (Int.toNat (IntKind.i64.wrap (at_ + 2)) * 1)) = some (.int .u8 t43)) ∧ 0 ≤ (IntKind.i64.wrap (at_ + 3) : Int) ∧ (IntKind.i64.wrap (at_ + 3) : Int) < ((bn : Nat) : Int) ∧ ∃ t47p : Addr, bA = some t47p ∧ ∃ t48 : Int, (∀ u_2 : World, S_ u_2 → u_2.cell? (t47p.add (Int.toNat (IntKind.i64.wrap (at_ + 3)) * 1)) = some (.int .u8 t48)) ∧ letW (w_4.alloc (.cells #[(.int .u16 (IntKind.u16.wrap t260)), (.int .u8 t43), (.int .u8 t48), (.int .u32 t330)] 39)) fun w_5 => ∃ (v_3 : Value) (w_6 : World), (Builtin.append_ #[22, 22] 22 #[(.slice outA outn outc), (.slice (some (newA w_4)) 1 1)]).run Try.prog w_5 = .ok v_3 w_6 ∧ ∃ (t52A : Option Addr) (t52n t52c : Nat), v_3 = (.slice t52A t52n t52c) ∧ insn_Decode.J0 R bA bn bc t52A t52n t52c at_ w_6)
    (R (.tuple #[(.slice outA outn outc), (.int .i64 0)]) w)

@[reducible] def insn_Decode.vc (R : Value → World → Prop) (bA : Option Addr) (bn : Nat) (bc : Nat) (w : World) : Prop :=
  ifP ((Int.tmod ((bn : Nat) : Int) 8 : Int) != 0)
    (R (.tuple #[(.slice none 0 0), (.int .i64 20)]) w)
    (ifP (decide ((((bn : Nat) : Int) : Int) > 32768))
    (R (.tuple #[(.slice none 0 0), (.int .i64 21)]) w)
    (insn_Decode.L0 R bA bn bc none 0 0 0 w))

theorem insn_Decode.B0_eq (R : Value → World → Prop) (bA : Option Addr) (bn : Nat) (bc : Nat) (outA : Option Addr) (outn : Nat) (outc : Nat) (at_ : Int) (w : World) (ts : Nat → Value) :
    code Try.prog none insn_Decode.live 0 insn_Decode.c0 (thenK (fun st w => loopVC (fun K => code Try.prog none insn_Decode.live 0 insn_Decode.c0 K) (insn_Decode.live 0) (insn_Decode.K0 R) (clearFrom (insn_Decode.live 0) 0 st) w) (insn_Decode.K0 R)) (mergeFrom (insn_Decode.live 0) ts 0 (clearFrom (insn_Decode.live 0) 0 [(.slice bA bn bc), undef, undef, undef, (.slice outA outn outc), (.int .i64 at_), undef, undef, undef, undef, undef, undef, undef, undef, undef, undef, undef, undef, undef, undef, undef, undef, undef, undef, undef, undef, undef, undef, undef, undef, undef, undef, undef, undef, undef, undef, undef, undef, undef, undef, undef, undef, undef, undef, undef, undef, undef, undef, undef, undef, undef, undef, undef, undef])) w = insn_Decode.B0 R bA bn bc outA outn outc at_ w := by kernel_rfl
theorem insn_Decode.L0_step {R : Value → World → Prop} {bA : Option Addr} {bn : Nat} {bc : Nat} {outA : Option Addr} {outn : Nat} {outc : Nat} {at_ : Int} {w : World} (h : insn_Decode.B0 R bA bn bc outA outn outc at_ w) : insn_Decode.L0 R bA bn bc outA outn outc at_ w :=
  loop_step (live := insn_Decode.live) (b := 0) (x := insn_Decode.c0) fun ts => Eq.mpr (insn_Decode.B0_eq R bA bn bc outA outn outc at_ w ts) h
theorem insn_Decode.eq (R : Value → World → Prop) (bA : Option Addr) (bn : Nat) (bc : Nat) (w : World) : fnVC Try.prog none insn_Decode.live Try.f23 R [(.slice bA bn bc)] w = insn_Decode.vc R bA bn bc w := by kernel_rfl
theorem insn_Decode.ok {R : Value → World → Prop} {bA : Option Addr} {bn : Nat} {bc : Nat} {w : World} (h : insn_Decode.vc R bA bn bc w) : Run Try.prog 23 #[(.slice bA bn bc)] w R :=
  fn_sound (args := [(.slice bA bn bc)]) Try.mixed Try.func23 (by kernel_rfl) (Eq.mpr (insn_Decode.eq R bA bn bc w) h)

/-! ### riddle/riddlelaw0.CopyBytes: function 24 -/
noncomputable def law0_CopyBytes.body : Code := bodyOf Try.f24
def law0_CopyBytes.live : Nat → List Nat
  | _ => []
@[reducible] def law0_CopyBytes.vc (R : Value → World → Prop) (aA : Option Addr) (an : Nat) (ac : Nat) (w : World) : Prop :=
  letW (w.alloc (.cells #[] 5)) fun w_2 => ∃ (v : Value) (w_3 : World), (Builtin.append_ #[44, 44] 44 #[(.slice (some (newA w)) 0 0), (.slice aA an ac)]).run Try.prog w_2 = .ok v w_3 ∧ ∃ (t5A : Option Addr) (t5n t5c : Nat), v = (.slice t5A t5n t5c) ∧ R (.slice t5A t5n t5c) w_3

theorem law0_CopyBytes.eq (R : Value → World → Prop) (aA : Option Addr) (an : Nat) (ac : Nat) (w : World) : fnVC Try.prog none law0_CopyBytes.live Try.f24 R [(.slice aA an ac)] w = law0_CopyBytes.vc R aA an ac w := by kernel_rfl
theorem law0_CopyBytes.ok {R : Value → World → Prop} {aA : Option Addr} {an : Nat} {ac : Nat} {w : World} (h : law0_CopyBytes.vc R aA an ac w) : Run Try.prog 24 #[(.slice aA an ac)] w R :=
  fn_sound (args := [(.slice aA an ac)]) Try.mixed Try.func24 (by kernel_rfl) (Eq.mpr (law0_CopyBytes.eq R aA an ac w) h)

/-! ### riddle/riddlelaw4.CheckBytes: function 8 -/
noncomputable def law4_CheckBytes.body : Code := bodyOf Try.f8
def law4_CheckBytes.live : Nat → List Nat
  | _ => []
def law4_CheckBytes.J0 (R : Value → World → Prop) (t2 : Bool) (w : World) : Prop :=
  R (.bool t2) w

@[reducible] def law4_CheckBytes.vc (R : Value → World → Prop) (bA : Option Addr) (bn : Nat) (bc : Nat) (w : World) : Prop :=
  Run Try.prog 24 #[(.slice bA bn bc)] w fun v w_2 => ∃ (t11A : Option Addr) (t11n t11c : Nat), v = (.slice t11A t11n t11c) ∧ Run Try.prog 23 #[(.slice t11A t11n t11c)] w_2 fun v_2 w_3 => ∃ (t120A : Option Addr) (t120n t120c : Nat), ∃ t121 : Int, v_2 = (.tuple #[(.slice t120A t120n t120c), (.int .i64 t121)]) ∧ ifP ((t121 : Int) != 0)
    (Run Try.prog 13 #[] w_3 fun v_3 w_4 => ∃ t17 : Bool, v_3 = (.bool t17) ∧ R (.bool t17) w_4)
    (Run Try.prog 9 #[(.slice t120A t120n t120c)] w_3 fun v_4 w_5 => ∃ t200 : Int, ∃ t201 : Int, v_4 = (.tuple #[(.int .i64 t200), (.int .i64 t201)]) ∧ Run Try.prog 11 #[(.slice t120A t120n t120c)] w_5 fun v_5 w_6 => ∃ t250 : Int, ∃ t251 : Int, v_5 = (.tuple #[(.int .i64 t250), (.int .i64 t251)]) ∧ ifP ((t250 : Int) == t200) (ifP ((t251 : Int) == t201) (Run Try.prog 13 #[] w_6 fun v_6 w_7 => ∃ t37 : Bool, v_6 = (.bool t37) ∧ law4_CheckBytes.J0 R t37 w_7) (law4_CheckBytes.J0 R false w_6)) (law4_CheckBytes.J0 R false w_6))

theorem law4_CheckBytes.eq (R : Value → World → Prop) (bA : Option Addr) (bn : Nat) (bc : Nat) (w : World) : fnVC Try.prog none law4_CheckBytes.live Try.f8 R [(.slice bA bn bc)] w = law4_CheckBytes.vc R bA bn bc w := by kernel_rfl
theorem law4_CheckBytes.ok {R : Value → World → Prop} {bA : Option Addr} {bn : Nat} {bc : Nat} {w : World} (h : law4_CheckBytes.vc R bA bn bc w) : Run Try.prog 8 #[(.slice bA bn bc)] w R :=
  fn_sound (args := [(.slice bA bn bc)]) Try.mixed Try.func8 (by kernel_rfl) (Eq.mpr (law4_CheckBytes.eq R bA bn bc w) h)

end
end Go.Proofs.Ytkkfdpmjockelaa
