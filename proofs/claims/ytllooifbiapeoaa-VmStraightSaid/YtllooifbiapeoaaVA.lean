/- Printed by a program of this repo (wip/tools/gen.py) out of Lean's own print of the functions: each function's weakest precondition, and the equation that it is one. -/
import Derived.Test.YtllooifbiapeoaaProg
import Derived.Test.YtllooifbiapeoaaS4
import Derived.KernelRfl
namespace Go.Proofs.Ytllooifbiapeoaa
open Go.Rd
set_option linter.unusedVariables false
set_option maxRecDepth 100000
section
theorem Try.mixed : Try.prog.follows .mixedOrders = true := by kernel_rfl

/-! ### riddle/riddleref2.Jump: function 29 -/
noncomputable def ref2_Jump.body : Code := bodyOf Try.f29
def ref2_Jump.live : Nat → List Nat
  | _ => []
def ref2_Jump.J0 (R : Value → World → Prop) (t4 : Bool) (w : World) : Prop :=
  ifP t4
    (R (.bool true) w)
    (R (.bool false) w)

@[reducible] def ref2_Jump.vc (R : Value → World → Prop) (code_ : Int) (w : World) : Prop :=
  ifP ((code_ : Int) == 21)
    (ref2_Jump.J0 R ((code_ : Int) == 21) w)
    (ifP ((code_ : Int) == 29)
    (ref2_Jump.J0 R ((code_ : Int) == 29) w)
    (ifP ((code_ : Int) == 37)
    (ref2_Jump.J0 R ((code_ : Int) == 37) w)
    (ifP ((code_ : Int) == 45)
    (ref2_Jump.J0 R ((code_ : Int) == 45) w)
    (ifP ((code_ : Int) == 53)
    (ref2_Jump.J0 R ((code_ : Int) == 53) w)
    (ifP ((code_ : Int) == 61)
    (ref2_Jump.J0 R ((code_ : Int) == 61) w)
    (ifP ((code_ : Int) == 69)
    (ref2_Jump.J0 R ((code_ : Int) == 69) w)
    (ref2_Jump.J0 R ((code_ : Int) == 77) w)))))))

theorem ref2_Jump.eq (R : Value → World → Prop) (code_ : Int) (w : World) : fnVC Try.prog none ref2_Jump.live Try.f29 R [(.int .u16 code_)] w = ref2_Jump.vc R code_ w := by kernel_rfl
set_option maxHeartbeats 4000000 in
theorem ref2_Jump.ok {R : Value → World → Prop} {code_ : Int} {w : World} (h : ref2_Jump.vc R code_ w) : Run Try.prog 29 #[(.int .u16 code_)] w R := by
  have h2 := Eq.mpr (ref2_Jump.eq R code_ w) h
  exact fn_sound Try.mixed Try.func29 (by kernel_rfl) h2

/-! ### riddle/riddleref2.Return: function 43 -/
noncomputable def ref2_Return.body : Code := bodyOf Try.f43
def ref2_Return.live : Nat → List Nat
  | _ => []
def ref2_Return.J0 (R : Value → World → Prop) (t2 : Bool) (w : World) : Prop :=
  R (.bool t2) w

@[reducible] def ref2_Return.vc (R : Value → World → Prop) (code_ : Int) (w : World) : Prop :=
  ifP ((code_ : Int) == 6) (ref2_Return.J0 R true w) (ref2_Return.J0 R ((code_ : Int) == 22) w)

theorem ref2_Return.eq (R : Value → World → Prop) (code_ : Int) (w : World) : fnVC Try.prog none ref2_Return.live Try.f43 R [(.int .u16 code_)] w = ref2_Return.vc R code_ w := by kernel_rfl
set_option maxHeartbeats 4000000 in
theorem ref2_Return.ok {R : Value → World → Prop} {code_ : Int} {w : World} (h : ref2_Return.vc R code_ w) : Run Try.prog 43 #[(.int .u16 code_)] w R := by
  have h2 := Eq.mpr (ref2_Return.eq R code_ w) h
  exact fn_sound Try.mixed Try.func43 (by kernel_rfl) h2

/-! ### riddle/riddleref2.Operation: function 59 -/
noncomputable def ref2_Operation.body : Code := bodyOf Try.f59
def ref2_Operation.live : Nat → List Nat
  | _ => []
def ref2_Operation.J1 (R : Value → World → Prop) (t17 : Bool) (w : World) : Prop :=
  ifP t17
    (R (.bool true) w)
    (R (.bool false) w)

def ref2_Operation.J0 (R : Value → World → Prop) (t3 : Int) (t4 : Bool) (w : World) : Prop :=
  ifP t4
    (R (.bool true) w)
    (ifP ((t3 : Int) == 100)
    (ref2_Operation.J1 R ((t3 : Int) == 100) w)
    (ifP ((t3 : Int) == 108)
    (ref2_Operation.J1 R ((t3 : Int) == 108) w)
    (ifP ((t3 : Int) == 116)
    (ref2_Operation.J1 R ((t3 : Int) == 116) w)
    (ifP ((t3 : Int) == 124)
    (ref2_Operation.J1 R ((t3 : Int) == 124) w)
    (ifP ((t3 : Int) == 148)
    (ref2_Operation.J1 R ((t3 : Int) == 148) w)
    (ifP ((t3 : Int) == 156)
    (ref2_Operation.J1 R ((t3 : Int) == 156) w)
    (ifP ((t3 : Int) == 164)
    (ref2_Operation.J1 R ((t3 : Int) == 164) w)
    (ref2_Operation.J1 R ((t3 : Int) == 172) w))))))))

@[reducible] def ref2_Operation.vc (R : Value → World → Prop) (code_ : Int) (w : World) : Prop :=
  ifP ((code_ : Int) == 4)
    (ref2_Operation.J0 R code_ ((code_ : Int) == 4) w)
    (ifP ((code_ : Int) == 12)
    (ref2_Operation.J0 R code_ ((code_ : Int) == 12) w)
    (ifP ((code_ : Int) == 20)
    (ref2_Operation.J0 R code_ ((code_ : Int) == 20) w)
    (ifP ((code_ : Int) == 28)
    (ref2_Operation.J0 R code_ ((code_ : Int) == 28) w)
    (ifP ((code_ : Int) == 36)
    (ref2_Operation.J0 R code_ ((code_ : Int) == 36) w)
    (ifP ((code_ : Int) == 44)
    (ref2_Operation.J0 R code_ ((code_ : Int) == 44) w)
    (ifP ((code_ : Int) == 52)
    (ref2_Operation.J0 R code_ ((code_ : Int) == 52) w)
    (ifP ((code_ : Int) == 60)
    (ref2_Operation.J0 R code_ ((code_ : Int) == 60) w)
    (ifP ((code_ : Int) == 68)
    (ref2_Operation.J0 R code_ ((code_ : Int) == 68) w)
    (ifP ((code_ : Int) == 76)
    (ref2_Operation.J0 R code_ ((code_ : Int) == 76) w)
    (ifP ((code_ : Int) == 84)
    (ref2_Operation.J0 R code_ ((code_ : Int) == 84) w)
    (ref2_Operation.J0 R code_ ((code_ : Int) == 92) w)))))))))))

theorem ref2_Operation.eq (R : Value → World → Prop) (code_ : Int) (w : World) : fnVC Try.prog none ref2_Operation.live Try.f59 R [(.int .u16 code_)] w = ref2_Operation.vc R code_ w := by kernel_rfl
set_option maxHeartbeats 4000000 in
theorem ref2_Operation.ok {R : Value → World → Prop} {code_ : Int} {w : World} (h : ref2_Operation.vc R code_ w) : Run Try.prog 59 #[(.int .u16 code_)] w R := by
  have h2 := Eq.mpr (ref2_Operation.eq R code_ w) h
  exact fn_sound Try.mixed Try.func59 (by kernel_rfl) h2

/-! ### riddle/riddleref2.Known: function 84 -/
noncomputable def ref2_Known.body : Code := bodyOf Try.f84
def ref2_Known.live : Nat → List Nat
  | _ => []
def ref2_Known.J2 (R : Value → World → Prop) (t2 : Bool) (w : World) : Prop :=
  R (.bool t2) w

def ref2_Known.J1 (R : Value → World → Prop) (code_ : Int) (t14 : Bool) (w : World) : Prop :=
  ifP t14
    (R (.bool true) w)
    (Run Try.prog 29 #[(.int .u16 code_)] w fun v w_2 => ∃ t28 : Bool, v = (.bool t28) ∧ ifP t28 (ref2_Known.J2 R true w_2) (Run Try.prog 59 #[(.int .u16 code_)] w_2 fun v_2 w_3 => ∃ t31 : Bool, v_2 = (.bool t31) ∧ ref2_Known.J2 R t31 w_3))

def ref2_Known.J0 (R : Value → World → Prop) (code_ : Int) (t3 : Int) (t4 : Bool) (w : World) : Prop :=
  ifP t4
    (R (.bool true) w)
    (ifP ((t3 : Int) == 1)
    (ref2_Known.J1 R code_ ((t3 : Int) == 1) w)
    (ifP ((t3 : Int) == 97)
    (ref2_Known.J1 R code_ ((t3 : Int) == 97) w)
    (ifP ((t3 : Int) == 129)
    (ref2_Known.J1 R code_ ((t3 : Int) == 129) w)
    (ifP ((t3 : Int) == 177)
    (ref2_Known.J1 R code_ ((t3 : Int) == 177) w)
    (ifP ((t3 : Int) == 2)
    (ref2_Known.J1 R code_ ((t3 : Int) == 2) w)
    (ifP ((t3 : Int) == 3)
    (ref2_Known.J1 R code_ ((t3 : Int) == 3) w)
    (ifP ((t3 : Int) == 132)
    (ref2_Known.J1 R code_ ((t3 : Int) == 132) w)
    (ifP ((t3 : Int) == 6)
    (ref2_Known.J1 R code_ ((t3 : Int) == 6) w)
    (ifP ((t3 : Int) == 22)
    (ref2_Known.J1 R code_ ((t3 : Int) == 22) w)
    (ifP ((t3 : Int) == 7)
    (ref2_Known.J1 R code_ ((t3 : Int) == 7) w)
    (ifP ((t3 : Int) == 135)
    (ref2_Known.J1 R code_ ((t3 : Int) == 135) w)
    (ref2_Known.J1 R code_ ((t3 : Int) == 5) w))))))))))))

@[reducible] def ref2_Known.vc (R : Value → World → Prop) (code_ : Int) (w : World) : Prop :=
  ifP ((code_ : Int) == 0)
    (ref2_Known.J0 R code_ code_ ((code_ : Int) == 0) w)
    (ifP ((code_ : Int) == 32)
    (ref2_Known.J0 R code_ code_ ((code_ : Int) == 32) w)
    (ifP ((code_ : Int) == 40)
    (ref2_Known.J0 R code_ code_ ((code_ : Int) == 40) w)
    (ifP ((code_ : Int) == 48)
    (ref2_Known.J0 R code_ code_ ((code_ : Int) == 48) w)
    (ifP ((code_ : Int) == 64)
    (ref2_Known.J0 R code_ code_ ((code_ : Int) == 64) w)
    (ifP ((code_ : Int) == 72)
    (ref2_Known.J0 R code_ code_ ((code_ : Int) == 72) w)
    (ifP ((code_ : Int) == 80)
    (ref2_Known.J0 R code_ code_ ((code_ : Int) == 80) w)
    (ifP ((code_ : Int) == 96)
    (ref2_Known.J0 R code_ code_ ((code_ : Int) == 96) w)
    (ref2_Known.J0 R code_ code_ ((code_ : Int) == 128) w))))))))

theorem ref2_Known.eq (R : Value → World → Prop) (code_ : Int) (w : World) : fnVC Try.prog none ref2_Known.live Try.f84 R [(.int .u16 code_)] w = ref2_Known.vc R code_ w := by kernel_rfl
set_option maxHeartbeats 4000000 in
theorem ref2_Known.ok {R : Value → World → Prop} {code_ : Int} {w : World} (h : ref2_Known.vc R code_ w) : Run Try.prog 84 #[(.int .u16 code_)] w R := by
  have h2 := Eq.mpr (ref2_Known.eq R code_ w) h
  exact fn_sound Try.mixed Try.func84 (by kernel_rfl) h2

/-! ### riddle/riddleref4.Fault: function 58 -/
noncomputable def ref4_Fault.body : Code := bodyOf Try.f58
def ref4_Fault.live : Nat → List Nat
  | _ => []
def ref4_Fault.J2 (R : Value → World → Prop) (t46 : Bool) (w : World) : Prop :=
  ifP t46
    (R (.int .i64 45) w)
    (R (.int .i64 0) w)

def ref4_Fault.J1 (R : Value → World → Prop) (i : Addr) (t32 : Bool) (w : World) : Prop :=
  ifP t32
    (R (.int .i64 44) w)
    (∃ t48 : Int, w.cell? i = some (.int .u16 t48) ∧ ifP ((t48 : Int) == 100) (∃ t57 : Int, w.cell? (i.add 3) = some (.int .u32 t57) ∧ ref4_Fault.J2 R (decide ((t57 : Int) > 31)) w) (∃ t52 : Int, w.cell? i = some (.int .u16 t52) ∧ ifP ((t52 : Int) == 116) (∃ t57_2 : Int, w.cell? (i.add 3) = some (.int .u32 t57_2) ∧ ref4_Fault.J2 R (decide ((t57_2 : Int) > 31)) w) (ref4_Fault.J2 R false w)))

def ref4_Fault.J0 (R : Value → World → Prop) (i : Addr) (t8 : Bool) (w : World) : Prop :=
  ifP t8
    (R (.int .i64 43) w)
    (∃ t34 : Int, w.cell? i = some (.int .u16 t34) ∧ ifP ((t34 : Int) == 52) (∃ t43 : Int, w.cell? (i.add 3) = some (.int .u32 t43) ∧ ref4_Fault.J1 R i ((t43 : Int) == 0) w) (∃ t38 : Int, w.cell? i = some (.int .u16 t38) ∧ ifP ((t38 : Int) == 148) (∃ t43_2 : Int, w.cell? (i.add 3) = some (.int .u32 t43_2) ∧ ref4_Fault.J1 R i ((t43_2 : Int) == 0) w) (ref4_Fault.J1 R i false w)))

@[reducible] def ref4_Fault.vc (R : Value → World → Prop) (i_0 : Int) (i_1 : Int) (i_2 : Int) (i_3 : Int) (w : World) : Prop :=
  letW (w.alloc (.cells #[(.int .u16 i_0), (.int .u8 i_1), (.int .u8 i_2), (.int .u32 i_3)] 45)) fun w_2 => ∃ t5 : Int, w_2.cell? (newA w) = some (.int .u16 t5) ∧ Run Try.prog 84 #[(.int .u16 t5)] w_2 fun v w_3 => ∃ t6 : Bool, v = (.bool t6) ∧ ifP (!t6)
    (R (.int .i64 42) w_3)
    (∃ t10 : Int, w_3.cell? (newA w) = some (.int .u16 t10) ∧ ifP ((t10 : Int) == 2) (∃ t29 : Int, w_3.cell? ((newA w).add 3) = some (.int .u32 t29) ∧ ref4_Fault.J0 R (newA w) (decide ((t29 : Int) ≥ 16)) w_3) (∃ t14 : Int, w_3.cell? (newA w) = some (.int .u16 t14) ∧ ifP ((t14 : Int) == 3) (∃ t29_2 : Int, w_3.cell? ((newA w).add 3) = some (.int .u32 t29_2) ∧ ref4_Fault.J0 R (newA w) (decide ((t29_2 : Int) ≥ 16)) w_3) (∃ t19 : Int, w_3.cell? (newA w) = some (.int .u16 t19) ∧ ifP ((t19 : Int) == 96) (∃ t29_3 : Int, w_3.cell? ((newA w).add 3) = some (.int .u32 t29_3) ∧ ref4_Fault.J0 R (newA w) (decide ((t29_3 : Int) ≥ 16)) w_3) (∃ t24 : Int, w_3.cell? (newA w) = some (.int .u16 t24) ∧ ifP ((t24 : Int) == 97) (∃ t29_4 : Int, w_3.cell? ((newA w).add 3) = some (.int .u32 t29_4) ∧ ref4_Fault.J0 R (newA w) (decide ((t29_4 : Int) ≥ 16)) w_3) (ref4_Fault.J0 R (newA w) false w_3)))))

theorem ref4_Fault.eq (R : Value → World → Prop) (i_0 : Int) (i_1 : Int) (i_2 : Int) (i_3 : Int) (w : World) : fnVC Try.prog none ref4_Fault.live Try.f58 R [(.agg #[(.int .u16 i_0), (.int .u8 i_1), (.int .u8 i_2), (.int .u32 i_3)])] w = ref4_Fault.vc R i_0 i_1 i_2 i_3 w := by kernel_rfl
set_option maxHeartbeats 4000000 in
theorem ref4_Fault.ok {R : Value → World → Prop} {i_0 : Int} {i_1 : Int} {i_2 : Int} {i_3 : Int} {w : World} (h : ref4_Fault.vc R i_0 i_1 i_2 i_3 w) : Run Try.prog 58 #[(.agg #[(.int .u16 i_0), (.int .u8 i_1), (.int .u8 i_2), (.int .u32 i_3)])] w R := by
  have h2 := Eq.mpr (ref4_Fault.eq R i_0 i_1 i_2 i_3 w) h
  exact fn_sound Try.mixed Try.func58 (by kernel_rfl) h2

/-! ### riddle/riddleref4.Check: function 44 -/
noncomputable def ref4_Check.body : Code := bodyOf Try.f44
def ref4_Check.live : Nat → List Nat
  | 0 => [0, 4, 5]
  | _ => []
noncomputable def ref4_Check.c0 : Code := sub ref4_Check.body [1, 1, 1, 1, 0, 1, 0, 0]
def ref4_Check.K0 (R : Value → World → Prop) : Ex → St → World → Prop := (blockK 0 (thenK (fun st w => code Try.prog none ref4_Check.live 0 (sub ref4_Check.body [1, 1, 1, 1, 1]) (retK Try.prog Try.f44 R) st w) (retK Try.prog Try.f44 R)))
def ref4_Check.L0 (R : Value → World → Prop) (pA : Option Addr) (pn : Nat) (pc : Nat) (n : Int) (i : Int) (w : World) : Prop :=
  loopVC (fun K => code Try.prog none ref4_Check.live 0 ref4_Check.c0 K) (ref4_Check.live 0) (ref4_Check.K0 R) [(.slice pA pn pc), undef, undef, undef, (.int .i64 n), (.int .i64 i), undef, undef, undef, undef, undef, undef, undef, undef, undef, undef, undef, undef, undef, undef, undef, undef, undef, undef, undef, undef, undef, undef, undef, undef, undef, undef, undef, undef, undef, undef, undef, undef, undef, undef, undef, undef, undef, undef, undef, undef, undef, undef, undef, undef, undef, undef, undef, undef, undef, undef, undef, undef, undef, undef, undef, undef, undef, undef, undef, undef, undef, undef, undef, undef, undef, undef, undef, undef, undef, undef, undef, undef, undef, undef, undef, undef, undef, undef, undef, undef, undef] w
def ref4_Check.J0 (R : Value → World → Prop) (pA : Option Addr) (pn : Nat) (pc : Nat) (n : Int) (i : Int) (t75 : Bool) (w : World) : Prop :=
  ifP t75
    (R (.tuple #[(.int .i64 i), (.int .i64 46)]) w)
    (ref4_Check.L0 R pA pn pc n (IntKind.i64.wrap (i + 1)) w)

@[reducible] def ref4_Check.B0 (R : Value → World → Prop) (pA : Option Addr) (pn : Nat) (pc : Nat) (n : Int) (i : Int) (w : World) : Prop :=
  ifP (decide ((i : Int) < n))
    (0 ≤ (i : Int) ∧ (i : Int) < ((pn : Nat) : Int) ∧ ∃ t21p : Addr, pA = some t21p ∧ ∃ t22_0 : Int, w.cell? (t21p.add (Int.toNat i * 4)) = some (.int .u16 t22_0) ∧ ∃ t22_1 : Int, w.cell? ((t21p.add (Int.toNat i * 4)).add 1) = some (.int .u8 t22_1) ∧ ∃ t22_2 : Int, w.cell? ((t21p.add (Int.toNat i * 4)).add 2) = some (.int .u8 t22_2) ∧ ∃ t22_3 : Int, w.cell? ((t21p.add (Int.toNat i * 4)).add 3) = some (.int .u32 t22_3) ∧ Run Try.prog 58 #[(.agg #[(.int .u16 t22_0), (.int .u8 t22_1), (.int .u8 t22_2), (.int .u32 t22_3)])] w fun v w_2 => ∃ t23 : Int, v = (.int .i64 t23) ∧ ifP ((t23 : Int) != 0)
    (R (.tuple #[(.int .i64 i), (.int .i64 t23)]) w_2)
    (0 ≤ (i : Int) ∧ (i : Int) < ((pn : Nat) : Int) ∧ ∃ t34p : Addr, pA = some t34p ∧ ∃ t36 : Int, w_2.cell? (t34p.add (Int.toNat i * 4)) = some (.int .u16 t36) ∧ ifP ((t36 : Int) == 5) (0 ≤ (i : Int) ∧ (i : Int) < ((pn : Nat) : Int) ∧ ∃ t41p : Addr, pA = some t41p ∧ ∃ t43 : Int, w_2.cell? ((t41p.add (Int.toNat i * 4)).add 3) = some (.int .u32 t43) ∧ ifP (decide ((t43 : Int) ≥ (IntKind.u32.wrap (IntKind.i64.wrap ((IntKind.i64.wrap (n - 1)) - i))))) (ref4_Check.J0 R pA pn pc n i true w_2) (0 ≤ (i : Int) ∧ (i : Int) < ((pn : Nat) : Int) ∧ ∃ t51p : Addr, pA = some t51p ∧ ∃ t53 : Int, w_2.cell? (t51p.add (Int.toNat i * 4)) = some (.int .u16 t53) ∧ Run Try.prog 29 #[(.int .u16 t53)] w_2 fun v_2 w_3 => ∃ t54 : Bool, v_2 = (.bool t54) ∧ ifP t54 (0 ≤ (i : Int) ∧ (i : Int) < ((pn : Nat) : Int) ∧ ∃ t58p : Addr, pA = some t58p ∧ ∃ t60 : Int, w_3.cell? ((t58p.add (Int.toNat i * 4)).add 1) = some (.int .u8 t60) ∧ ifP (decide ((IntKind.i64.wrap t60 : Int) ≥ (IntKind.i64.wrap ((IntKind.i64.wrap (n - 1)) - i)))) (ref4_Check.J0 R pA pn pc n i true w_3) (0 ≤ (i : Int) ∧ (i : Int) < ((pn : Nat) : Int) ∧ ∃ t67p : Addr, pA = some t67p ∧ ∃ t69 : Int, w_3.cell? ((t67p.add (Int.toNat i * 4)).add 2) = some (.int .u8 t69) ∧ ref4_Check.J0 R pA pn pc n i (decide ((IntKind.i64.wrap t69 : Int) ≥ (IntKind.i64.wrap ((IntKind.i64.wrap (n - 1)) - i)))) w_3)) (ref4_Check.J0 R pA pn pc n i false w_3))) (0 ≤ (i : Int) ∧ (i : Int) < ((pn : Nat) : Int) ∧ ∃ t51p_2 : Addr, pA = some t51p_2 ∧ ∃ t53_2 : Int, w_2.cell? (t51p_2.add (Int.toNat i * 4)) = some (.int .u16 t53_2) ∧ Run Try.prog 29 #[(.int .u16 t53_2)] w_2 fun v_3 w_4 => ∃ t54_2 : Bool, v_3 = (.bool t54_2) ∧ ifP t54_2 (0 ≤ (i : Int) ∧ (i : Int) < ((pn : Nat) : Int) ∧ ∃ t58p_2 : Addr, pA = some t58p_2 ∧ ∃ t60_2 : Int, w_4.cell? ((t58p_2.add (Int.toNat i * 4)).add 1) = some (.int .u8 t60_2) ∧ ifP (decide ((IntKind.i64.wrap t60_2 : Int) ≥ (IntKind.i64.wrap ((IntKind.i64.wrap (n - 1)) - i)))) (ref4_Check.J0 R pA pn pc n i true w_4) (0 ≤ (i : Int) ∧ (i : Int) < ((pn : Nat) : Int) ∧ ∃ t67p_2 : Addr, pA = some t67p_2 ∧ ∃ t69_2 : Int, w_4.cell? ((t67p_2.add (Int.toNat i * 4)).add 2) = some (.int .u8 t69_2) ∧ ref4_Check.J0 R pA pn pc n i (decide ((IntKind.i64.wrap t69_2 : Int) ≥ (IntKind.i64.wrap ((IntKind.i64.wrap (n - 1)) - i)))) w_4)) (ref4_Check.J0 R pA pn pc n i false w_4))))
    (0 ≤ (IntKind.i64.wrap (n - 1) : Int) ∧ (IntKind.i64.wrap (n - 1) : Int) < ((pn : Nat) : Int) ∧ ∃ t80p : Addr, pA = some t80p ∧ ∃ t82 : Int, w.cell? (t80p.add (Int.toNat (IntKind.i64.wrap (n - 1)) * 4)) = some (.int .u16 t82) ∧ Run Try.prog 43 #[(.int .u16 t82)] w fun v_4 w_5 => ∃ t83 : Bool, v_4 = (.bool t83) ∧ ifP (!t83)
    (R (.tuple #[(.int .i64 (IntKind.i64.wrap (n - 1))), (.int .i64 47)]) w_5)
    (R (.tuple #[(.int .i64 0), (.int .i64 0)]) w_5))

@[reducible] def ref4_Check.vc (R : Value → World → Prop) (pA : Option Addr) (pn : Nat) (pc : Nat) (w : World) : Prop :=
  ifP ((((pn : Nat) : Int) : Int) == 0)
    (R (.tuple #[(.int .i64 0), (.int .i64 40)]) w)
    (ifP (decide ((((pn : Nat) : Int) : Int) > 4096))
    (R (.tuple #[(.int .i64 4096), (.int .i64 41)]) w)
    (ref4_Check.L0 R pA pn pc ((pn : Nat) : Int) 0 w))

theorem ref4_Check.B0_eq (R : Value → World → Prop) (pA : Option Addr) (pn : Nat) (pc : Nat) (n : Int) (i : Int) (w : World) (ts : Nat → Value) :
    code Try.prog none ref4_Check.live 0 ref4_Check.c0 (thenK (fun st w => loopVC (fun K => code Try.prog none ref4_Check.live 0 ref4_Check.c0 K) (ref4_Check.live 0) (ref4_Check.K0 R) (clearFrom (ref4_Check.live 0) 0 st) w) (ref4_Check.K0 R)) (mergeFrom (ref4_Check.live 0) ts 0 (clearFrom (ref4_Check.live 0) 0 [(.slice pA pn pc), undef, undef, undef, (.int .i64 n), (.int .i64 i), undef, undef, undef, undef, undef, undef, undef, undef, undef, undef, undef, undef, undef, undef, undef, undef, undef, undef, undef, undef, undef, undef, undef, undef, undef, undef, undef, undef, undef, undef, undef, undef, undef, undef, undef, undef, undef, undef, undef, undef, undef, undef, undef, undef, undef, undef, undef, undef, undef, undef, undef, undef, undef, undef, undef, undef, undef, undef, undef, undef, undef, undef, undef, undef, undef, undef, undef, undef, undef, undef, undef, undef, undef, undef, undef, undef, undef, undef, undef, undef, undef])) w = ref4_Check.B0 R pA pn pc n i w := by kernel_rfl
theorem ref4_Check.L0_step {R : Value → World → Prop} {pA : Option Addr} {pn : Nat} {pc : Nat} {n : Int} {i : Int} {w : World} (h : ref4_Check.B0 R pA pn pc n i w) : ref4_Check.L0 R pA pn pc n i w :=
  loop_step (live := ref4_Check.live) (b := 0) (x := ref4_Check.c0) fun ts => Eq.mpr (ref4_Check.B0_eq R pA pn pc n i w ts) h
theorem ref4_Check.eq (R : Value → World → Prop) (pA : Option Addr) (pn : Nat) (pc : Nat) (w : World) : fnVC Try.prog none ref4_Check.live Try.f44 R [(.slice pA pn pc)] w = ref4_Check.vc R pA pn pc w := by kernel_rfl
set_option maxHeartbeats 4000000 in
theorem ref4_Check.ok {R : Value → World → Prop} {pA : Option Addr} {pn : Nat} {pc : Nat} {w : World} (h : ref4_Check.vc R pA pn pc w) : Run Try.prog 44 #[(.slice pA pn pc)] w R := by
  have h2 := Eq.mpr (ref4_Check.eq R pA pn pc w) h
  exact fn_sound Try.mixed Try.func44 (by kernel_rfl) h2

/-! ### riddle/riddleref5.Code: function 28 -/
noncomputable def ref5_Code.body : Code := bodyOf Try.f28
def ref5_Code.live : Nat → List Nat
  | _ => []
@[reducible] def ref5_Code.vc (R : Value → World → Prop) (pA : Option Addr) (pn : Nat) (pc : Nat) (packetA : Option Addr) (packetn : Nat) (packetc : Nat) (w : World) : Prop :=
  Run Try.prog 44 #[(.slice pA pn pc)] w fun v w_2 => ∃ t90 : Int, ∃ t91 : Int, v = (.tuple #[(.int .i64 t90), (.int .i64 t91)]) ∧ ifP ((t91 : Int) != 0)
    (R (.int .i64 50) w_2)
    (ifP (decide ((((packetn : Nat) : Int) : Int) > 65536))
    (R (.int .i64 51) w_2)
    (R (.int .i64 0) w_2))

theorem ref5_Code.eq (R : Value → World → Prop) (pA : Option Addr) (pn : Nat) (pc : Nat) (packetA : Option Addr) (packetn : Nat) (packetc : Nat) (w : World) : fnVC Try.prog none ref5_Code.live Try.f28 R [(.slice pA pn pc), (.slice packetA packetn packetc)] w = ref5_Code.vc R pA pn pc packetA packetn packetc w := by kernel_rfl
set_option maxHeartbeats 4000000 in
theorem ref5_Code.ok {R : Value → World → Prop} {pA : Option Addr} {pn : Nat} {pc : Nat} {packetA : Option Addr} {packetn : Nat} {packetc : Nat} {w : World} (h : ref5_Code.vc R pA pn pc packetA packetn packetc w) : Run Try.prog 28 #[(.slice pA pn pc), (.slice packetA packetn packetc)] w R := by
  have h2 := Eq.mpr (ref5_Code.eq R pA pn pc packetA packetn packetc w) h
  exact fn_sound Try.mixed Try.func28 (by kernel_rfl) h2

/-! ### riddle/riddleref2.ByX: function 45 -/
noncomputable def ref2_ByX.body : Code := bodyOf Try.f45
def ref2_ByX.live : Nat → List Nat
  | _ => []
def ref2_ByX.J0 (R : Value → World → Prop) (t2 : Bool) (w : World) : Prop :=
  R (.bool t2) w

@[reducible] def ref2_ByX.vc (R : Value → World → Prop) (code_ : Int) (w : World) : Prop :=
  Run Try.prog 29 #[(.int .u16 code_)] w fun v w_2 => ∃ t4 : Bool, v = (.bool t4) ∧ ifP t4 (ref2_ByX.J0 R ((andI .u16 code_ 8 : Int) != 0) w_2) (Run Try.prog 59 #[(.int .u16 code_)] w_2 fun v_2 w_3 => ∃ t7 : Bool, v_2 = (.bool t7) ∧ ifP t7 (ref2_ByX.J0 R ((andI .u16 code_ 8 : Int) != 0) w_3) (ref2_ByX.J0 R false w_3))

theorem ref2_ByX.eq (R : Value → World → Prop) (code_ : Int) (w : World) : fnVC Try.prog none ref2_ByX.live Try.f45 R [(.int .u16 code_)] w = ref2_ByX.vc R code_ w := by kernel_rfl
set_option maxHeartbeats 4000000 in
theorem ref2_ByX.ok {R : Value → World → Prop} {code_ : Int} {w : World} (h : ref2_ByX.vc R code_ w) : Run Try.prog 45 #[(.int .u16 code_)] w R := by
  have h2 := Eq.mpr (ref2_ByX.eq R code_ w) h
  exact fn_sound Try.mixed Try.func45 (by kernel_rfl) h2

/-! ### riddle/riddleref5.Holds: function 30 -/
noncomputable def ref5_Holds.body : Code := bodyOf Try.f30
def ref5_Holds.live : Nat → List Nat
  | _ => []
def ref5_Holds.J0 (R : Value → World → Prop) (a : Int) (i : Addr) (b : Int) (w : World) : Prop :=
  ∃ t15 : Int, w.cell? i = some (.int .u16 t15) ∧ ifP ((andNotI .u16 t15 8 : Int) == 21)
    (R (.bool ((a : Int) == b)) w)
    (ifP ((andNotI .u16 t15 8 : Int) == 37)
    (R (.bool (decide ((a : Int) > b))) w)
    (ifP ((andNotI .u16 t15 8 : Int) == 53)
    (R (.bool (decide ((a : Int) ≥ b))) w)
    (R (.bool ((andI .u32 a b : Int) != 0)) w)))

@[reducible] def ref5_Holds.vc (R : Value → World → Prop) (i_0 : Int) (i_1 : Int) (i_2 : Int) (i_3 : Int) (a : Int) (x : Int) (w : World) : Prop :=
  letW (w.alloc (.cells #[(.int .u16 i_0), (.int .u8 i_1), (.int .u8 i_2), (.int .u32 i_3)] 45)) fun w_2 => ∃ t9 : Int, w_2.cell? ((newA w).add 3) = some (.int .u32 t9) ∧ ∃ t11 : Int, w_2.cell? (newA w) = some (.int .u16 t11) ∧ Run Try.prog 45 #[(.int .u16 t11)] w_2 fun v w_3 => ∃ t12 : Bool, v = (.bool t12) ∧ ifP t12
    (ref5_Holds.J0 R a (newA w) x w_3)
    (ref5_Holds.J0 R a (newA w) t9 w_3)

theorem ref5_Holds.eq (R : Value → World → Prop) (i_0 : Int) (i_1 : Int) (i_2 : Int) (i_3 : Int) (a : Int) (x : Int) (w : World) : fnVC Try.prog none ref5_Holds.live Try.f30 R [(.agg #[(.int .u16 i_0), (.int .u8 i_1), (.int .u8 i_2), (.int .u32 i_3)]), (.int .u32 a), (.int .u32 x)] w = ref5_Holds.vc R i_0 i_1 i_2 i_3 a x w := by kernel_rfl
set_option maxHeartbeats 4000000 in
theorem ref5_Holds.ok {R : Value → World → Prop} {i_0 : Int} {i_1 : Int} {i_2 : Int} {i_3 : Int} {a : Int} {x : Int} {w : World} (h : ref5_Holds.vc R i_0 i_1 i_2 i_3 a x w) : Run Try.prog 30 #[(.agg #[(.int .u16 i_0), (.int .u8 i_1), (.int .u8 i_2), (.int .u32 i_3)]), (.int .u32 a), (.int .u32 x)] w R := by
  have h2 := Eq.mpr (ref5_Holds.eq R i_0 i_1 i_2 i_3 a x w) h
  exact fn_sound Try.mixed Try.func30 (by kernel_rfl) h2

/-! ### riddle/riddleref1.In: function 85 -/
noncomputable def ref1_In.body : Code := bodyOf Try.f85
def ref1_In.live : Nat → List Nat
  | _ => []
def ref1_In.J0 (R : Value → World → Prop) (t6 : Bool) (w : World) : Prop :=
  R (.bool t6) w

@[reducible] def ref1_In.vc (R : Value → World → Prop) (many : Int) (at_ : Int) (size : Int) (w : World) : Prop :=
  ifP (decide ((at_ : Int) ≥ 0)) (ifP (decide ((size : Int) ≥ 0)) (ifP (decide ((size : Int) ≤ many)) (ref1_In.J0 R (decide ((at_ : Int) ≤ (IntKind.i64.wrap (many - size)))) w) (ref1_In.J0 R false w)) (ref1_In.J0 R false w)) (ref1_In.J0 R false w)

theorem ref1_In.eq (R : Value → World → Prop) (many : Int) (at_ : Int) (size : Int) (w : World) : fnVC Try.prog none ref1_In.live Try.f85 R [(.int .i64 many), (.int .i64 at_), (.int .i64 size)] w = ref1_In.vc R many at_ size w := by kernel_rfl
set_option maxHeartbeats 4000000 in
theorem ref1_In.ok {R : Value → World → Prop} {many : Int} {at_ : Int} {size : Int} {w : World} (h : ref1_In.vc R many at_ size w) : Run Try.prog 85 #[(.int .i64 many), (.int .i64 at_), (.int .i64 size)] w R := by
  have h2 := Eq.mpr (ref1_In.eq R many at_ size w) h
  exact fn_sound Try.mixed Try.func85 (by kernel_rfl) h2

/-! ### riddle/riddleref1.Get: function 60 -/
noncomputable def ref1_Get.body : Code := bodyOf Try.f60
def ref1_Get.live : Nat → List Nat
  | 0 => [0, 1, 2, 8, 9]
  | _ => []
noncomputable def ref1_Get.c0 : Code := sub ref1_Get.body [1, 1, 1, 0, 1, 0, 0]
def ref1_Get.K0 (R : Value → World → Prop) : Ex → St → World → Prop := (blockK 0 (thenK (fun st w => code Try.prog none ref1_Get.live 0 (sub ref1_Get.body [1, 1, 1, 1]) (retK Try.prog Try.f60 R) st w) (retK Try.prog Try.f60 R)))
def ref1_Get.L0 (R : Value → World → Prop) (bA : Option Addr) (bn : Nat) (bc : Nat) (at_ : Int) (size : Int) (v : Int) (i : Int) (w : World) : Prop :=
  loopVC (fun K => code Try.prog none ref1_Get.live 0 ref1_Get.c0 K) (ref1_Get.live 0) (ref1_Get.K0 R) [(.slice bA bn bc), (.int .i64 at_), (.int .i64 size), undef, undef, undef, undef, undef, (.int .u32 v), (.int .i64 i), undef, undef, undef, undef, undef, undef, undef, undef, undef, undef, undef, undef, undef, undef, undef, undef, undef, undef, undef, undef, undef, undef, undef, undef, undef, undef, undef, undef, undef, undef, undef, undef, undef, undef] w
@[reducible] def ref1_Get.B0 (R : Value → World → Prop) (bA : Option Addr) (bn : Nat) (bc : Nat) (at_ : Int) (size : Int) (v : Int) (i : Int) (w : World) : Prop :=
  ifP (decide ((i : Int) < size))
    (0 ≤ (IntKind.i64.wrap (at_ + i) : Int) ∧ (IntKind.i64.wrap (at_ + i) : Int) < ((bn : Nat) : Int) ∧ ∃ t39p : Addr, bA = some t39p ∧ ∃ t40 : Int, w.cell? (t39p.add (Int.toNat (IntKind.i64.wrap (at_ + i)) * 1)) = some (.int .u8 t40) ∧ ref1_Get.L0 R bA bn bc at_ size (orI .u32 (IntKind.u32.wrap (v * 2 ^ 8)) (IntKind.u32.wrap t40)) (IntKind.i64.wrap (i + 1)) w)
    (R (.tuple #[(.int .u32 v), (.bool true)]) w)

def ref1_Get.J0 (R : Value → World → Prop) (bA : Option Addr) (bn : Nat) (bc : Nat) (at_ : Int) (size : Int) (t27 : Bool) (w : World) : Prop :=
  ifP t27
    (R (.tuple #[(.int .u32 0), (.bool false)]) w)
    (ref1_Get.L0 R bA bn bc at_ size 0 0 w)

@[reducible] def ref1_Get.vc (R : Value → World → Prop) (bA : Option Addr) (bn : Nat) (bc : Nat) (at_ : Int) (size : Int) (w : World) : Prop :=
  ifP ((size : Int) != 1) (ifP ((size : Int) != 2) (ifP ((size : Int) != 4) (ref1_Get.J0 R bA bn bc at_ size true w) (Run Try.prog 85 #[(.int .i64 ((bn : Nat) : Int)), (.int .i64 at_), (.int .i64 size)] w fun v w_2 => ∃ t25 : Bool, v = (.bool t25) ∧ ref1_Get.J0 R bA bn bc at_ size (!t25) w_2)) (Run Try.prog 85 #[(.int .i64 ((bn : Nat) : Int)), (.int .i64 at_), (.int .i64 size)] w fun v_2 w_3 => ∃ t25_2 : Bool, v_2 = (.bool t25_2) ∧ ref1_Get.J0 R bA bn bc at_ size (!t25_2) w_3)) (Run Try.prog 85 #[(.int .i64 ((bn : Nat) : Int)), (.int .i64 at_), (.int .i64 size)] w fun v_3 w_4 => ∃ t25_3 : Bool, v_3 = (.bool t25_3) ∧ ref1_Get.J0 R bA bn bc at_ size (!t25_3) w_4)

theorem ref1_Get.B0_eq (R : Value → World → Prop) (bA : Option Addr) (bn : Nat) (bc : Nat) (at_ : Int) (size : Int) (v : Int) (i : Int) (w : World) (ts : Nat → Value) :
    code Try.prog none ref1_Get.live 0 ref1_Get.c0 (thenK (fun st w => loopVC (fun K => code Try.prog none ref1_Get.live 0 ref1_Get.c0 K) (ref1_Get.live 0) (ref1_Get.K0 R) (clearFrom (ref1_Get.live 0) 0 st) w) (ref1_Get.K0 R)) (mergeFrom (ref1_Get.live 0) ts 0 (clearFrom (ref1_Get.live 0) 0 [(.slice bA bn bc), (.int .i64 at_), (.int .i64 size), undef, undef, undef, undef, undef, (.int .u32 v), (.int .i64 i), undef, undef, undef, undef, undef, undef, undef, undef, undef, undef, undef, undef, undef, undef, undef, undef, undef, undef, undef, undef, undef, undef, undef, undef, undef, undef, undef, undef, undef, undef, undef, undef, undef, undef])) w = ref1_Get.B0 R bA bn bc at_ size v i w := by kernel_rfl
theorem ref1_Get.L0_step {R : Value → World → Prop} {bA : Option Addr} {bn : Nat} {bc : Nat} {at_ : Int} {size : Int} {v : Int} {i : Int} {w : World} (h : ref1_Get.B0 R bA bn bc at_ size v i w) : ref1_Get.L0 R bA bn bc at_ size v i w :=
  loop_step (live := ref1_Get.live) (b := 0) (x := ref1_Get.c0) fun ts => Eq.mpr (ref1_Get.B0_eq R bA bn bc at_ size v i w ts) h
theorem ref1_Get.eq (R : Value → World → Prop) (bA : Option Addr) (bn : Nat) (bc : Nat) (at_ : Int) (size : Int) (w : World) : fnVC Try.prog none ref1_Get.live Try.f60 R [(.slice bA bn bc), (.int .i64 at_), (.int .i64 size)] w = ref1_Get.vc R bA bn bc at_ size w := by kernel_rfl
set_option maxHeartbeats 4000000 in
theorem ref1_Get.ok {R : Value → World → Prop} {bA : Option Addr} {bn : Nat} {bc : Nat} {at_ : Int} {size : Int} {w : World} (h : ref1_Get.vc R bA bn bc at_ size w) : Run Try.prog 60 #[(.slice bA bn bc), (.int .i64 at_), (.int .i64 size)] w R := by
  have h2 := Eq.mpr (ref1_Get.eq R bA bn bc at_ size w) h
  exact fn_sound Try.mixed Try.func60 (by kernel_rfl) h2

/-! ### riddle/riddleref5.read: function 46 -/
noncomputable def ref5_read.body : Code := bodyOf Try.f46
def ref5_read.live : Nat → List Nat
  | _ => []
@[reducible] def ref5_read.vc (R : Value → World → Prop) (packetA : Option Addr) (packetn : Nat) (packetc : Nat) (at_ : Int) (size : Int) (w : World) : Prop :=
  ifP (decide ((at_ : Int) > (IntKind.u64.wrap ((packetn : Nat) : Int))))
    (R (.tuple #[(.int .u32 0), (.int .i64 1)]) w)
    (Run Try.prog 60 #[(.slice packetA packetn packetc), (.int .i64 (IntKind.i64.wrap at_)), (.int .i64 size)] w fun v w_2 => ∃ t200 : Int, ∃ t201 : Bool, v = (.tuple #[(.int .u32 t200), (.bool t201)]) ∧ ifP (!t201)
    (R (.tuple #[(.int .u32 0), (.int .i64 1)]) w_2)
    (R (.tuple #[(.int .u32 t200), (.int .i64 0)]) w_2))

theorem ref5_read.eq (R : Value → World → Prop) (packetA : Option Addr) (packetn : Nat) (packetc : Nat) (at_ : Int) (size : Int) (w : World) : fnVC Try.prog none ref5_read.live Try.f46 R [(.slice packetA packetn packetc), (.int .u64 at_), (.int .i64 size)] w = ref5_read.vc R packetA packetn packetc at_ size w := by kernel_rfl
set_option maxHeartbeats 4000000 in
theorem ref5_read.ok {R : Value → World → Prop} {packetA : Option Addr} {packetn : Nat} {packetc : Nat} {at_ : Int} {size : Int} {w : World} (h : ref5_read.vc R packetA packetn packetc at_ size w) : Run Try.prog 46 #[(.slice packetA packetn packetc), (.int .u64 at_), (.int .i64 size)] w R := by
  have h2 := Eq.mpr (ref5_read.eq R packetA packetn packetc at_ size w) h
  exact fn_sound Try.mixed Try.func46 (by kernel_rfl) h2

/-! ### riddle/riddleref5.size: function 47 -/
noncomputable def ref5_size.body : Code := bodyOf Try.f47
def ref5_size.live : Nat → List Nat
  | _ => []
def ref5_size.J1 (R : Value → World → Prop) (t7 : Bool) (w : World) : Prop :=
  ifP t7
    (R (.int .i64 2) w)
    (R (.int .i64 1) w)

def ref5_size.J0 (R : Value → World → Prop) (t3 : Int) (t4 : Bool) (w : World) : Prop :=
  ifP t4
    (R (.int .i64 4) w)
    (ifP ((t3 : Int) == 40)
    (ref5_size.J1 R ((t3 : Int) == 40) w)
    (ref5_size.J1 R ((t3 : Int) == 72) w))

@[reducible] def ref5_size.vc (R : Value → World → Prop) (code_ : Int) (w : World) : Prop :=
  ifP ((code_ : Int) == 32)
    (ref5_size.J0 R code_ ((code_ : Int) == 32) w)
    (ref5_size.J0 R code_ ((code_ : Int) == 64) w)

theorem ref5_size.eq (R : Value → World → Prop) (code_ : Int) (w : World) : fnVC Try.prog none ref5_size.live Try.f47 R [(.int .u16 code_)] w = ref5_size.vc R code_ w := by kernel_rfl
set_option maxHeartbeats 4000000 in
theorem ref5_size.ok {R : Value → World → Prop} {code_ : Int} {w : World} (h : ref5_size.vc R code_ w) : Run Try.prog 47 #[(.int .u16 code_)] w R := by
  have h2 := Eq.mpr (ref5_size.eq R code_ w) h
  exact fn_sound Try.mixed Try.func47 (by kernel_rfl) h2

/-! ### riddle/riddleref5.Shift: function 61 -/
noncomputable def ref5_Shift.body : Code := bodyOf Try.f61
def ref5_Shift.live : Nat → List Nat
  | _ => []
@[reducible] def ref5_Shift.vc (R : Value → World → Prop) (a : Int) (b : Int) (left : Bool) (w : World) : Prop :=
  ifP (decide ((b : Int) > 31))
    (R (.int .u32 0) w)
    (ifP left
    (0 ≤ b ∧ R (.int .u32 (IntKind.u32.wrap (a * 2 ^ (min (Int.toNat b) (IntKind.bits .u32))))) w)
    (0 ≤ b ∧ R (.int .u32 (Int.fdiv a (2 ^ (min (Int.toNat b) (IntKind.bits .u32))))) w))

theorem ref5_Shift.eq (R : Value → World → Prop) (a : Int) (b : Int) (left : Bool) (w : World) : fnVC Try.prog none ref5_Shift.live Try.f61 R [(.int .u32 a), (.int .u32 b), (.bool left)] w = ref5_Shift.vc R a b left w := by kernel_rfl
set_option maxHeartbeats 4000000 in
theorem ref5_Shift.ok {R : Value → World → Prop} {a : Int} {b : Int} {left : Bool} {w : World} (h : ref5_Shift.vc R a b left w) : Run Try.prog 61 #[(.int .u32 a), (.int .u32 b), (.bool left)] w R := by
  have h2 := Eq.mpr (ref5_Shift.eq R a b left w) h
  exact fn_sound Try.mixed Try.func61 (by kernel_rfl) h2

/-! ### riddle/riddleref5.Operate: function 48 -/
noncomputable def ref5_Operate.body : Code := bodyOf Try.f48
def ref5_Operate.live : Nat → List Nat
  | _ => []
@[reducible] def ref5_Operate.vc (R : Value → World → Prop) (code_ : Int) (a : Int) (b : Int) (w : World) : Prop :=
  ifP ((andNotI .u16 code_ 8 : Int) == 4)
    (R (.tuple #[(.int .u32 (IntKind.u32.wrap (a + b))), (.int .i64 0)]) w)
    (ifP ((andNotI .u16 code_ 8 : Int) == 20)
    (R (.tuple #[(.int .u32 (IntKind.u32.wrap (a - b))), (.int .i64 0)]) w)
    (ifP ((andNotI .u16 code_ 8 : Int) == 36)
    (R (.tuple #[(.int .u32 (IntKind.u32.wrap (a * b))), (.int .i64 0)]) w)
    (ifP ((andNotI .u16 code_ 8 : Int) == 68)
    (R (.tuple #[(.int .u32 (orI .u32 a b)), (.int .i64 0)]) w)
    (ifP ((andNotI .u16 code_ 8 : Int) == 84)
    (R (.tuple #[(.int .u32 (andI .u32 a b)), (.int .i64 0)]) w)
    (ifP ((andNotI .u16 code_ 8 : Int) == 164)
    (R (.tuple #[(.int .u32 (xorI .u32 a b)), (.int .i64 0)]) w)
    (ifP ((andNotI .u16 code_ 8 : Int) == 100)
    (Run Try.prog 61 #[(.int .u32 a), (.int .u32 b), (.bool true)] w fun v w_2 => ∃ t44 : Int, v = (.int .u32 t44) ∧ R (.tuple #[(.int .u32 t44), (.int .i64 0)]) w_2)
    (ifP ((andNotI .u16 code_ 8 : Int) == 116)
    (Run Try.prog 61 #[(.int .u32 a), (.int .u32 b), (.bool false)] w fun v_2 w_3 => ∃ t49 : Int, v_2 = (.int .u32 t49) ∧ R (.tuple #[(.int .u32 t49), (.int .i64 0)]) w_3)
    (ifP ((b : Int) == 0)
    (R (.tuple #[(.int .u32 0), (.int .i64 2)]) w)
    (ifP ((andNotI .u16 code_ 8 : Int) == 52)
    (b ≠ 0 ∧ R (.tuple #[(.int .u32 (IntKind.u32.wrap (Int.tdiv a b))), (.int .i64 0)]) w)
    (b ≠ 0 ∧ R (.tuple #[(.int .u32 (Int.tmod a b)), (.int .i64 0)]) w))))))))))

theorem ref5_Operate.eq (R : Value → World → Prop) (code_ : Int) (a : Int) (b : Int) (w : World) : fnVC Try.prog none ref5_Operate.live Try.f48 R [(.int .u16 code_), (.int .u32 a), (.int .u32 b)] w = ref5_Operate.vc R code_ a b w := by kernel_rfl
set_option maxHeartbeats 4000000 in
theorem ref5_Operate.ok {R : Value → World → Prop} {code_ : Int} {a : Int} {b : Int} {w : World} (h : ref5_Operate.vc R code_ a b w) : Run Try.prog 48 #[(.int .u16 code_), (.int .u32 a), (.int .u32 b)] w R := by
  have h2 := Eq.mpr (ref5_Operate.eq R code_ a b w) h
  exact fn_sound Try.mixed Try.func48 (by kernel_rfl) h2

/-! ### (*riddle/riddleref5.Machine).Step: function 31 -/
noncomputable def ref5_Machine_Step.body : Code := bodyOf Try.f31
def ref5_Machine_Step.live : Nat → List Nat
  | _ => []
def ref5_Machine_Step.J0 (R : Value → World → Prop) (fault : Int) (w : World) : Prop :=
  R (.int .i64 fault) w

def ref5_Machine_Step.J2 (R : Value → World → Prop) (fault : Int) (w : World) : Prop :=
  ref5_Machine_Step.J0 R fault w

def ref5_Machine_Step.J4 (R : Value → World → Prop) (fault : Int) (w : World) : Prop :=
  ref5_Machine_Step.J0 R fault w

def ref5_Machine_Step.J6 (R : Value → World → Prop) (fault : Int) (w : World) : Prop :=
  ref5_Machine_Step.J0 R fault w

def ref5_Machine_Step.J5 (R : Value → World → Prop) (m : Option Addr) (i : Addr) (b : Int) (w : World) : Prop :=
  ∃ S_ : World → Prop, S_ w.drew ∧ letW w.drew fun w_2 => ∃ t23 : Int, (∀ u : World, S_ u → u.cell? i = some (.int .u16 t23)) ∧ ∃ t25p : Addr, m = some t25p ∧ ∃ t27 : Int, (∀ u_2 : World, S_ u_2 → u_2.cell? t25p = some (.int .u32 t27)) ∧ Run Try.prog 48 #[(.int .u16 t23), (.int .u32 t27), (.int .u32 b)] w_2 fun v w_3 => ∃ t290 : Int, ∃ t291 : Int, v = (.tuple #[(.int .u32 t290), (.int .i64 t291)]) ∧ ∃ t32p : Addr, m = some t32p ∧ (∃ u : Value, w_3.cell? t32p = some u) ∧ w_3.frozen? t32p = false ∧ letW (w_3.setCell t32p (.int .u32 t290)) fun w_4 => ref5_Machine_Step.J6 R t291 w_4

def ref5_Machine_Step.J3 (R : Value → World → Prop) (m : Option Addr) (packetA : Option Addr) (packetn : Nat) (packetc : Nat) (i : Addr) (fault : Int) (t10 : Int) (t59 : Bool) (w : World) : Prop :=
  ifP t59
    (∃ S_ : World → Prop, S_ w.drew ∧ letW w.drew fun w_2 => ∃ t67 : Int, (∀ u : World, S_ u → u.cell? (i.add 3) = some (.int .u32 t67)) ∧ ∃ t70p : Addr, m = some t70p ∧ ∃ t72 : Int, (∀ u_2 : World, S_ u_2 → u_2.cell? (t70p.add 1) = some (.int .u32 t72)) ∧ ∃ t76 : Int, (∀ u_3 : World, S_ u_3 → u_3.cell? i = some (.int .u16 t76)) ∧ Run Try.prog 47 #[(.int .u16 t76)] w_2 fun v w_3 => ∃ t77 : Int, v = (.int .i64 t77) ∧ S_ w_3 ∧ Run Try.prog 46 #[(.slice packetA packetn packetc), (.int .u64 (IntKind.u64.wrap ((IntKind.u64.wrap t67) + (IntKind.u64.wrap t72)))), (.int .i64 t77)] w_3 fun v_2 w_4 => ∃ t780 : Int, ∃ t781 : Int, v_2 = (.tuple #[(.int .u32 t780), (.int .i64 t781)]) ∧ ∃ t81p : Addr, m = some t81p ∧ (∃ u : Value, w_4.cell? t81p = some u) ∧ w_4.frozen? t81p = false ∧ letW (w_4.setCell t81p (.int .u32 t780)) fun w_5 => ref5_Machine_Step.J4 R t781 w_5)
    (ifP ((t10 : Int) == 96)
    (∃ S__2 : World → Prop, S__2 w.drew ∧ letW w.drew fun w_6 => ∃ t88 : Int, (∀ u_4 : World, S__2 u_4 → u_4.cell? (i.add 3) = some (.int .u32 t88)) ∧ ∃ t90p : Addr, m = some t90p ∧ 0 ≤ (andI .u32 t88 15 : Int) ∧ (andI .u32 t88 15 : Int) < ((16 : Nat) : Int) ∧ ∃ t93 : Int, (∀ u_5 : World, S__2 u_5 → u_5.cell? ((t90p.add 2).add (Int.toNat (andI .u32 t88 15) * 1)) = some (.int .u32 t93)) ∧ ∃ t94p : Addr, m = some t94p ∧ (∃ u : Value, w_6.cell? t94p = some u) ∧ w_6.frozen? t94p = false ∧ letW (w_6.setCell t94p (.int .u32 t93)) fun w_7 => ref5_Machine_Step.J0 R fault w_7)
    (ifP ((t10 : Int) == 128)
    (∃ t102p : Addr, m = some t102p ∧ (∃ u : Value, w.cell? t102p = some u) ∧ w.frozen? t102p = false ∧ letW (w.setCell t102p (.int .u32 (IntKind.u32.wrap ((packetn : Nat) : Int)))) fun w_8 => ref5_Machine_Step.J0 R fault w_8)
    (ifP ((t10 : Int) == 1)
    (∃ t108 : Int, w.cell? (i.add 3) = some (.int .u32 t108) ∧ ∃ t109p : Addr, m = some t109p ∧ (∃ u : Value, w.cell? (t109p.add 1) = some u) ∧ w.frozen? (t109p.add 1) = false ∧ letW (w.setCell (t109p.add 1) (.int .u32 t108)) fun w_9 => ref5_Machine_Step.J0 R fault w_9)
    (ifP ((t10 : Int) == 97)
    (∃ S__3 : World → Prop, S__3 w.drew ∧ letW w.drew fun w_10 => ∃ t116 : Int, (∀ u_6 : World, S__3 u_6 → u_6.cell? (i.add 3) = some (.int .u32 t116)) ∧ ∃ t118p : Addr, m = some t118p ∧ 0 ≤ (andI .u32 t116 15 : Int) ∧ (andI .u32 t116 15 : Int) < ((16 : Nat) : Int) ∧ ∃ t121 : Int, (∀ u_7 : World, S__3 u_7 → u_7.cell? ((t118p.add 2).add (Int.toNat (andI .u32 t116 15) * 1)) = some (.int .u32 t121)) ∧ ∃ t122p : Addr, m = some t122p ∧ (∃ u : Value, w_10.cell? (t122p.add 1) = some u) ∧ w_10.frozen? (t122p.add 1) = false ∧ letW (w_10.setCell (t122p.add 1) (.int .u32 t121)) fun w_11 => ref5_Machine_Step.J0 R fault w_11)
    (ifP ((t10 : Int) == 129)
    (∃ t130p : Addr, m = some t130p ∧ (∃ u : Value, w.cell? (t130p.add 1) = some u) ∧ w.frozen? (t130p.add 1) = false ∧ letW (w.setCell (t130p.add 1) (.int .u32 (IntKind.u32.wrap ((packetn : Nat) : Int)))) fun w_12 => ref5_Machine_Step.J0 R fault w_12)
    (ifP ((t10 : Int) == 177)
    (∃ t138 : Int, w.cell? (i.add 3) = some (.int .u32 t138) ∧ Run Try.prog 46 #[(.slice packetA packetn packetc), (.int .u64 (IntKind.u64.wrap t138)), (.int .i64 1)] w fun v_3 w_13 => ∃ t1400 : Int, ∃ t1401 : Int, v_3 = (.tuple #[(.int .u32 t1400), (.int .i64 t1401)]) ∧ ∃ t143p : Addr, m = some t143p ∧ (∃ u : Value, w_13.cell? (t143p.add 1) = some u) ∧ w_13.frozen? (t143p.add 1) = false ∧ letW (w_13.setCell (t143p.add 1) (.int .u32 t1400)) fun w_14 => ∃ t147p : Addr, m = some t147p ∧ ∃ t149 : Int, w_14.cell? (t147p.add 1) = some (.int .u32 t149) ∧ ∃ t152p : Addr, m = some t152p ∧ (∃ u : Value, w_14.cell? (t152p.add 1) = some u) ∧ w_14.frozen? (t152p.add 1) = false ∧ letW (w_14.setCell (t152p.add 1) (.int .u32 (IntKind.u32.wrap (4 * (andI .u32 t149 15))))) fun w_15 => ref5_Machine_Step.J0 R t1401 w_15)
    (ifP ((t10 : Int) == 2)
    (∃ S__4 : World → Prop, S__4 w.drew ∧ letW w.drew fun w_16 => ∃ t158 : Int, (∀ u_8 : World, S__4 u_8 → u_8.cell? (i.add 3) = some (.int .u32 t158)) ∧ ∃ t161p : Addr, m = some t161p ∧ ∃ t163 : Int, (∀ u_9 : World, S__4 u_9 → u_9.cell? t161p = some (.int .u32 t163)) ∧ ∃ t164p : Addr, m = some t164p ∧ 0 ≤ (andI .u32 t158 15 : Int) ∧ (andI .u32 t158 15 : Int) < ((16 : Nat) : Int) ∧ (∃ u : Value, w_16.cell? ((t164p.add 2).add (Int.toNat (andI .u32 t158 15) * 1)) = some u) ∧ w_16.frozen? ((t164p.add 2).add (Int.toNat (andI .u32 t158 15) * 1)) = false ∧ letW (w_16.setCell ((t164p.add 2).add (Int.toNat (andI .u32 t158 15) * 1)) (.int .u32 t163)) fun w_17 => ref5_Machine_Step.J0 R fault w_17)
    (ifP ((t10 : Int) == 3)
    (∃ S__5 : World → Prop, S__5 w.drew ∧ letW w.drew fun w_18 => ∃ t171 : Int, (∀ u_10 : World, S__5 u_10 → u_10.cell? (i.add 3) = some (.int .u32 t171)) ∧ ∃ t174p : Addr, m = some t174p ∧ ∃ t176 : Int, (∀ u_11 : World, S__5 u_11 → u_11.cell? (t174p.add 1) = some (.int .u32 t176)) ∧ ∃ t177p : Addr, m = some t177p ∧ 0 ≤ (andI .u32 t171 15 : Int) ∧ (andI .u32 t171 15 : Int) < ((16 : Nat) : Int) ∧ (∃ u : Value, w_18.cell? ((t177p.add 2).add (Int.toNat (andI .u32 t171 15) * 1)) = some u) ∧ w_18.frozen? ((t177p.add 2).add (Int.toNat (andI .u32 t171 15) * 1)) = false ∧ letW (w_18.setCell ((t177p.add 2).add (Int.toNat (andI .u32 t171 15) * 1)) (.int .u32 t176)) fun w_19 => ref5_Machine_Step.J0 R fault w_19)
    (ifP ((t10 : Int) == 132)
    (∃ t184p : Addr, m = some t184p ∧ ∃ t186 : Int, w.cell? t184p = some (.int .u32 t186) ∧ ∃ t188p : Addr, m = some t188p ∧ (∃ u : Value, w.cell? t188p = some u) ∧ w.frozen? t188p = false ∧ letW (w.setCell t188p (.int .u32 (IntKind.u32.wrap (0 - t186)))) fun w_20 => ref5_Machine_Step.J0 R fault w_20)
    (ifP ((t10 : Int) == 7)
    (∃ t194p : Addr, m = some t194p ∧ ∃ t196 : Int, w.cell? t194p = some (.int .u32 t196) ∧ ∃ t197p : Addr, m = some t197p ∧ (∃ u : Value, w.cell? (t197p.add 1) = some u) ∧ w.frozen? (t197p.add 1) = false ∧ letW (w.setCell (t197p.add 1) (.int .u32 t196)) fun w_21 => ref5_Machine_Step.J0 R fault w_21)
    (ifP ((t10 : Int) == 135)
    (∃ t203p : Addr, m = some t203p ∧ ∃ t205 : Int, w.cell? (t203p.add 1) = some (.int .u32 t205) ∧ ∃ t206p : Addr, m = some t206p ∧ (∃ u : Value, w.cell? t206p = some u) ∧ w.frozen? t206p = false ∧ letW (w.setCell t206p (.int .u32 t205)) fun w_22 => ref5_Machine_Step.J0 R fault w_22)
    (∃ t12 : Int, w.cell? (i.add 3) = some (.int .u32 t12) ∧ ∃ t14 : Int, w.cell? i = some (.int .u16 t14) ∧ Run Try.prog 45 #[(.int .u16 t14)] w fun v_4 w_23 => ∃ t15 : Bool, v_4 = (.bool t15) ∧ ifP t15
    (∃ t17p : Addr, m = some t17p ∧ ∃ t19 : Int, w_23.cell? (t17p.add 1) = some (.int .u32 t19) ∧ ref5_Machine_Step.J5 R m i t19 w_23)
    (ref5_Machine_Step.J5 R m i t12 w_23)))))))))))))

def ref5_Machine_Step.J1 (R : Value → World → Prop) (m : Option Addr) (packetA : Option Addr) (packetn : Nat) (packetc : Nat) (i : Addr) (fault : Int) (t10 : Int) (t41 : Bool) (w : World) : Prop :=
  ifP t41
    (∃ S_ : World → Prop, S_ w.drew ∧ letW w.drew fun w_2 => ∃ t49 : Int, (∀ u : World, S_ u → u.cell? (i.add 3) = some (.int .u32 t49)) ∧ ∃ t52 : Int, (∀ u_2 : World, S_ u_2 → u_2.cell? i = some (.int .u16 t52)) ∧ Run Try.prog 47 #[(.int .u16 t52)] w_2 fun v w_3 => ∃ t53 : Int, v = (.int .i64 t53) ∧ S_ w_3 ∧ Run Try.prog 46 #[(.slice packetA packetn packetc), (.int .u64 (IntKind.u64.wrap t49)), (.int .i64 t53)] w_3 fun v_2 w_4 => ∃ t540 : Int, ∃ t541 : Int, v_2 = (.tuple #[(.int .u32 t540), (.int .i64 t541)]) ∧ ∃ t57p : Addr, m = some t57p ∧ (∃ u : Value, w_4.cell? t57p = some u) ∧ w_4.frozen? t57p = false ∧ letW (w_4.setCell t57p (.int .u32 t540)) fun w_5 => ref5_Machine_Step.J2 R t541 w_5)
    (ifP ((t10 : Int) == 64)
    (ref5_Machine_Step.J3 R m packetA packetn packetc i fault t10 ((t10 : Int) == 64) w)
    (ifP ((t10 : Int) == 72)
    (ref5_Machine_Step.J3 R m packetA packetn packetc i fault t10 ((t10 : Int) == 72) w)
    (ref5_Machine_Step.J3 R m packetA packetn packetc i fault t10 ((t10 : Int) == 80) w)))

@[reducible] def ref5_Machine_Step.vc (R : Value → World → Prop) (m : Option Addr) (i_0 : Int) (i_1 : Int) (i_2 : Int) (i_3 : Int) (packetA : Option Addr) (packetn : Nat) (packetc : Nat) (w : World) : Prop :=
  letW (w.alloc (.cells #[(.int .u16 i_0), (.int .u8 i_1), (.int .u8 i_2), (.int .u32 i_3)] 45)) fun w_2 => ∃ t10 : Int, w_2.cell? (newA w) = some (.int .u16 t10) ∧ ifP ((t10 : Int) == 0)
    (∃ t38 : Int, w_2.cell? ((newA w).add 3) = some (.int .u32 t38) ∧ ∃ t39p : Addr, m = some t39p ∧ (∃ u : Value, w_2.cell? t39p = some u) ∧ w_2.frozen? t39p = false ∧ letW (w_2.setCell t39p (.int .u32 t38)) fun w_3 => ref5_Machine_Step.J0 R 0 w_3)
    (ifP ((t10 : Int) == 32)
    (ref5_Machine_Step.J1 R m packetA packetn packetc (newA w) 0 t10 ((t10 : Int) == 32) w_2)
    (ifP ((t10 : Int) == 40)
    (ref5_Machine_Step.J1 R m packetA packetn packetc (newA w) 0 t10 ((t10 : Int) == 40) w_2)
    (ref5_Machine_Step.J1 R m packetA packetn packetc (newA w) 0 t10 ((t10 : Int) == 48) w_2)))

theorem ref5_Machine_Step.eq (R : Value → World → Prop) (m : Option Addr) (i_0 : Int) (i_1 : Int) (i_2 : Int) (i_3 : Int) (packetA : Option Addr) (packetn : Nat) (packetc : Nat) (w : World) : fnVC Try.prog none ref5_Machine_Step.live Try.f31 R [(.pointer m), (.agg #[(.int .u16 i_0), (.int .u8 i_1), (.int .u8 i_2), (.int .u32 i_3)]), (.slice packetA packetn packetc)] w = ref5_Machine_Step.vc R m i_0 i_1 i_2 i_3 packetA packetn packetc w := by kernel_rfl
set_option maxHeartbeats 4000000 in
theorem ref5_Machine_Step.ok {R : Value → World → Prop} {m : Option Addr} {i_0 : Int} {i_1 : Int} {i_2 : Int} {i_3 : Int} {packetA : Option Addr} {packetn : Nat} {packetc : Nat} {w : World} (h : ref5_Machine_Step.vc R m i_0 i_1 i_2 i_3 packetA packetn packetc w) : Run Try.prog 31 #[(.pointer m), (.agg #[(.int .u16 i_0), (.int .u8 i_1), (.int .u8 i_2), (.int .u32 i_3)]), (.slice packetA packetn packetc)] w R := by
  have h2 := Eq.mpr (ref5_Machine_Step.eq R m i_0 i_1 i_2 i_3 packetA packetn packetc w) h
  exact fn_sound Try.mixed Try.func31 (by kernel_rfl) h2

/-! ### riddle/riddleref5.Run: function 11 -/
noncomputable def ref5_Run.body : Code := bodyOf Try.f11
def ref5_Run.live : Nat → List Nat
  | 0 => [0, 1, 4, 8, 9, 10]
  | _ => []
noncomputable def ref5_Run.c0 : Code := sub ref5_Run.body [1, 1, 1, 1, 1, 0, 0]
def ref5_Run.K0 (R : Value → World → Prop) : Ex → St → World → Prop := (blockK 0 (retK Try.prog Try.f11 R))
def ref5_Run.L0 (R : Value → World → Prop) (pA : Option Addr) (pn : Nat) (pc : Nat) (packetA : Option Addr) (packetn : Nat) (packetc : Nat) (t4 : Addr) (m : Addr) (traceA : Option Addr) (tracen : Nat) (tracec : Nat) (at_ : Int) (w : World) : Prop :=
  loopVC (fun K => code Try.prog none ref5_Run.live 0 ref5_Run.c0 K) (ref5_Run.live 0) (ref5_Run.K0 R) [(.slice pA pn pc), (.slice packetA packetn packetc), undef, undef, (.pointer (some t4)), undef, undef, undef, (.pointer (some m)), (.slice traceA tracen tracec), (.int .i64 at_), undef, undef, undef, undef, undef, undef, undef, undef, undef, undef, undef, undef, undef, undef, undef, undef, undef, undef, undef, undef, undef, undef, undef, undef, undef, undef, undef, undef, undef, undef, undef, undef, undef, undef, undef, undef, undef, undef, undef, undef, undef, undef, undef, undef, undef, undef, undef, undef, undef, undef, undef, undef, undef, undef, undef, undef, undef, undef, undef, undef, undef, undef, undef, undef, undef, undef, undef, undef, undef, undef, undef, undef, undef, undef, undef, undef, undef, undef, undef, undef, undef, undef, undef, undef] w
def ref5_Run.J0 (R : Value → World → Prop) (pA : Option Addr) (pn : Nat) (pc : Nat) (packetA : Option Addr) (packetn : Nat) (packetc : Nat) (t4 : Addr) (m : Addr) (traceA : Option Addr) (tracen : Nat) (tracec : Nat) (at_ : Int) (i : Addr) (t69 : Bool) (w : World) : Prop :=
  ifP t69
    (∃ t83 : Int, w.cell? (i.add 1) = some (.int .u8 t83) ∧ ref5_Run.L0 R pA pn pc packetA packetn packetc t4 m traceA tracen tracec (IntKind.i64.wrap (at_ + (IntKind.i64.wrap t83))) w)
    (∃ t88 : Int, w.cell? i = some (.int .u16 t88) ∧ Run Try.prog 29 #[(.int .u16 t88)] w fun v w_2 => ∃ t89 : Bool, v = (.bool t89) ∧ ifP t89
    (∃ t92 : Int, w_2.cell? (i.add 2) = some (.int .u8 t92) ∧ ref5_Run.L0 R pA pn pc packetA packetn packetc t4 m traceA tracen tracec (IntKind.i64.wrap (at_ + (IntKind.i64.wrap t92))) w_2)
    (∃ t30_0 : Int, w_2.cell? i = some (.int .u16 t30_0) ∧ ∃ t30_1 : Int, w_2.cell? (i.add 1) = some (.int .u8 t30_1) ∧ ∃ t30_2 : Int, w_2.cell? (i.add 2) = some (.int .u8 t30_2) ∧ ∃ t30_3 : Int, w_2.cell? (i.add 3) = some (.int .u32 t30_3) ∧ Run Try.prog 31 #[(.pointer (some m)), (.agg #[(.int .u16 t30_0), (.int .u8 t30_1), (.int .u8 t30_2), (.int .u32 t30_3)]), (.slice packetA packetn packetc)] w_2 fun v_2 w_3 => ∃ t32 : Int, v_2 = (.int .i64 t32) ∧ ifP ((t32 : Int) != 0)
    (storeRow t4 0 [(.int .u32 0), (.int .i64 t32), (.int .i64 ((tracen : Nat) : Int))] w_3 fun w_4 => ∃ t4_0 : Int, w_4.cell? t4 = some (.int .u32 t4_0) ∧ ∃ t4_1 : Int, w_4.cell? (t4.add 1) = some (.int .i64 t4_1) ∧ ∃ t4_2 : Int, w_4.cell? (t4.add 2) = some (.int .i64 t4_2) ∧ R (.tuple #[(.agg #[(.int .u32 t4_0), (.int .i64 t4_1), (.int .i64 t4_2)]), (.slice traceA tracen tracec), (.int .i64 0)]) w_4)
    (ref5_Run.L0 R pA pn pc packetA packetn packetc t4 m traceA tracen tracec at_ w_3)))

@[reducible] def ref5_Run.B0 (R : Value → World → Prop) (pA : Option Addr) (pn : Nat) (pc : Nat) (packetA : Option Addr) (packetn : Nat) (packetc : Nat) (t4 : Addr) (m : Addr) (traceA : Option Addr) (tracen : Nat) (tracec : Nat) (at_ : Int) (w : World) : Prop :=
  0 ≤ (at_ : Int) ∧ (at_ : Int) < ((pn : Nat) : Int) ∧ ∃ t22p : Addr, pA = some t22p ∧ ∃ t23_0 : Int, w.cell? (t22p.add (Int.toNat at_ * 4)) = some (.int .u16 t23_0) ∧ ∃ t23_1 : Int, w.cell? ((t22p.add (Int.toNat at_ * 4)).add 1) = some (.int .u8 t23_1) ∧ ∃ t23_2 : Int, w.cell? ((t22p.add (Int.toNat at_ * 4)).add 2) = some (.int .u8 t23_2) ∧ ∃ t23_3 : Int, w.cell? ((t22p.add (Int.toNat at_ * 4)).add 3) = some (.int .u32 t23_3) ∧ letW (w.alloc (.cells #[(.int .u16 0), (.int .u8 0), (.int .u8 0), (.int .u32 0)] 45)) fun w_2 => storeRow (newA w) 0 [(.int .u16 t23_0), (.int .u8 t23_1), (.int .u8 t23_2), (.int .u32 t23_3)] w_2 fun w_3 => letW (w_3.alloc (.cells #[(.int .i64 at_)] 3)) fun w_4 => ∃ (v : Value) (w_5 : World), (Builtin.append_ #[27, 27] 27 #[(.slice traceA tracen tracec), (.slice (some (newA w_3)) 1 1)]).run Try.prog w_4 = .ok v w_5 ∧ ∃ (t27A : Option Addr) (t27n t27c : Nat), v = (.slice t27A t27n t27c) ∧ ∃ t42 : Int, w_5.cell? (newA w) = some (.int .u16 t42) ∧ ifP ((t42 : Int) == 6)
    (∃ t45 : Int, w_5.cell? ((newA w).add 3) = some (.int .u32 t45) ∧ storeRow t4 0 [(.int .u32 t45), (.int .i64 0), (.int .i64 ((t27n : Nat) : Int))] w_5 fun w_6 => ∃ t4_0 : Int, w_6.cell? t4 = some (.int .u32 t4_0) ∧ ∃ t4_1 : Int, w_6.cell? (t4.add 1) = some (.int .i64 t4_1) ∧ ∃ t4_2 : Int, w_6.cell? (t4.add 2) = some (.int .i64 t4_2) ∧ R (.tuple #[(.agg #[(.int .u32 t4_0), (.int .i64 t4_1), (.int .i64 t4_2)]), (.slice t27A t27n t27c), (.int .i64 0)]) w_6)
    (∃ t52 : Int, w_5.cell? (newA w) = some (.int .u16 t52) ∧ ifP ((t52 : Int) == 22)
    (∃ t55 : Int, w_5.cell? m = some (.int .u32 t55) ∧ storeRow t4 0 [(.int .u32 t55), (.int .i64 0), (.int .i64 ((t27n : Nat) : Int))] w_5 fun w_7 => ∃ t4_0_2 : Int, w_7.cell? t4 = some (.int .u32 t4_0_2) ∧ ∃ t4_1_2 : Int, w_7.cell? (t4.add 1) = some (.int .i64 t4_1_2) ∧ ∃ t4_2_2 : Int, w_7.cell? (t4.add 2) = some (.int .i64 t4_2_2) ∧ R (.tuple #[(.agg #[(.int .u32 t4_0_2), (.int .i64 t4_1_2), (.int .i64 t4_2_2)]), (.slice t27A t27n t27c), (.int .i64 0)]) w_7)
    (∃ t62 : Int, w_5.cell? (newA w) = some (.int .u16 t62) ∧ ifP ((t62 : Int) == 5)
    (∃ t66 : Int, w_5.cell? ((newA w).add 3) = some (.int .u32 t66) ∧ ref5_Run.L0 R pA pn pc packetA packetn packetc t4 m t27A t27n t27c (IntKind.i64.wrap ((IntKind.i64.wrap (at_ + 1)) + (IntKind.i64.wrap t66))) w_5)
    (∃ t71 : Int, w_5.cell? (newA w) = some (.int .u16 t71) ∧ Run Try.prog 29 #[(.int .u16 t71)] w_5 fun v_2 w_8 => ∃ t72 : Bool, v_2 = (.bool t72) ∧ ifP t72 (∃ t74_0 : Int, w_8.cell? (newA w) = some (.int .u16 t74_0) ∧ ∃ t74_1 : Int, w_8.cell? ((newA w).add 1) = some (.int .u8 t74_1) ∧ ∃ t74_2 : Int, w_8.cell? ((newA w).add 2) = some (.int .u8 t74_2) ∧ ∃ t74_3 : Int, w_8.cell? ((newA w).add 3) = some (.int .u32 t74_3) ∧ ∃ t76 : Int, w_8.cell? m = some (.int .u32 t76) ∧ ∃ t78 : Int, w_8.cell? (m.add 1) = some (.int .u32 t78) ∧ Run Try.prog 30 #[(.agg #[(.int .u16 t74_0), (.int .u8 t74_1), (.int .u8 t74_2), (.int .u32 t74_3)]), (.int .u32 t76), (.int .u32 t78)] w_8 fun v_3 w_9 => ∃ t79 : Bool, v_3 = (.bool t79) ∧ ref5_Run.J0 R pA pn pc packetA packetn packetc t4 m t27A t27n t27c (IntKind.i64.wrap (at_ + 1)) (newA w) t79 w_9) (ref5_Run.J0 R pA pn pc packetA packetn packetc t4 m t27A t27n t27c (IntKind.i64.wrap (at_ + 1)) (newA w) false w_8))))

@[reducible] def ref5_Run.vc (R : Value → World → Prop) (pA : Option Addr) (pn : Nat) (pc : Nat) (packetA : Option Addr) (packetn : Nat) (packetc : Nat) (w : World) : Prop :=
  letW (w.alloc (.cells #[(.int .u32 0), (.int .i64 0), (.int .i64 0)] 26)) fun w_2 => Run Try.prog 28 #[(.slice pA pn pc), (.slice packetA packetn packetc)] w_2 fun v w_3 => ∃ t15 : Int, v = (.int .i64 t15) ∧ ifP ((t15 : Int) != 0)
    (storeRow (newA w) 0 [(.int .u32 0), (.int .i64 0), (.int .i64 0)] w_3 fun w_4 => ∃ t4_0 : Int, w_4.cell? (newA w) = some (.int .u32 t4_0) ∧ ∃ t4_1 : Int, w_4.cell? ((newA w).add 1) = some (.int .i64 t4_1) ∧ ∃ t4_2 : Int, w_4.cell? ((newA w).add 2) = some (.int .i64 t4_2) ∧ R (.tuple #[(.agg #[(.int .u32 t4_0), (.int .i64 t4_1), (.int .i64 t4_2)]), (.slice none 0 0), (.int .i64 t15)]) w_4)
    (letW (w_3.alloc (.cells #[(.int .u32 0), (.int .u32 0), (.int .u32 0), (.int .u32 0), (.int .u32 0), (.int .u32 0), (.int .u32 0), (.int .u32 0), (.int .u32 0), (.int .u32 0), (.int .u32 0), (.int .u32 0), (.int .u32 0), (.int .u32 0), (.int .u32 0), (.int .u32 0), (.int .u32 0), (.int .u32 0)] 64)) fun w_5 => ref5_Run.L0 R pA pn pc packetA packetn packetc (newA w) (newA w_3) none 0 0 0 w_5)

theorem ref5_Run.B0_eq (R : Value → World → Prop) (pA : Option Addr) (pn : Nat) (pc : Nat) (packetA : Option Addr) (packetn : Nat) (packetc : Nat) (t4 : Addr) (m : Addr) (traceA : Option Addr) (tracen : Nat) (tracec : Nat) (at_ : Int) (w : World) (ts : Nat → Value) :
    code Try.prog none ref5_Run.live 0 ref5_Run.c0 (thenK (fun st w => loopVC (fun K => code Try.prog none ref5_Run.live 0 ref5_Run.c0 K) (ref5_Run.live 0) (ref5_Run.K0 R) (clearFrom (ref5_Run.live 0) 0 st) w) (ref5_Run.K0 R)) (mergeFrom (ref5_Run.live 0) ts 0 (clearFrom (ref5_Run.live 0) 0 [(.slice pA pn pc), (.slice packetA packetn packetc), undef, undef, (.pointer (some t4)), undef, undef, undef, (.pointer (some m)), (.slice traceA tracen tracec), (.int .i64 at_), undef, undef, undef, undef, undef, undef, undef, undef, undef, undef, undef, undef, undef, undef, undef, undef, undef, undef, undef, undef, undef, undef, undef, undef, undef, undef, undef, undef, undef, undef, undef, undef, undef, undef, undef, undef, undef, undef, undef, undef, undef, undef, undef, undef, undef, undef, undef, undef, undef, undef, undef, undef, undef, undef, undef, undef, undef, undef, undef, undef, undef, undef, undef, undef, undef, undef, undef, undef, undef, undef, undef, undef, undef, undef, undef, undef, undef, undef, undef, undef, undef, undef, undef, undef])) w = ref5_Run.B0 R pA pn pc packetA packetn packetc t4 m traceA tracen tracec at_ w := by kernel_rfl
theorem ref5_Run.L0_step {R : Value → World → Prop} {pA : Option Addr} {pn : Nat} {pc : Nat} {packetA : Option Addr} {packetn : Nat} {packetc : Nat} {t4 : Addr} {m : Addr} {traceA : Option Addr} {tracen : Nat} {tracec : Nat} {at_ : Int} {w : World} (h : ref5_Run.B0 R pA pn pc packetA packetn packetc t4 m traceA tracen tracec at_ w) : ref5_Run.L0 R pA pn pc packetA packetn packetc t4 m traceA tracen tracec at_ w :=
  loop_step (live := ref5_Run.live) (b := 0) (x := ref5_Run.c0) fun ts => Eq.mpr (ref5_Run.B0_eq R pA pn pc packetA packetn packetc t4 m traceA tracen tracec at_ w ts) h
theorem ref5_Run.eq (R : Value → World → Prop) (pA : Option Addr) (pn : Nat) (pc : Nat) (packetA : Option Addr) (packetn : Nat) (packetc : Nat) (w : World) : fnVC Try.prog none ref5_Run.live Try.f11 R [(.slice pA pn pc), (.slice packetA packetn packetc)] w = ref5_Run.vc R pA pn pc packetA packetn packetc w := by kernel_rfl
set_option maxHeartbeats 4000000 in
theorem ref5_Run.ok {R : Value → World → Prop} {pA : Option Addr} {pn : Nat} {pc : Nat} {packetA : Option Addr} {packetn : Nat} {packetc : Nat} {w : World} (h : ref5_Run.vc R pA pn pc packetA packetn packetc w) : Run Try.prog 11 #[(.slice pA pn pc), (.slice packetA packetn packetc)] w R := by
  have h2 := Eq.mpr (ref5_Run.eq R pA pn pc packetA packetn packetc w) h
  exact fn_sound Try.mixed Try.func11 (by kernel_rfl) h2

/-! ### riddle/riddlelaw0.CopyInsns: function 19 -/
noncomputable def law0_CopyInsns.body : Code := bodyOf Try.f19
def law0_CopyInsns.live : Nat → List Nat
  | _ => []
@[reducible] def law0_CopyInsns.vc (R : Value → World → Prop) (aA : Option Addr) (an : Nat) (ac : Nat) (w : World) : Prop :=
  letW (w.alloc (.cells #[] 45)) fun w_2 => ∃ (v : Value) (w_3 : World), (Builtin.append_ #[22, 22] 22 #[(.slice (some (newA w)) 0 0), (.slice aA an ac)]).run Try.prog w_2 = .ok v w_3 ∧ ∃ (t5A : Option Addr) (t5n t5c : Nat), v = (.slice t5A t5n t5c) ∧ R (.slice t5A t5n t5c) w_3

theorem law0_CopyInsns.eq (R : Value → World → Prop) (aA : Option Addr) (an : Nat) (ac : Nat) (w : World) : fnVC Try.prog none law0_CopyInsns.live Try.f19 R [(.slice aA an ac)] w = law0_CopyInsns.vc R aA an ac w := by kernel_rfl
set_option maxHeartbeats 4000000 in
theorem law0_CopyInsns.ok {R : Value → World → Prop} {aA : Option Addr} {an : Nat} {ac : Nat} {w : World} (h : law0_CopyInsns.vc R aA an ac w) : Run Try.prog 19 #[(.slice aA an ac)] w R := by
  have h2 := Eq.mpr (law0_CopyInsns.eq R aA an ac w) h
  exact fn_sound Try.mixed Try.func19 (by kernel_rfl) h2

/-! ### riddle/riddlelaw0.LendInsns: function 12 -/
noncomputable def law0_LendInsns.body : Code := bodyOf Try.f12
def law0_LendInsns.live : Nat → List Nat
  | _ => []
@[reducible] def law0_LendInsns.vc (R : Value → World → Prop) (aA : Option Addr) (an : Nat) (ac : Nat) (w : World) : Prop :=
  Run Try.prog 19 #[(.slice aA an ac)] w fun v w_2 => ∃ (t5A : Option Addr) (t5n t5c : Nat), v = (.slice t5A t5n t5c) ∧ letW (w_2.alloc (.cells #[(.int .u16 7), (.int .u8 0), (.int .u8 0), (.int .u32 77), (.int .u16 7), (.int .u8 0), (.int .u8 0), (.int .u32 77), (.int .u16 7), (.int .u8 0), (.int .u8 0), (.int .u32 77)] 45)) fun w_3 => ∃ (v_2 : Value) (w_4 : World), (Builtin.append_ #[22, 22] 22 #[(.slice t5A t5n t5c), (.slice (some (newA w_2)) 3 3)]).run Try.prog w_3 = .ok v_2 w_4 ∧ ∃ (t10A : Option Addr) (t10n t10c : Nat), v_2 = (.slice t10A t10n t10c) ∧ (0 : Int) ≤ 0 ∧ (0 : Int) ≤ ((an : Nat) : Int) ∧ (((an : Nat) : Int) : Int) ≤ ((t10c : Nat) : Int) ∧ R (.slice (subA t10A t10c 0 4) ((Int.toNat ((an : Nat) : Int)) - 0) (t10c - 0)) w_4

theorem law0_LendInsns.eq (R : Value → World → Prop) (aA : Option Addr) (an : Nat) (ac : Nat) (w : World) : fnVC Try.prog none law0_LendInsns.live Try.f12 R [(.slice aA an ac)] w = law0_LendInsns.vc R aA an ac w := by kernel_rfl
set_option maxHeartbeats 4000000 in
theorem law0_LendInsns.ok {R : Value → World → Prop} {aA : Option Addr} {an : Nat} {ac : Nat} {w : World} (h : law0_LendInsns.vc R aA an ac w) : Run Try.prog 12 #[(.slice aA an ac)] w R := by
  have h2 := Eq.mpr (law0_LendInsns.eq R aA an ac w) h
  exact fn_sound Try.mixed Try.func12 (by kernel_rfl) h2

/-! ### riddle/riddlelaw0.CopyBytes: function 20 -/
noncomputable def law0_CopyBytes.body : Code := bodyOf Try.f20
def law0_CopyBytes.live : Nat → List Nat
  | _ => []
@[reducible] def law0_CopyBytes.vc (R : Value → World → Prop) (aA : Option Addr) (an : Nat) (ac : Nat) (w : World) : Prop :=
  letW (w.alloc (.cells #[] 5)) fun w_2 => ∃ (v : Value) (w_3 : World), (Builtin.append_ #[23, 23] 23 #[(.slice (some (newA w)) 0 0), (.slice aA an ac)]).run Try.prog w_2 = .ok v w_3 ∧ ∃ (t5A : Option Addr) (t5n t5c : Nat), v = (.slice t5A t5n t5c) ∧ R (.slice t5A t5n t5c) w_3

theorem law0_CopyBytes.eq (R : Value → World → Prop) (aA : Option Addr) (an : Nat) (ac : Nat) (w : World) : fnVC Try.prog none law0_CopyBytes.live Try.f20 R [(.slice aA an ac)] w = law0_CopyBytes.vc R aA an ac w := by kernel_rfl
set_option maxHeartbeats 4000000 in
theorem law0_CopyBytes.ok {R : Value → World → Prop} {aA : Option Addr} {an : Nat} {ac : Nat} {w : World} (h : law0_CopyBytes.vc R aA an ac w) : Run Try.prog 20 #[(.slice aA an ac)] w R := by
  have h2 := Eq.mpr (law0_CopyBytes.eq R aA an ac w) h
  exact fn_sound Try.mixed Try.func20 (by kernel_rfl) h2

/-! ### riddle/riddlelaw0.LendBytes: function 13 -/
noncomputable def law0_LendBytes.body : Code := bodyOf Try.f13
def law0_LendBytes.live : Nat → List Nat
  | _ => []
@[reducible] def law0_LendBytes.vc (R : Value → World → Prop) (aA : Option Addr) (an : Nat) (ac : Nat) (w : World) : Prop :=
  Run Try.prog 20 #[(.slice aA an ac)] w fun v w_2 => ∃ (t5A : Option Addr) (t5n t5c : Nat), v = (.slice t5A t5n t5c) ∧ letW (w_2.alloc (.cells #[(.int .u8 201), (.int .u8 201), (.int .u8 201)] 5)) fun w_3 => ∃ (v_2 : Value) (w_4 : World), (Builtin.append_ #[23, 23] 23 #[(.slice t5A t5n t5c), (.slice (some (newA w_2)) 3 3)]).run Try.prog w_3 = .ok v_2 w_4 ∧ ∃ (t7A : Option Addr) (t7n t7c : Nat), v_2 = (.slice t7A t7n t7c) ∧ (0 : Int) ≤ 0 ∧ (0 : Int) ≤ ((an : Nat) : Int) ∧ (((an : Nat) : Int) : Int) ≤ ((t7c : Nat) : Int) ∧ R (.slice (subA t7A t7c 0 1) ((Int.toNat ((an : Nat) : Int)) - 0) (t7c - 0)) w_4

theorem law0_LendBytes.eq (R : Value → World → Prop) (aA : Option Addr) (an : Nat) (ac : Nat) (w : World) : fnVC Try.prog none law0_LendBytes.live Try.f13 R [(.slice aA an ac)] w = law0_LendBytes.vc R aA an ac w := by kernel_rfl
set_option maxHeartbeats 4000000 in
theorem law0_LendBytes.ok {R : Value → World → Prop} {aA : Option Addr} {an : Nat} {ac : Nat} {w : World} (h : law0_LendBytes.vc R aA an ac w) : Run Try.prog 13 #[(.slice aA an ac)] w R := by
  have h2 := Eq.mpr (law0_LendBytes.eq R aA an ac w) h
  exact fn_sound Try.mixed Try.func13 (by kernel_rfl) h2

/-! ### riddle/insn.test: function 56 -/
noncomputable def insn_test.body : Code := bodyOf Try.f56
def insn_test.live : Nat → List Nat
  | _ => []
def insn_test.J1 (R : Value → World → Prop) (w : World) : Prop :=
  R (.bool true) w

def insn_test.J2 (R : Value → World → Prop) (t9 : Bool) (w : World) : Prop :=
  ifP t9
    (insn_test.J1 R w)
    (R (.bool false) w)

def insn_test.J0 (R : Value → World → Prop) (t3 : Int) (t4 : Bool) (w : World) : Prop :=
  ifP t4
    (insn_test.J1 R w)
    (ifP ((t3 : Int) == 29)
    (insn_test.J2 R ((t3 : Int) == 29) w)
    (ifP ((t3 : Int) == 45)
    (insn_test.J2 R ((t3 : Int) == 45) w)
    (ifP ((t3 : Int) == 61)
    (insn_test.J2 R ((t3 : Int) == 61) w)
    (insn_test.J2 R ((t3 : Int) == 77) w))))

@[reducible] def insn_test.vc (R : Value → World → Prop) (code_ : Int) (w : World) : Prop :=
  ifP ((code_ : Int) == 21)
    (insn_test.J0 R code_ ((code_ : Int) == 21) w)
    (ifP ((code_ : Int) == 37)
    (insn_test.J0 R code_ ((code_ : Int) == 37) w)
    (ifP ((code_ : Int) == 53)
    (insn_test.J0 R code_ ((code_ : Int) == 53) w)
    (insn_test.J0 R code_ ((code_ : Int) == 69) w)))

theorem insn_test.eq (R : Value → World → Prop) (code_ : Int) (w : World) : fnVC Try.prog none insn_test.live Try.f56 R [(.int .u16 code_)] w = insn_test.vc R code_ w := by kernel_rfl
set_option maxHeartbeats 4000000 in
theorem insn_test.ok {R : Value → World → Prop} {code_ : Int} {w : World} (h : insn_test.vc R code_ w) : Run Try.prog 56 #[(.int .u16 code_)] w R := by
  have h2 := Eq.mpr (insn_test.eq R code_ w) h
  exact fn_sound Try.mixed Try.func56 (by kernel_rfl) h2

/-! ### riddle/insn.alu: function 83 -/
noncomputable def insn_alu.body : Code := bodyOf Try.f83
def insn_alu.live : Nat → List Nat
  | _ => []
def insn_alu.J1 (R : Value → World → Prop) (w : World) : Prop :=
  R (.bool true) w

def insn_alu.J2 (R : Value → World → Prop) (t3 : Int) (t15 : Bool) (w : World) : Prop :=
  ifP t15
    (insn_alu.J1 R w)
    (ifP ((t3 : Int) == 132)
    (insn_alu.J1 R w)
    (R (.bool false) w))

def insn_alu.J0 (R : Value → World → Prop) (t3 : Int) (t4 : Bool) (w : World) : Prop :=
  ifP t4
    (insn_alu.J1 R w)
    (ifP ((t3 : Int) == 12)
    (insn_alu.J2 R t3 ((t3 : Int) == 12) w)
    (ifP ((t3 : Int) == 28)
    (insn_alu.J2 R t3 ((t3 : Int) == 28) w)
    (ifP ((t3 : Int) == 44)
    (insn_alu.J2 R t3 ((t3 : Int) == 44) w)
    (ifP ((t3 : Int) == 60)
    (insn_alu.J2 R t3 ((t3 : Int) == 60) w)
    (ifP ((t3 : Int) == 76)
    (insn_alu.J2 R t3 ((t3 : Int) == 76) w)
    (ifP ((t3 : Int) == 92)
    (insn_alu.J2 R t3 ((t3 : Int) == 92) w)
    (ifP ((t3 : Int) == 108)
    (insn_alu.J2 R t3 ((t3 : Int) == 108) w)
    (ifP ((t3 : Int) == 124)
    (insn_alu.J2 R t3 ((t3 : Int) == 124) w)
    (ifP ((t3 : Int) == 156)
    (insn_alu.J2 R t3 ((t3 : Int) == 156) w)
    (insn_alu.J2 R t3 ((t3 : Int) == 172) w))))))))))

@[reducible] def insn_alu.vc (R : Value → World → Prop) (code_ : Int) (w : World) : Prop :=
  ifP ((code_ : Int) == 4)
    (insn_alu.J0 R code_ ((code_ : Int) == 4) w)
    (ifP ((code_ : Int) == 20)
    (insn_alu.J0 R code_ ((code_ : Int) == 20) w)
    (ifP ((code_ : Int) == 36)
    (insn_alu.J0 R code_ ((code_ : Int) == 36) w)
    (ifP ((code_ : Int) == 52)
    (insn_alu.J0 R code_ ((code_ : Int) == 52) w)
    (ifP ((code_ : Int) == 68)
    (insn_alu.J0 R code_ ((code_ : Int) == 68) w)
    (ifP ((code_ : Int) == 84)
    (insn_alu.J0 R code_ ((code_ : Int) == 84) w)
    (ifP ((code_ : Int) == 100)
    (insn_alu.J0 R code_ ((code_ : Int) == 100) w)
    (ifP ((code_ : Int) == 116)
    (insn_alu.J0 R code_ ((code_ : Int) == 116) w)
    (ifP ((code_ : Int) == 148)
    (insn_alu.J0 R code_ ((code_ : Int) == 148) w)
    (insn_alu.J0 R code_ ((code_ : Int) == 164) w)))))))))

theorem insn_alu.eq (R : Value → World → Prop) (code_ : Int) (w : World) : fnVC Try.prog none insn_alu.live Try.f83 R [(.int .u16 code_)] w = insn_alu.vc R code_ w := by kernel_rfl
set_option maxHeartbeats 4000000 in
theorem insn_alu.ok {R : Value → World → Prop} {code_ : Int} {w : World} (h : insn_alu.vc R code_ w) : Run Try.prog 83 #[(.int .u16 code_)] w R := by
  have h2 := Eq.mpr (insn_alu.eq R code_ w) h
  exact fn_sound Try.mixed Try.func83 (by kernel_rfl) h2

/-! ### riddle/insn.Known: function 54 -/
noncomputable def insn_Known.body : Code := bodyOf Try.f54
def insn_Known.live : Nat → List Nat
  | _ => []
def insn_Known.J1 (R : Value → World → Prop) (w : World) : Prop :=
  R (.bool true) w

def insn_Known.J4 (R : Value → World → Prop) (t2 : Bool) (w : World) : Prop :=
  R (.bool t2) w

def insn_Known.J3 (R : Value → World → Prop) (code_ : Int) (t19 : Bool) (w : World) : Prop :=
  ifP t19
    (insn_Known.J1 R w)
    (Run Try.prog 83 #[(.int .u16 code_)] w fun v w_2 => ∃ t28 : Bool, v = (.bool t28) ∧ ifP t28 (insn_Known.J4 R true w_2) (Run Try.prog 56 #[(.int .u16 code_)] w_2 fun v_2 w_3 => ∃ t31 : Bool, v_2 = (.bool t31) ∧ insn_Known.J4 R t31 w_3))

def insn_Known.J2 (R : Value → World → Prop) (code_ : Int) (t3 : Int) (t14 : Bool) (w : World) : Prop :=
  ifP t14
    (insn_Known.J1 R w)
    (ifP ((t3 : Int) == 2)
    (insn_Known.J3 R code_ ((t3 : Int) == 2) w)
    (ifP ((t3 : Int) == 3)
    (insn_Known.J3 R code_ ((t3 : Int) == 3) w)
    (ifP ((t3 : Int) == 6)
    (insn_Known.J3 R code_ ((t3 : Int) == 6) w)
    (ifP ((t3 : Int) == 22)
    (insn_Known.J3 R code_ ((t3 : Int) == 22) w)
    (ifP ((t3 : Int) == 7)
    (insn_Known.J3 R code_ ((t3 : Int) == 7) w)
    (ifP ((t3 : Int) == 135)
    (insn_Known.J3 R code_ ((t3 : Int) == 135) w)
    (insn_Known.J3 R code_ ((t3 : Int) == 5) w)))))))

def insn_Known.J0 (R : Value → World → Prop) (code_ : Int) (t3 : Int) (t4 : Bool) (w : World) : Prop :=
  ifP t4
    (insn_Known.J1 R w)
    (ifP ((t3 : Int) == 1)
    (insn_Known.J2 R code_ t3 ((t3 : Int) == 1) w)
    (ifP ((t3 : Int) == 97)
    (insn_Known.J2 R code_ t3 ((t3 : Int) == 97) w)
    (ifP ((t3 : Int) == 129)
    (insn_Known.J2 R code_ t3 ((t3 : Int) == 129) w)
    (insn_Known.J2 R code_ t3 ((t3 : Int) == 177) w))))

@[reducible] def insn_Known.vc (R : Value → World → Prop) (code_ : Int) (w : World) : Prop :=
  ifP ((code_ : Int) == 0)
    (insn_Known.J0 R code_ code_ ((code_ : Int) == 0) w)
    (ifP ((code_ : Int) == 32)
    (insn_Known.J0 R code_ code_ ((code_ : Int) == 32) w)
    (ifP ((code_ : Int) == 40)
    (insn_Known.J0 R code_ code_ ((code_ : Int) == 40) w)
    (ifP ((code_ : Int) == 48)
    (insn_Known.J0 R code_ code_ ((code_ : Int) == 48) w)
    (ifP ((code_ : Int) == 64)
    (insn_Known.J0 R code_ code_ ((code_ : Int) == 64) w)
    (ifP ((code_ : Int) == 72)
    (insn_Known.J0 R code_ code_ ((code_ : Int) == 72) w)
    (ifP ((code_ : Int) == 80)
    (insn_Known.J0 R code_ code_ ((code_ : Int) == 80) w)
    (ifP ((code_ : Int) == 96)
    (insn_Known.J0 R code_ code_ ((code_ : Int) == 96) w)
    (insn_Known.J0 R code_ code_ ((code_ : Int) == 128) w))))))))

theorem insn_Known.eq (R : Value → World → Prop) (code_ : Int) (w : World) : fnVC Try.prog none insn_Known.live Try.f54 R [(.int .u16 code_)] w = insn_Known.vc R code_ w := by kernel_rfl
set_option maxHeartbeats 4000000 in
theorem insn_Known.ok {R : Value → World → Prop} {code_ : Int} {w : World} (h : insn_Known.vc R code_ w) : Run Try.prog 54 #[(.int .u16 code_)] w R := by
  have h2 := Eq.mpr (insn_Known.eq R code_ w) h
  exact fn_sound Try.mixed Try.func54 (by kernel_rfl) h2

/-! ### riddle/insn.Class: function 51 -/
noncomputable def insn_Class.body : Code := bodyOf Try.f51
def insn_Class.live : Nat → List Nat
  | _ => []
@[reducible] def insn_Class.vc (R : Value → World → Prop) (code_ : Int) (w : World) : Prop :=
  Run Try.prog 54 #[(.int .u16 code_)] w fun v w_2 => ∃ t4 : Bool, v = (.bool t4) ∧ ifP (!t4)
    (R (.int .i64 (-1)) w_2)
    (R (.int .i64 (IntKind.i64.wrap (andI .u16 code_ 7))) w_2)

theorem insn_Class.eq (R : Value → World → Prop) (code_ : Int) (w : World) : fnVC Try.prog none insn_Class.live Try.f51 R [(.int .u16 code_)] w = insn_Class.vc R code_ w := by kernel_rfl
set_option maxHeartbeats 4000000 in
theorem insn_Class.ok {R : Value → World → Prop} {code_ : Int} {w : World} (h : insn_Class.vc R code_ w) : Run Try.prog 51 #[(.int .u16 code_)] w R := by
  have h2 := Eq.mpr (insn_Class.eq R code_ w) h
  exact fn_sound Try.mixed Try.func51 (by kernel_rfl) h2

/-! ### riddle/check.asked$1: function 86 -/
noncomputable def check_asked_1.body : Code := bodyOf Try.f86
def check_asked_1.live : Nat → List Nat
  | _ => []
@[reducible] def check_asked_1.vc (R : Value → World → Prop) (bad : Bool) (e : Int) (w : World) : Prop :=
  ifP bad
    (R (.int .i64 e) w)
    (R (.int .i64 0) w)

theorem check_asked_1.eq (R : Value → World → Prop) (bad : Bool) (e : Int) (w : World) : fnVC Try.prog none check_asked_1.live Try.f86 R [(.bool bad), (.int .i64 e)] w = check_asked_1.vc R bad e w := by kernel_rfl
set_option maxHeartbeats 4000000 in
theorem check_asked_1.ok {R : Value → World → Prop} {bad : Bool} {e : Int} {w : World} (h : check_asked_1.vc R bad e w) : Run Try.prog 86 #[(.bool bad), (.int .i64 e)] w R := by
  have h2 := Eq.mpr (check_asked_1.eq R bad e w) h
  exact fn_sound Try.mixed Try.func86 (by kernel_rfl) h2

/-! ### riddle/check.asked$2: function 87 -/
noncomputable def check_asked_2.body : Code := bodyOf Try.f87
def check_asked_2.live : Nat → List Nat
  | _ => []
def check_asked_2.J0 (R : Value → World → Prop) (t5 : Int) (w : World) : Prop :=
  R (.int .i64 t5) w

@[reducible] def check_asked_2.vc (R : Value → World → Prop) (at_ : Int) (i_0 : Int) (i_1 : Int) (i_2 : Int) (i_3 : Int) (t2 : Addr) (w : World) : Prop :=
  letW (w.alloc (.cells #[(.int .u16 i_0), (.int .u8 i_1), (.int .u8 i_2), (.int .u32 i_3)] 45)) fun w_2 => ∃ S_ : World → Prop, S_ w_2.drew ∧ letW w_2.drew fun w_3 => ∃ t6 : Value, (∀ u : World, S_ u → u.cell? t2 = some t6) ∧ ∃ t8 : Int, (∀ u_2 : World, S_ u_2 → u_2.cell? (newA w) = some (.int .u16 t8)) ∧ Run Try.prog 54 #[(.int .u16 t8)] w_3 fun v w_4 => ∃ t9 : Bool, v = (.bool t9) ∧ S_ w_4 ∧ ∃ (g : FuncId) (fs cs : Array Value), t6 = .func (.func g) fs cs ∧ okCall Try.prog g = true ∧ Run Try.prog g (fs ++ #[(.bool (!t9)), (.int .i64 42)] ++ cs) w_4 fun v_2 w_5 => ∃ t11 : Int, v_2 = (.int .i64 t11) ∧ check_asked_2.J0 R t11 w_5

theorem check_asked_2.eq (R : Value → World → Prop) (at_ : Int) (i_0 : Int) (i_1 : Int) (i_2 : Int) (i_3 : Int) (t2 : Addr) (w : World) : fnVC Try.prog none check_asked_2.live Try.f87 R [(.int .i64 at_), (.agg #[(.int .u16 i_0), (.int .u8 i_1), (.int .u8 i_2), (.int .u32 i_3)]), (.pointer (some t2))] w = check_asked_2.vc R at_ i_0 i_1 i_2 i_3 t2 w := by kernel_rfl
set_option maxHeartbeats 4000000 in
theorem check_asked_2.ok {R : Value → World → Prop} {at_ : Int} {i_0 : Int} {i_1 : Int} {i_2 : Int} {i_3 : Int} {t2 : Addr} {w : World} (h : check_asked_2.vc R at_ i_0 i_1 i_2 i_3 t2 w) : Run Try.prog 87 #[(.int .i64 at_), (.agg #[(.int .u16 i_0), (.int .u8 i_1), (.int .u8 i_2), (.int .u32 i_3)]), (.pointer (some t2))] w R := by
  have h2 := Eq.mpr (check_asked_2.eq R at_ i_0 i_1 i_2 i_3 t2 w) h
  exact fn_sound Try.mixed Try.func87 (by kernel_rfl) h2

/-! ### riddle/check.words: function 89 -/
noncomputable def check_words.body : Code := bodyOf Try.f89
def check_words.live : Nat → List Nat
  | _ => []
def check_words.J0 (R : Value → World → Prop) (t2 : Bool) (w : World) : Prop :=
  R (.bool t2) w

@[reducible] def check_words.vc (R : Value → World → Prop) (code_ : Int) (w : World) : Prop :=
  ifP ((code_ : Int) == 2) (check_words.J0 R true w) (ifP ((code_ : Int) == 3) (check_words.J0 R true w) (ifP ((code_ : Int) == 96) (check_words.J0 R true w) (check_words.J0 R ((code_ : Int) == 97) w)))

theorem check_words.eq (R : Value → World → Prop) (code_ : Int) (w : World) : fnVC Try.prog none check_words.live Try.f89 R [(.int .u16 code_)] w = check_words.vc R code_ w := by kernel_rfl
set_option maxHeartbeats 4000000 in
theorem check_words.ok {R : Value → World → Prop} {code_ : Int} {w : World} (h : check_words.vc R code_ w) : Run Try.prog 89 #[(.int .u16 code_)] w R := by
  have h2 := Eq.mpr (check_words.eq R code_ w) h
  exact fn_sound Try.mixed Try.func89 (by kernel_rfl) h2

/-! ### riddle/check.asked$3: function 88 -/
noncomputable def check_asked_3.body : Code := bodyOf Try.f88
def check_asked_3.live : Nat → List Nat
  | _ => []
def check_asked_3.J0 (R : Value → World → Prop) (t5 : Int) (w : World) : Prop :=
  R (.int .i64 t5) w

@[reducible] def check_asked_3.vc (R : Value → World → Prop) (at_ : Int) (i_0 : Int) (i_1 : Int) (i_2 : Int) (i_3 : Int) (t2 : Addr) (w : World) : Prop :=
  letW (w.alloc (.cells #[(.int .u16 i_0), (.int .u8 i_1), (.int .u8 i_2), (.int .u32 i_3)] 45)) fun w_2 => ∃ S_ : World → Prop, S_ w_2.drew ∧ letW w_2.drew fun w_3 => ∃ t6 : Value, (∀ u : World, S_ u → u.cell? t2 = some t6) ∧ ∃ t8 : Int, (∀ u_2 : World, S_ u_2 → u_2.cell? (newA w) = some (.int .u16 t8)) ∧ Run Try.prog 89 #[(.int .u16 t8)] w_3 fun v w_4 => ∃ t9 : Bool, v = (.bool t9) ∧ S_ w_4 ∧ ifP t9 (∃ t12 : Int, (∀ u_3 : World, S_ u_3 → u_3.cell? ((newA w).add 3) = some (.int .u32 t12)) ∧ ∃ (g : FuncId) (fs cs : Array Value), t6 = .func (.func g) fs cs ∧ okCall Try.prog g = true ∧ Run Try.prog g (fs ++ #[(.bool (decide ((t12 : Int) ≥ 16))), (.int .i64 43)] ++ cs) w_4 fun v_2 w_5 => ∃ t15 : Int, v_2 = (.int .i64 t15) ∧ check_asked_3.J0 R t15 w_5) (∃ (g_2 : FuncId) (fs_2 cs_2 : Array Value), t6 = .func (.func g_2) fs_2 cs_2 ∧ okCall Try.prog g_2 = true ∧ Run Try.prog g_2 (fs_2 ++ #[(.bool false), (.int .i64 43)] ++ cs_2) w_4 fun v_3 w_6 => ∃ t15_2 : Int, v_3 = (.int .i64 t15_2) ∧ check_asked_3.J0 R t15_2 w_6)

theorem check_asked_3.eq (R : Value → World → Prop) (at_ : Int) (i_0 : Int) (i_1 : Int) (i_2 : Int) (i_3 : Int) (t2 : Addr) (w : World) : fnVC Try.prog none check_asked_3.live Try.f88 R [(.int .i64 at_), (.agg #[(.int .u16 i_0), (.int .u8 i_1), (.int .u8 i_2), (.int .u32 i_3)]), (.pointer (some t2))] w = check_asked_3.vc R at_ i_0 i_1 i_2 i_3 t2 w := by kernel_rfl
set_option maxHeartbeats 4000000 in
theorem check_asked_3.ok {R : Value → World → Prop} {at_ : Int} {i_0 : Int} {i_1 : Int} {i_2 : Int} {i_3 : Int} {t2 : Addr} {w : World} (h : check_asked_3.vc R at_ i_0 i_1 i_2 i_3 t2 w) : Run Try.prog 88 #[(.int .i64 at_), (.agg #[(.int .u16 i_0), (.int .u8 i_1), (.int .u8 i_2), (.int .u32 i_3)]), (.pointer (some t2))] w R := by
  have h2 := Eq.mpr (check_asked_3.eq R at_ i_0 i_1 i_2 i_3 t2 w) h
  exact fn_sound Try.mixed Try.func88 (by kernel_rfl) h2

/-! ### riddle/check.asked$4: function 90 -/
noncomputable def check_asked_4.body : Code := bodyOf Try.f90
def check_asked_4.live : Nat → List Nat
  | _ => []
def check_asked_4.J0 (R : Value → World → Prop) (t5 : Int) (w : World) : Prop :=
  R (.int .i64 t5) w

@[reducible] def check_asked_4.vc (R : Value → World → Prop) (at_ : Int) (i_0 : Int) (i_1 : Int) (i_2 : Int) (i_3 : Int) (t2 : Addr) (w : World) : Prop :=
  letW (w.alloc (.cells #[(.int .u16 i_0), (.int .u8 i_1), (.int .u8 i_2), (.int .u32 i_3)] 45)) fun w_2 => ∃ t6 : Value, w_2.cell? t2 = some t6 ∧ ∃ t8 : Int, w_2.cell? (newA w) = some (.int .u16 t8) ∧ ifP ((t8 : Int) == 52) (∃ t17 : Int, w_2.cell? ((newA w).add 3) = some (.int .u32 t17) ∧ ∃ (g : FuncId) (fs cs : Array Value), t6 = .func (.func g) fs cs ∧ okCall Try.prog g = true ∧ Run Try.prog g (fs ++ #[(.bool ((t17 : Int) == 0)), (.int .i64 44)] ++ cs) w_2 fun v w_3 => ∃ t20 : Int, v = (.int .i64 t20) ∧ check_asked_4.J0 R t20 w_3) (∃ t12 : Int, w_2.cell? (newA w) = some (.int .u16 t12) ∧ ifP ((t12 : Int) == 148) (∃ t17_2 : Int, w_2.cell? ((newA w).add 3) = some (.int .u32 t17_2) ∧ ∃ (g_2 : FuncId) (fs_2 cs_2 : Array Value), t6 = .func (.func g_2) fs_2 cs_2 ∧ okCall Try.prog g_2 = true ∧ Run Try.prog g_2 (fs_2 ++ #[(.bool ((t17_2 : Int) == 0)), (.int .i64 44)] ++ cs_2) w_2 fun v_2 w_4 => ∃ t20_2 : Int, v_2 = (.int .i64 t20_2) ∧ check_asked_4.J0 R t20_2 w_4) (∃ (g_3 : FuncId) (fs_3 cs_3 : Array Value), t6 = .func (.func g_3) fs_3 cs_3 ∧ okCall Try.prog g_3 = true ∧ Run Try.prog g_3 (fs_3 ++ #[(.bool false), (.int .i64 44)] ++ cs_3) w_2 fun v_3 w_5 => ∃ t20_3 : Int, v_3 = (.int .i64 t20_3) ∧ check_asked_4.J0 R t20_3 w_5))

theorem check_asked_4.eq (R : Value → World → Prop) (at_ : Int) (i_0 : Int) (i_1 : Int) (i_2 : Int) (i_3 : Int) (t2 : Addr) (w : World) : fnVC Try.prog none check_asked_4.live Try.f90 R [(.int .i64 at_), (.agg #[(.int .u16 i_0), (.int .u8 i_1), (.int .u8 i_2), (.int .u32 i_3)]), (.pointer (some t2))] w = check_asked_4.vc R at_ i_0 i_1 i_2 i_3 t2 w := by kernel_rfl
set_option maxHeartbeats 4000000 in
theorem check_asked_4.ok {R : Value → World → Prop} {at_ : Int} {i_0 : Int} {i_1 : Int} {i_2 : Int} {i_3 : Int} {t2 : Addr} {w : World} (h : check_asked_4.vc R at_ i_0 i_1 i_2 i_3 t2 w) : Run Try.prog 90 #[(.int .i64 at_), (.agg #[(.int .u16 i_0), (.int .u8 i_1), (.int .u8 i_2), (.int .u32 i_3)]), (.pointer (some t2))] w R := by
  have h2 := Eq.mpr (check_asked_4.eq R at_ i_0 i_1 i_2 i_3 t2 w) h
  exact fn_sound Try.mixed Try.func90 (by kernel_rfl) h2

/-! ### riddle/check.asked$5: function 91 -/
noncomputable def check_asked_5.body : Code := bodyOf Try.f91
def check_asked_5.live : Nat → List Nat
  | _ => []
def check_asked_5.J0 (R : Value → World → Prop) (t5 : Int) (w : World) : Prop :=
  R (.int .i64 t5) w

@[reducible] def check_asked_5.vc (R : Value → World → Prop) (at_ : Int) (i_0 : Int) (i_1 : Int) (i_2 : Int) (i_3 : Int) (t2 : Addr) (w : World) : Prop :=
  letW (w.alloc (.cells #[(.int .u16 i_0), (.int .u8 i_1), (.int .u8 i_2), (.int .u32 i_3)] 45)) fun w_2 => ∃ t6 : Value, w_2.cell? t2 = some t6 ∧ ∃ t8 : Int, w_2.cell? (newA w) = some (.int .u16 t8) ∧ ifP ((t8 : Int) == 100) (∃ t17 : Int, w_2.cell? ((newA w).add 3) = some (.int .u32 t17) ∧ ∃ (g : FuncId) (fs cs : Array Value), t6 = .func (.func g) fs cs ∧ okCall Try.prog g = true ∧ Run Try.prog g (fs ++ #[(.bool (decide ((t17 : Int) > 31))), (.int .i64 45)] ++ cs) w_2 fun v w_3 => ∃ t20 : Int, v = (.int .i64 t20) ∧ check_asked_5.J0 R t20 w_3) (∃ t12 : Int, w_2.cell? (newA w) = some (.int .u16 t12) ∧ ifP ((t12 : Int) == 116) (∃ t17_2 : Int, w_2.cell? ((newA w).add 3) = some (.int .u32 t17_2) ∧ ∃ (g_2 : FuncId) (fs_2 cs_2 : Array Value), t6 = .func (.func g_2) fs_2 cs_2 ∧ okCall Try.prog g_2 = true ∧ Run Try.prog g_2 (fs_2 ++ #[(.bool (decide ((t17_2 : Int) > 31))), (.int .i64 45)] ++ cs_2) w_2 fun v_2 w_4 => ∃ t20_2 : Int, v_2 = (.int .i64 t20_2) ∧ check_asked_5.J0 R t20_2 w_4) (∃ (g_3 : FuncId) (fs_3 cs_3 : Array Value), t6 = .func (.func g_3) fs_3 cs_3 ∧ okCall Try.prog g_3 = true ∧ Run Try.prog g_3 (fs_3 ++ #[(.bool false), (.int .i64 45)] ++ cs_3) w_2 fun v_3 w_5 => ∃ t20_3 : Int, v_3 = (.int .i64 t20_3) ∧ check_asked_5.J0 R t20_3 w_5))

theorem check_asked_5.eq (R : Value → World → Prop) (at_ : Int) (i_0 : Int) (i_1 : Int) (i_2 : Int) (i_3 : Int) (t2 : Addr) (w : World) : fnVC Try.prog none check_asked_5.live Try.f91 R [(.int .i64 at_), (.agg #[(.int .u16 i_0), (.int .u8 i_1), (.int .u8 i_2), (.int .u32 i_3)]), (.pointer (some t2))] w = check_asked_5.vc R at_ i_0 i_1 i_2 i_3 t2 w := by kernel_rfl
set_option maxHeartbeats 4000000 in
theorem check_asked_5.ok {R : Value → World → Prop} {at_ : Int} {i_0 : Int} {i_1 : Int} {i_2 : Int} {i_3 : Int} {t2 : Addr} {w : World} (h : check_asked_5.vc R at_ i_0 i_1 i_2 i_3 t2 w) : Run Try.prog 91 #[(.int .i64 at_), (.agg #[(.int .u16 i_0), (.int .u8 i_1), (.int .u8 i_2), (.int .u32 i_3)]), (.pointer (some t2))] w R := by
  have h2 := Eq.mpr (check_asked_5.eq R at_ i_0 i_1 i_2 i_3 t2 w) h
  exact fn_sound Try.mixed Try.func91 (by kernel_rfl) h2

/-! ### riddle/check.astray: function 93 -/
noncomputable def check_astray.body : Code := bodyOf Try.f93
def check_astray.live : Nat → List Nat
  | _ => []
def check_astray.J0 (R : Value → World → Prop) (t4 : Bool) (w : World) : Prop :=
  R (.bool t4) w

@[reducible] def check_astray.vc (R : Value → World → Prop) (i_0 : Int) (i_1 : Int) (i_2 : Int) (i_3 : Int) (left : Int) (w : World) : Prop :=
  letW (w.alloc (.cells #[(.int .u16 i_0), (.int .u8 i_1), (.int .u8 i_2), (.int .u32 i_3)] 45)) fun w_2 => ∃ t6 : Int, w_2.cell? (newA w) = some (.int .u16 t6) ∧ Run Try.prog 51 #[(.int .u16 t6)] w_2 fun v w_3 => ∃ t7 : Int, v = (.int .i64 t7) ∧ ifP ((t7 : Int) != 5)
    (R (.bool false) w_3)
    (∃ t10 : Int, w_3.cell? (newA w) = some (.int .u16 t10) ∧ ifP ((t10 : Int) == 5)
    (∃ t13 : Int, w_3.cell? ((newA w).add 3) = some (.int .u32 t13) ∧ R (.bool (decide ((IntKind.u64.wrap t13 : Int) ≥ (IntKind.u64.wrap left)))) w_3)
    (∃ t19 : Int, w_3.cell? ((newA w).add 1) = some (.int .u8 t19) ∧ ifP (decide ((IntKind.i64.wrap t19 : Int) ≥ left)) (check_astray.J0 R true w_3) (∃ t25 : Int, w_3.cell? ((newA w).add 2) = some (.int .u8 t25) ∧ check_astray.J0 R (decide ((IntKind.i64.wrap t25 : Int) ≥ left)) w_3)))

theorem check_astray.eq (R : Value → World → Prop) (i_0 : Int) (i_1 : Int) (i_2 : Int) (i_3 : Int) (left : Int) (w : World) : fnVC Try.prog none check_astray.live Try.f93 R [(.agg #[(.int .u16 i_0), (.int .u8 i_1), (.int .u8 i_2), (.int .u32 i_3)]), (.int .i64 left)] w = check_astray.vc R i_0 i_1 i_2 i_3 left w := by kernel_rfl
set_option maxHeartbeats 4000000 in
theorem check_astray.ok {R : Value → World → Prop} {i_0 : Int} {i_1 : Int} {i_2 : Int} {i_3 : Int} {left : Int} {w : World} (h : check_astray.vc R i_0 i_1 i_2 i_3 left w) : Run Try.prog 93 #[(.agg #[(.int .u16 i_0), (.int .u8 i_1), (.int .u8 i_2), (.int .u32 i_3)]), (.int .i64 left)] w R := by
  have h2 := Eq.mpr (check_astray.eq R i_0 i_1 i_2 i_3 left w) h
  exact fn_sound Try.mixed Try.func93 (by kernel_rfl) h2

/-! ### riddle/check.asked$6: function 92 -/
noncomputable def check_asked_6.body : Code := bodyOf Try.f92
def check_asked_6.live : Nat → List Nat
  | _ => []
def check_asked_6.J0 (R : Value → World → Prop) (t6 : Int) (w : World) : Prop :=
  R (.int .i64 t6) w

@[reducible] def check_asked_6.vc (R : Value → World → Prop) (at_ : Int) (i_0 : Int) (i_1 : Int) (i_2 : Int) (i_3 : Int) (t2 : Addr) (t3 : Addr) (w : World) : Prop :=
  letW (w.alloc (.cells #[(.int .u16 i_0), (.int .u8 i_1), (.int .u8 i_2), (.int .u32 i_3)] 45)) fun w_2 => ∃ S_ : World → Prop, S_ w_2.drew ∧ letW w_2.drew fun w_3 => ∃ t7 : Value, (∀ u : World, S_ u → u.cell? t2 = some t7) ∧ ∃ t8_0 : Int, (∀ u_2 : World, S_ u_2 → u_2.cell? (newA w) = some (.int .u16 t8_0)) ∧ ∃ t8_1 : Int, (∀ u_3 : World, S_ u_3 → u_3.cell? ((newA w).add 1) = some (.int .u8 t8_1)) ∧ ∃ t8_2 : Int, (∀ u_4 : World, S_ u_4 → u_4.cell? ((newA w).add 2) = some (.int .u8 t8_2)) ∧ ∃ t8_3 : Int, (∀ u_5 : World, S_ u_5 → u_5.cell? ((newA w).add 3) = some (.int .u32 t8_3)) ∧ ∃ t9 : Int, (∀ u_6 : World, S_ u_6 → u_6.cell? t3 = some (.int .i64 t9)) ∧ Run Try.prog 93 #[(.agg #[(.int .u16 t8_0), (.int .u8 t8_1), (.int .u8 t8_2), (.int .u32 t8_3)]), (.int .i64 (IntKind.i64.wrap ((IntKind.i64.wrap (t9 - 1)) - at_)))] w_3 fun v w_4 => ∃ t13 : Bool, v = (.bool t13) ∧ S_ w_4 ∧ ∃ (g : FuncId) (fs cs : Array Value), t7 = .func (.func g) fs cs ∧ okCall Try.prog g = true ∧ Run Try.prog g (fs ++ #[(.bool t13), (.int .i64 46)] ++ cs) w_4 fun v_2 w_5 => ∃ t14 : Int, v_2 = (.int .i64 t14) ∧ check_asked_6.J0 R t14 w_5

theorem check_asked_6.eq (R : Value → World → Prop) (at_ : Int) (i_0 : Int) (i_1 : Int) (i_2 : Int) (i_3 : Int) (t2 : Addr) (t3 : Addr) (w : World) : fnVC Try.prog none check_asked_6.live Try.f92 R [(.int .i64 at_), (.agg #[(.int .u16 i_0), (.int .u8 i_1), (.int .u8 i_2), (.int .u32 i_3)]), (.pointer (some t2)), (.pointer (some t3))] w = check_asked_6.vc R at_ i_0 i_1 i_2 i_3 t2 t3 w := by kernel_rfl
set_option maxHeartbeats 4000000 in
theorem check_asked_6.ok {R : Value → World → Prop} {at_ : Int} {i_0 : Int} {i_1 : Int} {i_2 : Int} {i_3 : Int} {t2 : Addr} {t3 : Addr} {w : World} (h : check_asked_6.vc R at_ i_0 i_1 i_2 i_3 t2 t3 w) : Run Try.prog 92 #[(.int .i64 at_), (.agg #[(.int .u16 i_0), (.int .u8 i_1), (.int .u8 i_2), (.int .u32 i_3)]), (.pointer (some t2)), (.pointer (some t3))] w R := by
  have h2 := Eq.mpr (check_asked_6.eq R at_ i_0 i_1 i_2 i_3 t2 t3 w) h
  exact fn_sound Try.mixed Try.func92 (by kernel_rfl) h2

/-! ### riddle/check.asked: function 62 -/
noncomputable def check_asked.body : Code := bodyOf Try.f62
def check_asked.live : Nat → List Nat
  | _ => []
@[reducible] def check_asked.vc (R : Value → World → Prop) (n : Int) (w : World) : Prop :=
  letW (w.alloc (.cells #[(.int .i64 n)] 3)) fun w_2 => letW (w_2.alloc (.cells #[.nilFunc] 109)) fun w_3 => (∃ u : Value, w_3.cell? (newA w_2) = some u) ∧ w_3.frozen? (newA w_2) = false ∧ letW (w_3.setCell (newA w_2) (.func (.func 86) #[] #[])) fun w_4 => letW (w_4.alloc (.cells #[(.func (.func 87) #[] #[(.pointer (some (newA w_2)))]), (.func (.func 88) #[] #[(.pointer (some (newA w_2)))]), (.func (.func 90) #[] #[(.pointer (some (newA w_2)))]), (.func (.func 91) #[] #[(.pointer (some (newA w_2)))]), (.func (.func 92) #[] #[(.pointer (some (newA w_2))), (.pointer (some (newA w)))])] 105)) fun w_5 => R (.slice (some (newA w_4)) 5 5) w_5

theorem check_asked.eq (R : Value → World → Prop) (n : Int) (w : World) : fnVC Try.prog none check_asked.live Try.f62 R [(.int .i64 n)] w = check_asked.vc R n w := by kernel_rfl
set_option maxHeartbeats 4000000 in
theorem check_asked.ok {R : Value → World → Prop} {n : Int} {w : World} (h : check_asked.vc R n w) : Run Try.prog 62 #[(.int .i64 n)] w R := by
  have h2 := Eq.mpr (check_asked.eq R n w) h
  exact fn_sound Try.mixed Try.func62 (by kernel_rfl) h2

/-! ### riddle/check.Check: function 49 -/
noncomputable def check_Check.body : Code := bodyOf Try.f49
def check_Check.live : Nat → List Nat
  | 0 => [0, 4, 5, 6, 21, 22, 23]
  | 2 => [0, 4, 5, 6, 7, 8, 21, 22, 23, 28, 29, 30]
  | _ => []
noncomputable def check_Check.c0 : Code := sub check_Check.body [1, 0, 1, 1, 1, 1, 1, 0, 1, 0, 0]
noncomputable def check_Check.c2 : Code := sub check_Check.body [1, 0, 1, 1, 1, 1, 1, 0, 1, 0, 0, 1, 1, 0, 0, 1, 1, 0, 0]
def check_Check.K0 (R : Value → World → Prop) : Ex → St → World → Prop := (blockK 0 (thenK (fun st w => code Try.prog none check_Check.live 0 (sub check_Check.body [1, 0, 1, 1, 1, 1, 1, 1]) (retK Try.prog Try.f49 R) st w) (retK Try.prog Try.f49 R)))
def check_Check.L0 (R : Value → World → Prop) (pA : Option Addr) (pn : Nat) (pc : Nat) (asksA : Option Addr) (asksn : Nat) (asksc : Nat) (place : Int) (e : Int) (t21A : Option Addr) (t21n : Nat) (t21c : Nat) (t22 : Int) (t23 : Int) (w : World) : Prop :=
  loopVC (fun K => code Try.prog none check_Check.live 0 check_Check.c0 K) (check_Check.live 0) (check_Check.K0 R) [(.slice pA pn pc), undef, undef, undef, (.slice asksA asksn asksc), (.int .i64 place), (.int .i64 e), undef, undef, undef, undef, undef, undef, undef, undef, undef, undef, undef, undef, undef, undef, (.slice t21A t21n t21c), (.int .i64 t22), (.int .i64 t23), undef, undef, undef, undef, undef, undef, undef, undef, undef, undef, undef, undef, undef, undef, undef, undef, undef, undef, undef, undef, undef, undef, undef, undef, undef, undef, undef, undef, undef, undef, undef, undef, undef, undef, undef, undef] w
def check_Check.K2 (R : Value → World → Prop) : Ex → St → World → Prop := (blockK 2 (blockK 1 (thenK (fun st w => code Try.prog none check_Check.live 0 (sub check_Check.body [1, 0, 1, 1, 1, 1, 1, 0, 1, 0, 0, 1, 1, 1]) (thenK (fun st w => loopVC (fun K => code Try.prog none check_Check.live 0 check_Check.c0 K) (check_Check.live 0) (check_Check.K0 R) (clearFrom (check_Check.live 0) 0 st) w) (check_Check.K0 R)) st w) (thenK (fun st w => loopVC (fun K => code Try.prog none check_Check.live 0 check_Check.c0 K) (check_Check.live 0) (check_Check.K0 R) (clearFrom (check_Check.live 0) 0 st) w) (check_Check.K0 R)))))
def check_Check.L2 (R : Value → World → Prop) (pA : Option Addr) (pn : Nat) (pc : Nat) (asksA : Option Addr) (asksn : Nat) (asksc : Nat) (place : Int) (e : Int) (at_ : Int) (i : Addr) (t21A : Option Addr) (t21n : Nat) (t21c : Nat) (t22 : Int) (t23 : Int) (t28A : Option Addr) (t28n : Nat) (t28c : Nat) (t29 : Int) (t30 : Int) (w : World) : Prop :=
  loopVC (fun K => code Try.prog none check_Check.live 2 check_Check.c2 K) (check_Check.live 2) (check_Check.K2 R) [(.slice pA pn pc), undef, undef, undef, (.slice asksA asksn asksc), (.int .i64 place), (.int .i64 e), (.int .i64 at_), (.pointer (some i)), undef, undef, undef, undef, undef, undef, undef, undef, undef, undef, undef, undef, (.slice t21A t21n t21c), (.int .i64 t22), (.int .i64 t23), undef, undef, undef, undef, (.slice t28A t28n t28c), (.int .i64 t29), (.int .i64 t30), undef, undef, undef, undef, undef, undef, undef, undef, undef, undef, undef, undef, undef, undef, undef, undef, undef, undef, undef, undef, undef, undef, undef, undef, undef, undef, undef, undef, undef] w
def check_Check.J1 (R : Value → World → Prop) (place : Int) (e : Int) (last : Int) (t56 : Bool) (w : World) : Prop :=
  ifP t56
    (R (.tuple #[(.int .i64 last), (.int .i64 47)]) w)
    (R (.tuple #[(.int .i64 place), (.int .i64 e)]) w)

def check_Check.J0 (R : Value → World → Prop) (pA : Option Addr) (pn : Nat) (pc : Nat) (place : Int) (e : Int) (w : World) : Prop :=
  ifP ((e : Int) == 0) (0 ≤ (IntKind.i64.wrap (((pn : Nat) : Int) - 1) : Int) ∧ (IntKind.i64.wrap (((pn : Nat) : Int) - 1) : Int) < ((pn : Nat) : Int) ∧ ∃ t51p : Addr, pA = some t51p ∧ ∃ t53 : Int, w.cell? (t51p.add (Int.toNat (IntKind.i64.wrap (((pn : Nat) : Int) - 1)) * 4)) = some (.int .u16 t53) ∧ Run Try.prog 51 #[(.int .u16 t53)] w fun v w_2 => ∃ t54 : Int, v = (.int .i64 t54) ∧ check_Check.J1 R place e (IntKind.i64.wrap (((pn : Nat) : Int) - 1)) ((t54 : Int) != 6) w_2) (check_Check.J1 R place e (IntKind.i64.wrap (((pn : Nat) : Int) - 1)) false w)

@[reducible] def check_Check.B2 (R : Value → World → Prop) (pA : Option Addr) (pn : Nat) (pc : Nat) (asksA : Option Addr) (asksn : Nat) (asksc : Nat) (place : Int) (e : Int) (at_ : Int) (i : Addr) (t21A : Option Addr) (t21n : Nat) (t21c : Nat) (t22 : Int) (t23 : Int) (t28A : Option Addr) (t28n : Nat) (t28c : Nat) (t29 : Int) (t30 : Int) (w : World) : Prop :=
  ifP (decide ((t30 : Int) < t29))
    (0 ≤ (t30 : Int) ∧ (t30 : Int) < ((t28n : Nat) : Int) ∧ ∃ t32p : Addr, t28A = some t32p ∧ ∃ t33 : Value, w.cell? (t32p.add (Int.toNat t30 * 1)) = some t33 ∧ ∃ t36_0 : Int, w.cell? i = some (.int .u16 t36_0) ∧ ∃ t36_1 : Int, w.cell? (i.add 1) = some (.int .u8 t36_1) ∧ ∃ t36_2 : Int, w.cell? (i.add 2) = some (.int .u8 t36_2) ∧ ∃ t36_3 : Int, w.cell? (i.add 3) = some (.int .u32 t36_3) ∧ ∃ (g : FuncId) (fs cs : Array Value), t33 = .func (.func g) fs cs ∧ okCall Try.prog g = true ∧ Run Try.prog g (fs ++ #[(.int .i64 at_), (.agg #[(.int .u16 t36_0), (.int .u8 t36_1), (.int .u8 t36_2), (.int .u32 t36_3)])] ++ cs) w fun v w_2 => ∃ t37 : Int, v = (.int .i64 t37) ∧ ifP ((t37 : Int) != 0)
    (check_Check.J0 R pA pn pc at_ t37 w_2)
    (check_Check.L2 R pA pn pc asksA asksn asksc place t37 at_ i t21A t21n t21c t22 t23 t28A t28n t28c t29 (IntKind.i64.wrap (t30 + 1)) w_2))
    (check_Check.L0 R pA pn pc asksA asksn asksc place e t21A t21n t21c t22 (IntKind.i64.wrap (t23 + 1)) w)

@[reducible] def check_Check.B0 (R : Value → World → Prop) (pA : Option Addr) (pn : Nat) (pc : Nat) (asksA : Option Addr) (asksn : Nat) (asksc : Nat) (place : Int) (e : Int) (t21A : Option Addr) (t21n : Nat) (t21c : Nat) (t22 : Int) (t23 : Int) (w : World) : Prop :=
  ifP (decide ((t23 : Int) < t22))
    (0 ≤ (t23 : Int) ∧ (t23 : Int) < ((t21n : Nat) : Int) ∧ ∃ t26p : Addr, t21A = some t26p ∧ ∃ t27_0 : Int, w.cell? (t26p.add (Int.toNat t23 * 4)) = some (.int .u16 t27_0) ∧ ∃ t27_1 : Int, w.cell? ((t26p.add (Int.toNat t23 * 4)).add 1) = some (.int .u8 t27_1) ∧ ∃ t27_2 : Int, w.cell? ((t26p.add (Int.toNat t23 * 4)).add 2) = some (.int .u8 t27_2) ∧ ∃ t27_3 : Int, w.cell? ((t26p.add (Int.toNat t23 * 4)).add 3) = some (.int .u32 t27_3) ∧ letW (w.alloc (.cells #[(.int .u16 0), (.int .u8 0), (.int .u8 0), (.int .u32 0)] 45)) fun w_2 => storeRow (newA w) 0 [(.int .u16 t27_0), (.int .u8 t27_1), (.int .u8 t27_2), (.int .u32 t27_3)] w_2 fun w_3 => check_Check.L2 R pA pn pc asksA asksn asksc place e t23 (newA w) t21A t21n t21c t22 t23 asksA asksn asksc ((asksn : Nat) : Int) 0 w_3)
    (check_Check.J0 R pA pn pc place e w)

@[reducible] def check_Check.vc (R : Value → World → Prop) (pA : Option Addr) (pn : Nat) (pc : Nat) (w : World) : Prop :=
  ifP ((((pn : Nat) : Int) : Int) == 0)
    (R (.tuple #[(.int .i64 0), (.int .i64 40)]) w)
    (ifP (decide ((((pn : Nat) : Int) : Int) > 4096))
    (R (.tuple #[(.int .i64 4096), (.int .i64 41)]) w)
    (Run Try.prog 62 #[(.int .i64 ((pn : Nat) : Int))] w fun v w_2 => ∃ (t20A : Option Addr) (t20n t20c : Nat), v = (.slice t20A t20n t20c) ∧ check_Check.L0 R pA pn pc t20A t20n t20c 0 0 pA pn pc ((pn : Nat) : Int) 0 w_2))

theorem check_Check.B0_eq (R : Value → World → Prop) (pA : Option Addr) (pn : Nat) (pc : Nat) (asksA : Option Addr) (asksn : Nat) (asksc : Nat) (place : Int) (e : Int) (t21A : Option Addr) (t21n : Nat) (t21c : Nat) (t22 : Int) (t23 : Int) (w : World) (ts : Nat → Value) :
    code Try.prog none check_Check.live 0 check_Check.c0 (thenK (fun st w => loopVC (fun K => code Try.prog none check_Check.live 0 check_Check.c0 K) (check_Check.live 0) (check_Check.K0 R) (clearFrom (check_Check.live 0) 0 st) w) (check_Check.K0 R)) (mergeFrom (check_Check.live 0) ts 0 (clearFrom (check_Check.live 0) 0 [(.slice pA pn pc), undef, undef, undef, (.slice asksA asksn asksc), (.int .i64 place), (.int .i64 e), undef, undef, undef, undef, undef, undef, undef, undef, undef, undef, undef, undef, undef, undef, (.slice t21A t21n t21c), (.int .i64 t22), (.int .i64 t23), undef, undef, undef, undef, undef, undef, undef, undef, undef, undef, undef, undef, undef, undef, undef, undef, undef, undef, undef, undef, undef, undef, undef, undef, undef, undef, undef, undef, undef, undef, undef, undef, undef, undef, undef, undef])) w = check_Check.B0 R pA pn pc asksA asksn asksc place e t21A t21n t21c t22 t23 w := by kernel_rfl
theorem check_Check.L0_step {R : Value → World → Prop} {pA : Option Addr} {pn : Nat} {pc : Nat} {asksA : Option Addr} {asksn : Nat} {asksc : Nat} {place : Int} {e : Int} {t21A : Option Addr} {t21n : Nat} {t21c : Nat} {t22 : Int} {t23 : Int} {w : World} (h : check_Check.B0 R pA pn pc asksA asksn asksc place e t21A t21n t21c t22 t23 w) : check_Check.L0 R pA pn pc asksA asksn asksc place e t21A t21n t21c t22 t23 w :=
  loop_step (live := check_Check.live) (b := 0) (x := check_Check.c0) fun ts => Eq.mpr (check_Check.B0_eq R pA pn pc asksA asksn asksc place e t21A t21n t21c t22 t23 w ts) h
theorem check_Check.B2_eq (R : Value → World → Prop) (pA : Option Addr) (pn : Nat) (pc : Nat) (asksA : Option Addr) (asksn : Nat) (asksc : Nat) (place : Int) (e : Int) (at_ : Int) (i : Addr) (t21A : Option Addr) (t21n : Nat) (t21c : Nat) (t22 : Int) (t23 : Int) (t28A : Option Addr) (t28n : Nat) (t28c : Nat) (t29 : Int) (t30 : Int) (w : World) (ts : Nat → Value) :
    code Try.prog none check_Check.live 2 check_Check.c2 (thenK (fun st w => loopVC (fun K => code Try.prog none check_Check.live 2 check_Check.c2 K) (check_Check.live 2) (check_Check.K2 R) (clearFrom (check_Check.live 2) 0 st) w) (check_Check.K2 R)) (mergeFrom (check_Check.live 2) ts 0 (clearFrom (check_Check.live 2) 0 [(.slice pA pn pc), undef, undef, undef, (.slice asksA asksn asksc), (.int .i64 place), (.int .i64 e), (.int .i64 at_), (.pointer (some i)), undef, undef, undef, undef, undef, undef, undef, undef, undef, undef, undef, undef, (.slice t21A t21n t21c), (.int .i64 t22), (.int .i64 t23), undef, undef, undef, undef, (.slice t28A t28n t28c), (.int .i64 t29), (.int .i64 t30), undef, undef, undef, undef, undef, undef, undef, undef, undef, undef, undef, undef, undef, undef, undef, undef, undef, undef, undef, undef, undef, undef, undef, undef, undef, undef, undef, undef, undef])) w = check_Check.B2 R pA pn pc asksA asksn asksc place e at_ i t21A t21n t21c t22 t23 t28A t28n t28c t29 t30 w := by kernel_rfl
theorem check_Check.L2_step {R : Value → World → Prop} {pA : Option Addr} {pn : Nat} {pc : Nat} {asksA : Option Addr} {asksn : Nat} {asksc : Nat} {place : Int} {e : Int} {at_ : Int} {i : Addr} {t21A : Option Addr} {t21n : Nat} {t21c : Nat} {t22 : Int} {t23 : Int} {t28A : Option Addr} {t28n : Nat} {t28c : Nat} {t29 : Int} {t30 : Int} {w : World} (h : check_Check.B2 R pA pn pc asksA asksn asksc place e at_ i t21A t21n t21c t22 t23 t28A t28n t28c t29 t30 w) : check_Check.L2 R pA pn pc asksA asksn asksc place e at_ i t21A t21n t21c t22 t23 t28A t28n t28c t29 t30 w :=
  loop_step (live := check_Check.live) (b := 2) (x := check_Check.c2) fun ts => Eq.mpr (check_Check.B2_eq R pA pn pc asksA asksn asksc place e at_ i t21A t21n t21c t22 t23 t28A t28n t28c t29 t30 w ts) h
theorem check_Check.eq (R : Value → World → Prop) (pA : Option Addr) (pn : Nat) (pc : Nat) (w : World) : fnVC Try.prog none check_Check.live Try.f49 R [(.slice pA pn pc)] w = check_Check.vc R pA pn pc w := by kernel_rfl
set_option maxHeartbeats 4000000 in
theorem check_Check.ok {R : Value → World → Prop} {pA : Option Addr} {pn : Nat} {pc : Nat} {w : World} (h : check_Check.vc R pA pn pc w) : Run Try.prog 49 #[(.slice pA pn pc)] w R := by
  have h2 := Eq.mpr (check_Check.eq R pA pn pc w) h
  exact fn_sound Try.mixed Try.func49 (by kernel_rfl) h2

/-! ### riddle/vm.start: function 32 -/
noncomputable def vm_start.body : Code := bodyOf Try.f32
def vm_start.live : Nat → List Nat
  | _ => []
@[reducible] def vm_start.vc (R : Value → World → Prop) (pA : Option Addr) (pn : Nat) (pc : Nat) (packetA : Option Addr) (packetn : Nat) (packetc : Nat) (w : World) : Prop :=
  Run Try.prog 49 #[(.slice pA pn pc)] w fun v w_2 => ∃ t100 : Int, ∃ t101 : Int, v = (.tuple #[(.int .i64 t100), (.int .i64 t101)]) ∧ ifP ((t101 : Int) != 0)
    (R (.tuple #[(.pointer none), (.int .i64 50)]) w_2)
    (ifP (decide ((((packetn : Nat) : Int) : Int) > 65536))
    (R (.tuple #[(.pointer none), (.int .i64 51)]) w_2)
    (letW (w_2.alloc (.cells #[(.int .u32 0), (.int .u32 0), (.int .u32 0), (.int .u32 0), (.int .u32 0), (.int .u32 0), (.int .u32 0), (.int .u32 0), (.int .u32 0), (.int .u32 0), (.int .u32 0), (.int .u32 0), (.int .u32 0), (.int .u32 0), (.int .u32 0), (.int .u32 0), (.int .u32 0), (.int .u32 0), (.slice packetA packetn packetc), (.int .i64 0), (.int .i64 0), (.int .u32 0), (.bool false)] 77)) fun w_3 => R (.tuple #[(.pointer (some (newA w_2))), (.int .i64 0)]) w_3))

theorem vm_start.eq (R : Value → World → Prop) (pA : Option Addr) (pn : Nat) (pc : Nat) (packetA : Option Addr) (packetn : Nat) (packetc : Nat) (w : World) : fnVC Try.prog none vm_start.live Try.f32 R [(.slice pA pn pc), (.slice packetA packetn packetc)] w = vm_start.vc R pA pn pc packetA packetn packetc w := by kernel_rfl
set_option maxHeartbeats 4000000 in
theorem vm_start.ok {R : Value → World → Prop} {pA : Option Addr} {pn : Nat} {pc : Nat} {packetA : Option Addr} {packetn : Nat} {packetc : Nat} {w : World} (h : vm_start.vc R pA pn pc packetA packetn packetc w) : Run Try.prog 32 #[(.slice pA pn pc), (.slice packetA packetn packetc)] w R := by
  have h2 := Eq.mpr (vm_start.eq R pA pn pc packetA packetn packetc w) h
  exact fn_sound Try.mixed Try.func32 (by kernel_rfl) h2

/-! ### (*riddle/machine.Machine).ldImm: function 63 -/
noncomputable def machine_Machine_ldImm.body : Code := bodyOf Try.f63
def machine_Machine_ldImm.live : Nat → List Nat
  | _ => []
@[reducible] def machine_Machine_ldImm.vc (R : Value → World → Prop) (m : Option Addr) (i_0 : Int) (i_1 : Int) (i_2 : Int) (i_3 : Int) (w : World) : Prop :=
  letW (w.alloc (.cells #[(.int .u16 i_0), (.int .u8 i_1), (.int .u8 i_2), (.int .u32 i_3)] 45)) fun w_2 => ∃ t6 : Int, w_2.cell? ((newA w).add 3) = some (.int .u32 t6) ∧ ∃ t7p : Addr, m = some t7p ∧ (∃ u : Value, w_2.cell? t7p = some u) ∧ w_2.frozen? t7p = false ∧ letW (w_2.setCell t7p (.int .u32 t6)) fun w_3 => R (.tuple #[]) w_3

theorem machine_Machine_ldImm.eq (R : Value → World → Prop) (m : Option Addr) (i_0 : Int) (i_1 : Int) (i_2 : Int) (i_3 : Int) (w : World) : fnVC Try.prog none machine_Machine_ldImm.live Try.f63 R [(.pointer m), (.agg #[(.int .u16 i_0), (.int .u8 i_1), (.int .u8 i_2), (.int .u32 i_3)])] w = machine_Machine_ldImm.vc R m i_0 i_1 i_2 i_3 w := by kernel_rfl
set_option maxHeartbeats 4000000 in
theorem machine_Machine_ldImm.ok {R : Value → World → Prop} {m : Option Addr} {i_0 : Int} {i_1 : Int} {i_2 : Int} {i_3 : Int} {w : World} (h : machine_Machine_ldImm.vc R m i_0 i_1 i_2 i_3 w) : Run Try.prog 63 #[(.pointer m), (.agg #[(.int .u16 i_0), (.int .u8 i_1), (.int .u8 i_2), (.int .u32 i_3)])] w R := by
  have h2 := Eq.mpr (machine_Machine_ldImm.eq R m i_0 i_1 i_2 i_3 w) h
  exact fn_sound Try.mixed Try.func63 (by kernel_rfl) h2

/-! ### riddle/word.fits: function 40 -/
noncomputable def word_fits.body : Code := bodyOf Try.f40
def word_fits.live : Nat → List Nat
  | _ => []
def word_fits.J0 (R : Value → World → Prop) (t6 : Bool) (w : World) : Prop :=
  R (.bool t6) w

@[reducible] def word_fits.vc (R : Value → World → Prop) (n : Int) (at_ : Int) (size : Int) (w : World) : Prop :=
  ifP ((size : Int) == 1) (ifP (decide ((at_ : Int) ≥ 0)) (word_fits.J0 R (decide ((at_ : Int) ≤ (IntKind.i64.wrap (n - size)))) w) (word_fits.J0 R false w)) (ifP ((size : Int) == 2) (ifP (decide ((at_ : Int) ≥ 0)) (word_fits.J0 R (decide ((at_ : Int) ≤ (IntKind.i64.wrap (n - size)))) w) (word_fits.J0 R false w)) (ifP ((size : Int) == 4) (ifP (decide ((at_ : Int) ≥ 0)) (word_fits.J0 R (decide ((at_ : Int) ≤ (IntKind.i64.wrap (n - size)))) w) (word_fits.J0 R false w)) (word_fits.J0 R false w)))

theorem word_fits.eq (R : Value → World → Prop) (n : Int) (at_ : Int) (size : Int) (w : World) : fnVC Try.prog none word_fits.live Try.f40 R [(.int .i64 n), (.int .i64 at_), (.int .i64 size)] w = word_fits.vc R n at_ size w := by kernel_rfl
set_option maxHeartbeats 4000000 in
theorem word_fits.ok {R : Value → World → Prop} {n : Int} {at_ : Int} {size : Int} {w : World} (h : word_fits.vc R n at_ size w) : Run Try.prog 40 #[(.int .i64 n), (.int .i64 at_), (.int .i64 size)] w R := by
  have h2 := Eq.mpr (word_fits.eq R n at_ size w) h
  exact fn_sound Try.mixed Try.func40 (by kernel_rfl) h2

/-! ### riddle/word.Get: function 23 -/
noncomputable def word_Get.body : Code := bodyOf Try.f23
def word_Get.live : Nat → List Nat
  | 0 => [8, 22, 23, 24]
  | _ => []
noncomputable def word_Get.c0 : Code := sub word_Get.body [1, 1, 1, 0, 1, 0, 0]
def word_Get.K0 (R : Value → World → Prop) : Ex → St → World → Prop := (blockK 0 (thenK (fun st w => code Try.prog none word_Get.live 0 (sub word_Get.body [1, 1, 1, 1]) (retK Try.prog Try.f23 R) st w) (retK Try.prog Try.f23 R)))
def word_Get.L0 (R : Value → World → Prop) (v : Int) (t22A : Option Addr) (t22n : Nat) (t22c : Nat) (t23 : Int) (t24 : Int) (w : World) : Prop :=
  loopVC (fun K => code Try.prog none word_Get.live 0 word_Get.c0 K) (word_Get.live 0) (word_Get.K0 R) [undef, undef, undef, undef, undef, undef, undef, undef, (.int .u32 v), undef, undef, undef, undef, undef, undef, undef, undef, undef, undef, undef, undef, undef, (.slice t22A t22n t22c), (.int .i64 t23), (.int .i64 t24), undef, undef, undef, undef, undef, undef, undef, undef, undef, undef] w
@[reducible] def word_Get.B0 (R : Value → World → Prop) (v : Int) (t22A : Option Addr) (t22n : Nat) (t22c : Nat) (t23 : Int) (t24 : Int) (w : World) : Prop :=
  ifP (decide ((t24 : Int) < t23))
    (0 ≤ (t24 : Int) ∧ (t24 : Int) < ((t22n : Nat) : Int) ∧ ∃ t26p : Addr, t22A = some t26p ∧ ∃ t27 : Int, w.cell? (t26p.add (Int.toNat t24 * 1)) = some (.int .u8 t27) ∧ word_Get.L0 R (orI .u32 (IntKind.u32.wrap (v * 2 ^ 8)) (IntKind.u32.wrap t27)) t22A t22n t22c t23 (IntKind.i64.wrap (t24 + 1)) w)
    (R (.tuple #[(.int .u32 v), (.bool true)]) w)

@[reducible] def word_Get.vc (R : Value → World → Prop) (bA : Option Addr) (bn : Nat) (bc : Nat) (at_ : Int) (size : Int) (w : World) : Prop :=
  Run Try.prog 40 #[(.int .i64 ((bn : Nat) : Int)), (.int .i64 at_), (.int .i64 size)] w fun v w_2 => ∃ t15 : Bool, v = (.bool t15) ∧ ifP (!t15)
    (R (.tuple #[(.int .u32 0), (.bool false)]) w_2)
    ((0 : Int) ≤ at_ ∧ (at_ : Int) ≤ IntKind.i64.wrap (at_ + size) ∧ (IntKind.i64.wrap (at_ + size) : Int) ≤ ((bc : Nat) : Int) ∧ word_Get.L0 R 0 (subA bA bc (Int.toNat at_) 1) ((Int.toNat (IntKind.i64.wrap (at_ + size))) - (Int.toNat at_)) (bc - (Int.toNat at_)) (((Int.toNat (IntKind.i64.wrap (at_ + size))) - (Int.toNat at_) : Nat) : Int) 0 w_2)

theorem word_Get.B0_eq (R : Value → World → Prop) (v : Int) (t22A : Option Addr) (t22n : Nat) (t22c : Nat) (t23 : Int) (t24 : Int) (w : World) (ts : Nat → Value) :
    code Try.prog none word_Get.live 0 word_Get.c0 (thenK (fun st w => loopVC (fun K => code Try.prog none word_Get.live 0 word_Get.c0 K) (word_Get.live 0) (word_Get.K0 R) (clearFrom (word_Get.live 0) 0 st) w) (word_Get.K0 R)) (mergeFrom (word_Get.live 0) ts 0 (clearFrom (word_Get.live 0) 0 [undef, undef, undef, undef, undef, undef, undef, undef, (.int .u32 v), undef, undef, undef, undef, undef, undef, undef, undef, undef, undef, undef, undef, undef, (.slice t22A t22n t22c), (.int .i64 t23), (.int .i64 t24), undef, undef, undef, undef, undef, undef, undef, undef, undef, undef])) w = word_Get.B0 R v t22A t22n t22c t23 t24 w := by kernel_rfl
theorem word_Get.L0_step {R : Value → World → Prop} {v : Int} {t22A : Option Addr} {t22n : Nat} {t22c : Nat} {t23 : Int} {t24 : Int} {w : World} (h : word_Get.B0 R v t22A t22n t22c t23 t24 w) : word_Get.L0 R v t22A t22n t22c t23 t24 w :=
  loop_step (live := word_Get.live) (b := 0) (x := word_Get.c0) fun ts => Eq.mpr (word_Get.B0_eq R v t22A t22n t22c t23 t24 w ts) h
theorem word_Get.eq (R : Value → World → Prop) (bA : Option Addr) (bn : Nat) (bc : Nat) (at_ : Int) (size : Int) (w : World) : fnVC Try.prog none word_Get.live Try.f23 R [(.slice bA bn bc), (.int .i64 at_), (.int .i64 size)] w = word_Get.vc R bA bn bc at_ size w := by kernel_rfl
set_option maxHeartbeats 4000000 in
theorem word_Get.ok {R : Value → World → Prop} {bA : Option Addr} {bn : Nat} {bc : Nat} {at_ : Int} {size : Int} {w : World} (h : word_Get.vc R bA bn bc at_ size w) : Run Try.prog 23 #[(.slice bA bn bc), (.int .i64 at_), (.int .i64 size)] w R := by
  have h2 := Eq.mpr (word_Get.eq R bA bn bc at_ size w) h
  exact fn_sound Try.mixed Try.func23 (by kernel_rfl) h2

/-! ### (*riddle/machine.Machine).load: function 95 -/
noncomputable def machine_Machine_load.body : Code := bodyOf Try.f95
def machine_Machine_load.live : Nat → List Nat
  | _ => []
def machine_Machine_load.J1 (R : Value → World → Prop) (v : Int) (ok_ : Bool) (w : World) : Prop :=
  R (.tuple #[(.int .u32 v), (.bool ok_)]) w

def machine_Machine_load.J0 (R : Value → World → Prop) (m : Option Addr) (v : Int) (ok_ : Bool) (w : World) : Prop :=
  ifP (!ok_)
    (∃ t32p : Addr, m = some t32p ∧ (∃ u : Value, w.cell? (t32p.add 19) = some u) ∧ w.frozen? (t32p.add 19) = false ∧ letW (w.setCell (t32p.add 19) (.int .i64 1)) fun w_2 => machine_Machine_load.J1 R v ok_ w_2)
    (machine_Machine_load.J1 R v ok_ w)

@[reducible] def machine_Machine_load.vc (R : Value → World → Prop) (m : Option Addr) (at_ : Int) (size : Int) (w : World) : Prop :=
  ∃ t12p : Addr, m = some t12p ∧ ∃ (t14A : Option Addr) (t14n t14c : Nat), w.cell? (t12p.add 18) = some (.slice t14A t14n t14c) ∧ ifP (decide ((at_ : Int) < (IntKind.u64.wrap ((t14n : Nat) : Int))))
    (∃ t20p : Addr, m = some t20p ∧ ∃ (t22A : Option Addr) (t22n t22c : Nat), w.cell? (t20p.add 18) = some (.slice t22A t22n t22c) ∧ Run Try.prog 23 #[(.slice t22A t22n t22c), (.int .i64 (IntKind.i64.wrap at_)), (.int .i64 size)] w fun v w_2 => ∃ t260 : Int, ∃ t261 : Bool, v = (.tuple #[(.int .u32 t260), (.bool t261)]) ∧ machine_Machine_load.J0 R m t260 t261 w_2)
    (machine_Machine_load.J0 R m 0 false w)

theorem machine_Machine_load.eq (R : Value → World → Prop) (m : Option Addr) (at_ : Int) (size : Int) (w : World) : fnVC Try.prog none machine_Machine_load.live Try.f95 R [(.pointer m), (.int .u64 at_), (.int .i64 size)] w = machine_Machine_load.vc R m at_ size w := by kernel_rfl
set_option maxHeartbeats 4000000 in
theorem machine_Machine_load.ok {R : Value → World → Prop} {m : Option Addr} {at_ : Int} {size : Int} {w : World} (h : machine_Machine_load.vc R m at_ size w) : Run Try.prog 95 #[(.pointer m), (.int .u64 at_), (.int .i64 size)] w R := by
  have h2 := Eq.mpr (machine_Machine_load.eq R m at_ size w) h
  exact fn_sound Try.mixed Try.func95 (by kernel_rfl) h2

/-! ### (*riddle/machine.Machine).into: function 94 -/
noncomputable def machine_Machine_into.body : Code := bodyOf Try.f94
def machine_Machine_into.live : Nat → List Nat
  | _ => []
@[reducible] def machine_Machine_into.vc (R : Value → World → Prop) (m : Option Addr) (at_ : Int) (size : Int) (w : World) : Prop :=
  Run Try.prog 95 #[(.pointer m), (.int .u64 at_), (.int .i64 size)] w fun v w_2 => ∃ t120 : Int, ∃ t121 : Bool, v = (.tuple #[(.int .u32 t120), (.bool t121)]) ∧ ifP t121
    (∃ t18p : Addr, m = some t18p ∧ (∃ u : Value, w_2.cell? t18p = some u) ∧ w_2.frozen? t18p = false ∧ letW (w_2.setCell t18p (.int .u32 t120)) fun w_3 => R (.tuple #[]) w_3)
    (R (.tuple #[]) w_2)

theorem machine_Machine_into.eq (R : Value → World → Prop) (m : Option Addr) (at_ : Int) (size : Int) (w : World) : fnVC Try.prog none machine_Machine_into.live Try.f94 R [(.pointer m), (.int .u64 at_), (.int .i64 size)] w = machine_Machine_into.vc R m at_ size w := by kernel_rfl
set_option maxHeartbeats 4000000 in
theorem machine_Machine_into.ok {R : Value → World → Prop} {m : Option Addr} {at_ : Int} {size : Int} {w : World} (h : machine_Machine_into.vc R m at_ size w) : Run Try.prog 94 #[(.pointer m), (.int .u64 at_), (.int .i64 size)] w R := by
  have h2 := Eq.mpr (machine_Machine_into.eq R m at_ size w) h
  exact fn_sound Try.mixed Try.func94 (by kernel_rfl) h2

/-! ### (*riddle/machine.Machine).ldAbsW: function 64 -/
noncomputable def machine_Machine_ldAbsW.body : Code := bodyOf Try.f64
def machine_Machine_ldAbsW.live : Nat → List Nat
  | _ => []
@[reducible] def machine_Machine_ldAbsW.vc (R : Value → World → Prop) (m : Option Addr) (i_0 : Int) (i_1 : Int) (i_2 : Int) (i_3 : Int) (w : World) : Prop :=
  letW (w.alloc (.cells #[(.int .u16 i_0), (.int .u8 i_1), (.int .u8 i_2), (.int .u32 i_3)] 45)) fun w_2 => ∃ t6 : Int, w_2.cell? ((newA w).add 3) = some (.int .u32 t6) ∧ Run Try.prog 94 #[(.pointer m), (.int .u64 (IntKind.u64.wrap t6)), (.int .i64 4)] w_2 fun v w_3 => v = (.tuple #[]) ∧ R (.tuple #[]) w_3

theorem machine_Machine_ldAbsW.eq (R : Value → World → Prop) (m : Option Addr) (i_0 : Int) (i_1 : Int) (i_2 : Int) (i_3 : Int) (w : World) : fnVC Try.prog none machine_Machine_ldAbsW.live Try.f64 R [(.pointer m), (.agg #[(.int .u16 i_0), (.int .u8 i_1), (.int .u8 i_2), (.int .u32 i_3)])] w = machine_Machine_ldAbsW.vc R m i_0 i_1 i_2 i_3 w := by kernel_rfl
set_option maxHeartbeats 4000000 in
theorem machine_Machine_ldAbsW.ok {R : Value → World → Prop} {m : Option Addr} {i_0 : Int} {i_1 : Int} {i_2 : Int} {i_3 : Int} {w : World} (h : machine_Machine_ldAbsW.vc R m i_0 i_1 i_2 i_3 w) : Run Try.prog 64 #[(.pointer m), (.agg #[(.int .u16 i_0), (.int .u8 i_1), (.int .u8 i_2), (.int .u32 i_3)])] w R := by
  have h2 := Eq.mpr (machine_Machine_ldAbsW.eq R m i_0 i_1 i_2 i_3 w) h
  exact fn_sound Try.mixed Try.func64 (by kernel_rfl) h2

/-! ### (*riddle/machine.Machine).ldAbsH: function 65 -/
noncomputable def machine_Machine_ldAbsH.body : Code := bodyOf Try.f65
def machine_Machine_ldAbsH.live : Nat → List Nat
  | _ => []
@[reducible] def machine_Machine_ldAbsH.vc (R : Value → World → Prop) (m : Option Addr) (i_0 : Int) (i_1 : Int) (i_2 : Int) (i_3 : Int) (w : World) : Prop :=
  letW (w.alloc (.cells #[(.int .u16 i_0), (.int .u8 i_1), (.int .u8 i_2), (.int .u32 i_3)] 45)) fun w_2 => ∃ t6 : Int, w_2.cell? ((newA w).add 3) = some (.int .u32 t6) ∧ Run Try.prog 94 #[(.pointer m), (.int .u64 (IntKind.u64.wrap t6)), (.int .i64 2)] w_2 fun v w_3 => v = (.tuple #[]) ∧ R (.tuple #[]) w_3

theorem machine_Machine_ldAbsH.eq (R : Value → World → Prop) (m : Option Addr) (i_0 : Int) (i_1 : Int) (i_2 : Int) (i_3 : Int) (w : World) : fnVC Try.prog none machine_Machine_ldAbsH.live Try.f65 R [(.pointer m), (.agg #[(.int .u16 i_0), (.int .u8 i_1), (.int .u8 i_2), (.int .u32 i_3)])] w = machine_Machine_ldAbsH.vc R m i_0 i_1 i_2 i_3 w := by kernel_rfl
set_option maxHeartbeats 4000000 in
theorem machine_Machine_ldAbsH.ok {R : Value → World → Prop} {m : Option Addr} {i_0 : Int} {i_1 : Int} {i_2 : Int} {i_3 : Int} {w : World} (h : machine_Machine_ldAbsH.vc R m i_0 i_1 i_2 i_3 w) : Run Try.prog 65 #[(.pointer m), (.agg #[(.int .u16 i_0), (.int .u8 i_1), (.int .u8 i_2), (.int .u32 i_3)])] w R := by
  have h2 := Eq.mpr (machine_Machine_ldAbsH.eq R m i_0 i_1 i_2 i_3 w) h
  exact fn_sound Try.mixed Try.func65 (by kernel_rfl) h2

/-! ### (*riddle/machine.Machine).ldAbsB: function 66 -/
noncomputable def machine_Machine_ldAbsB.body : Code := bodyOf Try.f66
def machine_Machine_ldAbsB.live : Nat → List Nat
  | _ => []
@[reducible] def machine_Machine_ldAbsB.vc (R : Value → World → Prop) (m : Option Addr) (i_0 : Int) (i_1 : Int) (i_2 : Int) (i_3 : Int) (w : World) : Prop :=
  letW (w.alloc (.cells #[(.int .u16 i_0), (.int .u8 i_1), (.int .u8 i_2), (.int .u32 i_3)] 45)) fun w_2 => ∃ t6 : Int, w_2.cell? ((newA w).add 3) = some (.int .u32 t6) ∧ Run Try.prog 94 #[(.pointer m), (.int .u64 (IntKind.u64.wrap t6)), (.int .i64 1)] w_2 fun v w_3 => v = (.tuple #[]) ∧ R (.tuple #[]) w_3

theorem machine_Machine_ldAbsB.eq (R : Value → World → Prop) (m : Option Addr) (i_0 : Int) (i_1 : Int) (i_2 : Int) (i_3 : Int) (w : World) : fnVC Try.prog none machine_Machine_ldAbsB.live Try.f66 R [(.pointer m), (.agg #[(.int .u16 i_0), (.int .u8 i_1), (.int .u8 i_2), (.int .u32 i_3)])] w = machine_Machine_ldAbsB.vc R m i_0 i_1 i_2 i_3 w := by kernel_rfl
set_option maxHeartbeats 4000000 in
theorem machine_Machine_ldAbsB.ok {R : Value → World → Prop} {m : Option Addr} {i_0 : Int} {i_1 : Int} {i_2 : Int} {i_3 : Int} {w : World} (h : machine_Machine_ldAbsB.vc R m i_0 i_1 i_2 i_3 w) : Run Try.prog 66 #[(.pointer m), (.agg #[(.int .u16 i_0), (.int .u8 i_1), (.int .u8 i_2), (.int .u32 i_3)])] w R := by
  have h2 := Eq.mpr (machine_Machine_ldAbsB.eq R m i_0 i_1 i_2 i_3 w) h
  exact fn_sound Try.mixed Try.func66 (by kernel_rfl) h2

/-! ### (*riddle/machine.Machine).ldIndW: function 67 -/
noncomputable def machine_Machine_ldIndW.body : Code := bodyOf Try.f67
def machine_Machine_ldIndW.live : Nat → List Nat
  | _ => []
@[reducible] def machine_Machine_ldIndW.vc (R : Value → World → Prop) (m : Option Addr) (i_0 : Int) (i_1 : Int) (i_2 : Int) (i_3 : Int) (w : World) : Prop :=
  letW (w.alloc (.cells #[(.int .u16 i_0), (.int .u8 i_1), (.int .u8 i_2), (.int .u32 i_3)] 45)) fun w_2 => ∃ S_ : World → Prop, S_ w_2.drew ∧ letW w_2.drew fun w_3 => ∃ t6p : Addr, m = some t6p ∧ ∃ t9 : Int, (∀ u : World, S_ u → u.cell? (t6p.add 1) = some (.int .u32 t9)) ∧ ∃ t12 : Int, (∀ u_2 : World, S_ u_2 → u_2.cell? ((newA w).add 3) = some (.int .u32 t12)) ∧ Run Try.prog 94 #[(.pointer m), (.int .u64 (IntKind.u64.wrap ((IntKind.u64.wrap t9) + (IntKind.u64.wrap t12)))), (.int .i64 4)] w_3 fun v w_4 => v = (.tuple #[]) ∧ R (.tuple #[]) w_4

theorem machine_Machine_ldIndW.eq (R : Value → World → Prop) (m : Option Addr) (i_0 : Int) (i_1 : Int) (i_2 : Int) (i_3 : Int) (w : World) : fnVC Try.prog none machine_Machine_ldIndW.live Try.f67 R [(.pointer m), (.agg #[(.int .u16 i_0), (.int .u8 i_1), (.int .u8 i_2), (.int .u32 i_3)])] w = machine_Machine_ldIndW.vc R m i_0 i_1 i_2 i_3 w := by kernel_rfl
set_option maxHeartbeats 4000000 in
theorem machine_Machine_ldIndW.ok {R : Value → World → Prop} {m : Option Addr} {i_0 : Int} {i_1 : Int} {i_2 : Int} {i_3 : Int} {w : World} (h : machine_Machine_ldIndW.vc R m i_0 i_1 i_2 i_3 w) : Run Try.prog 67 #[(.pointer m), (.agg #[(.int .u16 i_0), (.int .u8 i_1), (.int .u8 i_2), (.int .u32 i_3)])] w R := by
  have h2 := Eq.mpr (machine_Machine_ldIndW.eq R m i_0 i_1 i_2 i_3 w) h
  exact fn_sound Try.mixed Try.func67 (by kernel_rfl) h2

/-! ### (*riddle/machine.Machine).ldIndH: function 68 -/
noncomputable def machine_Machine_ldIndH.body : Code := bodyOf Try.f68
def machine_Machine_ldIndH.live : Nat → List Nat
  | _ => []
@[reducible] def machine_Machine_ldIndH.vc (R : Value → World → Prop) (m : Option Addr) (i_0 : Int) (i_1 : Int) (i_2 : Int) (i_3 : Int) (w : World) : Prop :=
  letW (w.alloc (.cells #[(.int .u16 i_0), (.int .u8 i_1), (.int .u8 i_2), (.int .u32 i_3)] 45)) fun w_2 => ∃ S_ : World → Prop, S_ w_2.drew ∧ letW w_2.drew fun w_3 => ∃ t6p : Addr, m = some t6p ∧ ∃ t9 : Int, (∀ u : World, S_ u → u.cell? (t6p.add 1) = some (.int .u32 t9)) ∧ ∃ t12 : Int, (∀ u_2 : World, S_ u_2 → u_2.cell? ((newA w).add 3) = some (.int .u32 t12)) ∧ Run Try.prog 94 #[(.pointer m), (.int .u64 (IntKind.u64.wrap ((IntKind.u64.wrap t9) + (IntKind.u64.wrap t12)))), (.int .i64 2)] w_3 fun v w_4 => v = (.tuple #[]) ∧ R (.tuple #[]) w_4

theorem machine_Machine_ldIndH.eq (R : Value → World → Prop) (m : Option Addr) (i_0 : Int) (i_1 : Int) (i_2 : Int) (i_3 : Int) (w : World) : fnVC Try.prog none machine_Machine_ldIndH.live Try.f68 R [(.pointer m), (.agg #[(.int .u16 i_0), (.int .u8 i_1), (.int .u8 i_2), (.int .u32 i_3)])] w = machine_Machine_ldIndH.vc R m i_0 i_1 i_2 i_3 w := by kernel_rfl
set_option maxHeartbeats 4000000 in
theorem machine_Machine_ldIndH.ok {R : Value → World → Prop} {m : Option Addr} {i_0 : Int} {i_1 : Int} {i_2 : Int} {i_3 : Int} {w : World} (h : machine_Machine_ldIndH.vc R m i_0 i_1 i_2 i_3 w) : Run Try.prog 68 #[(.pointer m), (.agg #[(.int .u16 i_0), (.int .u8 i_1), (.int .u8 i_2), (.int .u32 i_3)])] w R := by
  have h2 := Eq.mpr (machine_Machine_ldIndH.eq R m i_0 i_1 i_2 i_3 w) h
  exact fn_sound Try.mixed Try.func68 (by kernel_rfl) h2

/-! ### (*riddle/machine.Machine).ldIndB: function 69 -/
noncomputable def machine_Machine_ldIndB.body : Code := bodyOf Try.f69
def machine_Machine_ldIndB.live : Nat → List Nat
  | _ => []
@[reducible] def machine_Machine_ldIndB.vc (R : Value → World → Prop) (m : Option Addr) (i_0 : Int) (i_1 : Int) (i_2 : Int) (i_3 : Int) (w : World) : Prop :=
  letW (w.alloc (.cells #[(.int .u16 i_0), (.int .u8 i_1), (.int .u8 i_2), (.int .u32 i_3)] 45)) fun w_2 => ∃ S_ : World → Prop, S_ w_2.drew ∧ letW w_2.drew fun w_3 => ∃ t6p : Addr, m = some t6p ∧ ∃ t9 : Int, (∀ u : World, S_ u → u.cell? (t6p.add 1) = some (.int .u32 t9)) ∧ ∃ t12 : Int, (∀ u_2 : World, S_ u_2 → u_2.cell? ((newA w).add 3) = some (.int .u32 t12)) ∧ Run Try.prog 94 #[(.pointer m), (.int .u64 (IntKind.u64.wrap ((IntKind.u64.wrap t9) + (IntKind.u64.wrap t12)))), (.int .i64 1)] w_3 fun v w_4 => v = (.tuple #[]) ∧ R (.tuple #[]) w_4

theorem machine_Machine_ldIndB.eq (R : Value → World → Prop) (m : Option Addr) (i_0 : Int) (i_1 : Int) (i_2 : Int) (i_3 : Int) (w : World) : fnVC Try.prog none machine_Machine_ldIndB.live Try.f69 R [(.pointer m), (.agg #[(.int .u16 i_0), (.int .u8 i_1), (.int .u8 i_2), (.int .u32 i_3)])] w = machine_Machine_ldIndB.vc R m i_0 i_1 i_2 i_3 w := by kernel_rfl
set_option maxHeartbeats 4000000 in
theorem machine_Machine_ldIndB.ok {R : Value → World → Prop} {m : Option Addr} {i_0 : Int} {i_1 : Int} {i_2 : Int} {i_3 : Int} {w : World} (h : machine_Machine_ldIndB.vc R m i_0 i_1 i_2 i_3 w) : Run Try.prog 69 #[(.pointer m), (.agg #[(.int .u16 i_0), (.int .u8 i_1), (.int .u8 i_2), (.int .u32 i_3)])] w R := by
  have h2 := Eq.mpr (machine_Machine_ldIndB.eq R m i_0 i_1 i_2 i_3 w) h
  exact fn_sound Try.mixed Try.func69 (by kernel_rfl) h2

/-! ### (*riddle/machine.Machine).ldMem: function 70 -/
noncomputable def machine_Machine_ldMem.body : Code := bodyOf Try.f70
def machine_Machine_ldMem.live : Nat → List Nat
  | _ => []
@[reducible] def machine_Machine_ldMem.vc (R : Value → World → Prop) (m : Option Addr) (i_0 : Int) (i_1 : Int) (i_2 : Int) (i_3 : Int) (w : World) : Prop :=
  letW (w.alloc (.cells #[(.int .u16 i_0), (.int .u8 i_1), (.int .u8 i_2), (.int .u32 i_3)] 45)) fun w_2 => ∃ S_ : World → Prop, S_ w_2.drew ∧ letW w_2.drew fun w_3 => ∃ t7 : Int, (∀ u : World, S_ u → u.cell? ((newA w).add 3) = some (.int .u32 t7)) ∧ ∃ t8p : Addr, m = some t8p ∧ 0 ≤ (t7 : Int) ∧ (t7 : Int) < ((16 : Nat) : Int) ∧ ∃ t12 : Int, (∀ u_2 : World, S_ u_2 → u_2.cell? ((t8p.add 2).add (Int.toNat t7 * 1)) = some (.int .u32 t12)) ∧ ∃ t13p : Addr, m = some t13p ∧ (∃ u : Value, w_3.cell? t13p = some u) ∧ w_3.frozen? t13p = false ∧ letW (w_3.setCell t13p (.int .u32 t12)) fun w_4 => R (.tuple #[]) w_4

theorem machine_Machine_ldMem.eq (R : Value → World → Prop) (m : Option Addr) (i_0 : Int) (i_1 : Int) (i_2 : Int) (i_3 : Int) (w : World) : fnVC Try.prog none machine_Machine_ldMem.live Try.f70 R [(.pointer m), (.agg #[(.int .u16 i_0), (.int .u8 i_1), (.int .u8 i_2), (.int .u32 i_3)])] w = machine_Machine_ldMem.vc R m i_0 i_1 i_2 i_3 w := by kernel_rfl
set_option maxHeartbeats 4000000 in
theorem machine_Machine_ldMem.ok {R : Value → World → Prop} {m : Option Addr} {i_0 : Int} {i_1 : Int} {i_2 : Int} {i_3 : Int} {w : World} (h : machine_Machine_ldMem.vc R m i_0 i_1 i_2 i_3 w) : Run Try.prog 70 #[(.pointer m), (.agg #[(.int .u16 i_0), (.int .u8 i_1), (.int .u8 i_2), (.int .u32 i_3)])] w R := by
  have h2 := Eq.mpr (machine_Machine_ldMem.eq R m i_0 i_1 i_2 i_3 w) h
  exact fn_sound Try.mixed Try.func70 (by kernel_rfl) h2

/-! ### (*riddle/machine.Machine).ldLen: function 71 -/
noncomputable def machine_Machine_ldLen.body : Code := bodyOf Try.f71
def machine_Machine_ldLen.live : Nat → List Nat
  | _ => []
@[reducible] def machine_Machine_ldLen.vc (R : Value → World → Prop) (m : Option Addr) (i_0 : Int) (i_1 : Int) (i_2 : Int) (i_3 : Int) (w : World) : Prop :=
  letW (w.alloc (.cells #[(.int .u16 i_0), (.int .u8 i_1), (.int .u8 i_2), (.int .u32 i_3)] 45)) fun w_2 => ∃ t6p : Addr, m = some t6p ∧ ∃ (t8A : Option Addr) (t8n t8c : Nat), w_2.cell? (t6p.add 18) = some (.slice t8A t8n t8c) ∧ ∃ t11p : Addr, m = some t11p ∧ (∃ u : Value, w_2.cell? t11p = some u) ∧ w_2.frozen? t11p = false ∧ letW (w_2.setCell t11p (.int .u32 (IntKind.u32.wrap ((t8n : Nat) : Int)))) fun w_3 => R (.tuple #[]) w_3

theorem machine_Machine_ldLen.eq (R : Value → World → Prop) (m : Option Addr) (i_0 : Int) (i_1 : Int) (i_2 : Int) (i_3 : Int) (w : World) : fnVC Try.prog none machine_Machine_ldLen.live Try.f71 R [(.pointer m), (.agg #[(.int .u16 i_0), (.int .u8 i_1), (.int .u8 i_2), (.int .u32 i_3)])] w = machine_Machine_ldLen.vc R m i_0 i_1 i_2 i_3 w := by kernel_rfl
set_option maxHeartbeats 4000000 in
theorem machine_Machine_ldLen.ok {R : Value → World → Prop} {m : Option Addr} {i_0 : Int} {i_1 : Int} {i_2 : Int} {i_3 : Int} {w : World} (h : machine_Machine_ldLen.vc R m i_0 i_1 i_2 i_3 w) : Run Try.prog 71 #[(.pointer m), (.agg #[(.int .u16 i_0), (.int .u8 i_1), (.int .u8 i_2), (.int .u32 i_3)])] w R := by
  have h2 := Eq.mpr (machine_Machine_ldLen.eq R m i_0 i_1 i_2 i_3 w) h
  exact fn_sound Try.mixed Try.func71 (by kernel_rfl) h2

/-! ### (*riddle/machine.Machine).ldxImm: function 72 -/
noncomputable def machine_Machine_ldxImm.body : Code := bodyOf Try.f72
def machine_Machine_ldxImm.live : Nat → List Nat
  | _ => []
@[reducible] def machine_Machine_ldxImm.vc (R : Value → World → Prop) (m : Option Addr) (i_0 : Int) (i_1 : Int) (i_2 : Int) (i_3 : Int) (w : World) : Prop :=
  letW (w.alloc (.cells #[(.int .u16 i_0), (.int .u8 i_1), (.int .u8 i_2), (.int .u32 i_3)] 45)) fun w_2 => ∃ t6 : Int, w_2.cell? ((newA w).add 3) = some (.int .u32 t6) ∧ ∃ t7p : Addr, m = some t7p ∧ (∃ u : Value, w_2.cell? (t7p.add 1) = some u) ∧ w_2.frozen? (t7p.add 1) = false ∧ letW (w_2.setCell (t7p.add 1) (.int .u32 t6)) fun w_3 => R (.tuple #[]) w_3

theorem machine_Machine_ldxImm.eq (R : Value → World → Prop) (m : Option Addr) (i_0 : Int) (i_1 : Int) (i_2 : Int) (i_3 : Int) (w : World) : fnVC Try.prog none machine_Machine_ldxImm.live Try.f72 R [(.pointer m), (.agg #[(.int .u16 i_0), (.int .u8 i_1), (.int .u8 i_2), (.int .u32 i_3)])] w = machine_Machine_ldxImm.vc R m i_0 i_1 i_2 i_3 w := by kernel_rfl
set_option maxHeartbeats 4000000 in
theorem machine_Machine_ldxImm.ok {R : Value → World → Prop} {m : Option Addr} {i_0 : Int} {i_1 : Int} {i_2 : Int} {i_3 : Int} {w : World} (h : machine_Machine_ldxImm.vc R m i_0 i_1 i_2 i_3 w) : Run Try.prog 72 #[(.pointer m), (.agg #[(.int .u16 i_0), (.int .u8 i_1), (.int .u8 i_2), (.int .u32 i_3)])] w R := by
  have h2 := Eq.mpr (machine_Machine_ldxImm.eq R m i_0 i_1 i_2 i_3 w) h
  exact fn_sound Try.mixed Try.func72 (by kernel_rfl) h2

/-! ### (*riddle/machine.Machine).ldxMem: function 73 -/
noncomputable def machine_Machine_ldxMem.body : Code := bodyOf Try.f73
def machine_Machine_ldxMem.live : Nat → List Nat
  | _ => []
@[reducible] def machine_Machine_ldxMem.vc (R : Value → World → Prop) (m : Option Addr) (i_0 : Int) (i_1 : Int) (i_2 : Int) (i_3 : Int) (w : World) : Prop :=
  letW (w.alloc (.cells #[(.int .u16 i_0), (.int .u8 i_1), (.int .u8 i_2), (.int .u32 i_3)] 45)) fun w_2 => ∃ S_ : World → Prop, S_ w_2.drew ∧ letW w_2.drew fun w_3 => ∃ t7 : Int, (∀ u : World, S_ u → u.cell? ((newA w).add 3) = some (.int .u32 t7)) ∧ ∃ t8p : Addr, m = some t8p ∧ 0 ≤ (t7 : Int) ∧ (t7 : Int) < ((16 : Nat) : Int) ∧ ∃ t12 : Int, (∀ u_2 : World, S_ u_2 → u_2.cell? ((t8p.add 2).add (Int.toNat t7 * 1)) = some (.int .u32 t12)) ∧ ∃ t13p : Addr, m = some t13p ∧ (∃ u : Value, w_3.cell? (t13p.add 1) = some u) ∧ w_3.frozen? (t13p.add 1) = false ∧ letW (w_3.setCell (t13p.add 1) (.int .u32 t12)) fun w_4 => R (.tuple #[]) w_4

theorem machine_Machine_ldxMem.eq (R : Value → World → Prop) (m : Option Addr) (i_0 : Int) (i_1 : Int) (i_2 : Int) (i_3 : Int) (w : World) : fnVC Try.prog none machine_Machine_ldxMem.live Try.f73 R [(.pointer m), (.agg #[(.int .u16 i_0), (.int .u8 i_1), (.int .u8 i_2), (.int .u32 i_3)])] w = machine_Machine_ldxMem.vc R m i_0 i_1 i_2 i_3 w := by kernel_rfl
set_option maxHeartbeats 4000000 in
theorem machine_Machine_ldxMem.ok {R : Value → World → Prop} {m : Option Addr} {i_0 : Int} {i_1 : Int} {i_2 : Int} {i_3 : Int} {w : World} (h : machine_Machine_ldxMem.vc R m i_0 i_1 i_2 i_3 w) : Run Try.prog 73 #[(.pointer m), (.agg #[(.int .u16 i_0), (.int .u8 i_1), (.int .u8 i_2), (.int .u32 i_3)])] w R := by
  have h2 := Eq.mpr (machine_Machine_ldxMem.eq R m i_0 i_1 i_2 i_3 w) h
  exact fn_sound Try.mixed Try.func73 (by kernel_rfl) h2

/-! ### (*riddle/machine.Machine).ldxLen: function 74 -/
noncomputable def machine_Machine_ldxLen.body : Code := bodyOf Try.f74
def machine_Machine_ldxLen.live : Nat → List Nat
  | _ => []
@[reducible] def machine_Machine_ldxLen.vc (R : Value → World → Prop) (m : Option Addr) (i_0 : Int) (i_1 : Int) (i_2 : Int) (i_3 : Int) (w : World) : Prop :=
  letW (w.alloc (.cells #[(.int .u16 i_0), (.int .u8 i_1), (.int .u8 i_2), (.int .u32 i_3)] 45)) fun w_2 => ∃ t6p : Addr, m = some t6p ∧ ∃ (t8A : Option Addr) (t8n t8c : Nat), w_2.cell? (t6p.add 18) = some (.slice t8A t8n t8c) ∧ ∃ t11p : Addr, m = some t11p ∧ (∃ u : Value, w_2.cell? (t11p.add 1) = some u) ∧ w_2.frozen? (t11p.add 1) = false ∧ letW (w_2.setCell (t11p.add 1) (.int .u32 (IntKind.u32.wrap ((t8n : Nat) : Int)))) fun w_3 => R (.tuple #[]) w_3

theorem machine_Machine_ldxLen.eq (R : Value → World → Prop) (m : Option Addr) (i_0 : Int) (i_1 : Int) (i_2 : Int) (i_3 : Int) (w : World) : fnVC Try.prog none machine_Machine_ldxLen.live Try.f74 R [(.pointer m), (.agg #[(.int .u16 i_0), (.int .u8 i_1), (.int .u8 i_2), (.int .u32 i_3)])] w = machine_Machine_ldxLen.vc R m i_0 i_1 i_2 i_3 w := by kernel_rfl
set_option maxHeartbeats 4000000 in
theorem machine_Machine_ldxLen.ok {R : Value → World → Prop} {m : Option Addr} {i_0 : Int} {i_1 : Int} {i_2 : Int} {i_3 : Int} {w : World} (h : machine_Machine_ldxLen.vc R m i_0 i_1 i_2 i_3 w) : Run Try.prog 74 #[(.pointer m), (.agg #[(.int .u16 i_0), (.int .u8 i_1), (.int .u8 i_2), (.int .u32 i_3)])] w R := by
  have h2 := Eq.mpr (machine_Machine_ldxLen.eq R m i_0 i_1 i_2 i_3 w) h
  exact fn_sound Try.mixed Try.func74 (by kernel_rfl) h2

/-! ### (*riddle/machine.Machine).ldxMsh: function 75 -/
noncomputable def machine_Machine_ldxMsh.body : Code := bodyOf Try.f75
def machine_Machine_ldxMsh.live : Nat → List Nat
  | _ => []
@[reducible] def machine_Machine_ldxMsh.vc (R : Value → World → Prop) (m : Option Addr) (i_0 : Int) (i_1 : Int) (i_2 : Int) (i_3 : Int) (w : World) : Prop :=
  letW (w.alloc (.cells #[(.int .u16 i_0), (.int .u8 i_1), (.int .u8 i_2), (.int .u32 i_3)] 45)) fun w_2 => ∃ t9 : Int, w_2.cell? ((newA w).add 3) = some (.int .u32 t9) ∧ Run Try.prog 95 #[(.pointer m), (.int .u64 (IntKind.u64.wrap t9)), (.int .i64 1)] w_2 fun v w_3 => ∃ t110 : Int, ∃ t111 : Bool, v = (.tuple #[(.int .u32 t110), (.bool t111)]) ∧ ifP t111
    (∃ t19p : Addr, m = some t19p ∧ (∃ u : Value, w_3.cell? (t19p.add 1) = some u) ∧ w_3.frozen? (t19p.add 1) = false ∧ letW (w_3.setCell (t19p.add 1) (.int .u32 (IntKind.u32.wrap (4 * (andI .u32 t110 15))))) fun w_4 => R (.tuple #[]) w_4)
    (R (.tuple #[]) w_3)

theorem machine_Machine_ldxMsh.eq (R : Value → World → Prop) (m : Option Addr) (i_0 : Int) (i_1 : Int) (i_2 : Int) (i_3 : Int) (w : World) : fnVC Try.prog none machine_Machine_ldxMsh.live Try.f75 R [(.pointer m), (.agg #[(.int .u16 i_0), (.int .u8 i_1), (.int .u8 i_2), (.int .u32 i_3)])] w = machine_Machine_ldxMsh.vc R m i_0 i_1 i_2 i_3 w := by kernel_rfl
set_option maxHeartbeats 4000000 in
theorem machine_Machine_ldxMsh.ok {R : Value → World → Prop} {m : Option Addr} {i_0 : Int} {i_1 : Int} {i_2 : Int} {i_3 : Int} {w : World} (h : machine_Machine_ldxMsh.vc R m i_0 i_1 i_2 i_3 w) : Run Try.prog 75 #[(.pointer m), (.agg #[(.int .u16 i_0), (.int .u8 i_1), (.int .u8 i_2), (.int .u32 i_3)])] w R := by
  have h2 := Eq.mpr (machine_Machine_ldxMsh.eq R m i_0 i_1 i_2 i_3 w) h
  exact fn_sound Try.mixed Try.func75 (by kernel_rfl) h2

/-! ### (*riddle/machine.Machine).st: function 76 -/
noncomputable def machine_Machine_st.body : Code := bodyOf Try.f76
def machine_Machine_st.live : Nat → List Nat
  | _ => []
@[reducible] def machine_Machine_st.vc (R : Value → World → Prop) (m : Option Addr) (i_0 : Int) (i_1 : Int) (i_2 : Int) (i_3 : Int) (w : World) : Prop :=
  letW (w.alloc (.cells #[(.int .u16 i_0), (.int .u8 i_1), (.int .u8 i_2), (.int .u32 i_3)] 45)) fun w_2 => ∃ S_ : World → Prop, S_ w_2.drew ∧ letW w_2.drew fun w_3 => ∃ t6 : Int, (∀ u : World, S_ u → u.cell? ((newA w).add 3) = some (.int .u32 t6)) ∧ ∃ t8p : Addr, m = some t8p ∧ ∃ t11 : Int, (∀ u_2 : World, S_ u_2 → u_2.cell? t8p = some (.int .u32 t11)) ∧ ∃ t12p : Addr, m = some t12p ∧ 0 ≤ (t6 : Int) ∧ (t6 : Int) < ((16 : Nat) : Int) ∧ (∃ u : Value, w_3.cell? ((t12p.add 2).add (Int.toNat t6 * 1)) = some u) ∧ w_3.frozen? ((t12p.add 2).add (Int.toNat t6 * 1)) = false ∧ letW (w_3.setCell ((t12p.add 2).add (Int.toNat t6 * 1)) (.int .u32 t11)) fun w_4 => R (.tuple #[]) w_4

theorem machine_Machine_st.eq (R : Value → World → Prop) (m : Option Addr) (i_0 : Int) (i_1 : Int) (i_2 : Int) (i_3 : Int) (w : World) : fnVC Try.prog none machine_Machine_st.live Try.f76 R [(.pointer m), (.agg #[(.int .u16 i_0), (.int .u8 i_1), (.int .u8 i_2), (.int .u32 i_3)])] w = machine_Machine_st.vc R m i_0 i_1 i_2 i_3 w := by kernel_rfl
set_option maxHeartbeats 4000000 in
theorem machine_Machine_st.ok {R : Value → World → Prop} {m : Option Addr} {i_0 : Int} {i_1 : Int} {i_2 : Int} {i_3 : Int} {w : World} (h : machine_Machine_st.vc R m i_0 i_1 i_2 i_3 w) : Run Try.prog 76 #[(.pointer m), (.agg #[(.int .u16 i_0), (.int .u8 i_1), (.int .u8 i_2), (.int .u32 i_3)])] w R := by
  have h2 := Eq.mpr (machine_Machine_st.eq R m i_0 i_1 i_2 i_3 w) h
  exact fn_sound Try.mixed Try.func76 (by kernel_rfl) h2

/-! ### (*riddle/machine.Machine).stx: function 77 -/
noncomputable def machine_Machine_stx.body : Code := bodyOf Try.f77
def machine_Machine_stx.live : Nat → List Nat
  | _ => []
@[reducible] def machine_Machine_stx.vc (R : Value → World → Prop) (m : Option Addr) (i_0 : Int) (i_1 : Int) (i_2 : Int) (i_3 : Int) (w : World) : Prop :=
  letW (w.alloc (.cells #[(.int .u16 i_0), (.int .u8 i_1), (.int .u8 i_2), (.int .u32 i_3)] 45)) fun w_2 => ∃ S_ : World → Prop, S_ w_2.drew ∧ letW w_2.drew fun w_3 => ∃ t6 : Int, (∀ u : World, S_ u → u.cell? ((newA w).add 3) = some (.int .u32 t6)) ∧ ∃ t8p : Addr, m = some t8p ∧ ∃ t11 : Int, (∀ u_2 : World, S_ u_2 → u_2.cell? (t8p.add 1) = some (.int .u32 t11)) ∧ ∃ t12p : Addr, m = some t12p ∧ 0 ≤ (t6 : Int) ∧ (t6 : Int) < ((16 : Nat) : Int) ∧ (∃ u : Value, w_3.cell? ((t12p.add 2).add (Int.toNat t6 * 1)) = some u) ∧ w_3.frozen? ((t12p.add 2).add (Int.toNat t6 * 1)) = false ∧ letW (w_3.setCell ((t12p.add 2).add (Int.toNat t6 * 1)) (.int .u32 t11)) fun w_4 => R (.tuple #[]) w_4

theorem machine_Machine_stx.eq (R : Value → World → Prop) (m : Option Addr) (i_0 : Int) (i_1 : Int) (i_2 : Int) (i_3 : Int) (w : World) : fnVC Try.prog none machine_Machine_stx.live Try.f77 R [(.pointer m), (.agg #[(.int .u16 i_0), (.int .u8 i_1), (.int .u8 i_2), (.int .u32 i_3)])] w = machine_Machine_stx.vc R m i_0 i_1 i_2 i_3 w := by kernel_rfl
set_option maxHeartbeats 4000000 in
theorem machine_Machine_stx.ok {R : Value → World → Prop} {m : Option Addr} {i_0 : Int} {i_1 : Int} {i_2 : Int} {i_3 : Int} {w : World} (h : machine_Machine_stx.vc R m i_0 i_1 i_2 i_3 w) : Run Try.prog 77 #[(.pointer m), (.agg #[(.int .u16 i_0), (.int .u8 i_1), (.int .u8 i_2), (.int .u32 i_3)])] w R := by
  have h2 := Eq.mpr (machine_Machine_stx.eq R m i_0 i_1 i_2 i_3 w) h
  exact fn_sound Try.mixed Try.func77 (by kernel_rfl) h2

/-! ### (*riddle/machine.Machine).neg: function 78 -/
noncomputable def machine_Machine_neg.body : Code := bodyOf Try.f78
def machine_Machine_neg.live : Nat → List Nat
  | _ => []
@[reducible] def machine_Machine_neg.vc (R : Value → World → Prop) (m : Option Addr) (i_0 : Int) (i_1 : Int) (i_2 : Int) (i_3 : Int) (w : World) : Prop :=
  letW (w.alloc (.cells #[(.int .u16 i_0), (.int .u8 i_1), (.int .u8 i_2), (.int .u32 i_3)] 45)) fun w_2 => ∃ t6p : Addr, m = some t6p ∧ ∃ t9 : Int, w_2.cell? t6p = some (.int .u32 t9) ∧ ∃ t11p : Addr, m = some t11p ∧ (∃ u : Value, w_2.cell? t11p = some u) ∧ w_2.frozen? t11p = false ∧ letW (w_2.setCell t11p (.int .u32 (IntKind.u32.wrap (0 - t9)))) fun w_3 => R (.tuple #[]) w_3

theorem machine_Machine_neg.eq (R : Value → World → Prop) (m : Option Addr) (i_0 : Int) (i_1 : Int) (i_2 : Int) (i_3 : Int) (w : World) : fnVC Try.prog none machine_Machine_neg.live Try.f78 R [(.pointer m), (.agg #[(.int .u16 i_0), (.int .u8 i_1), (.int .u8 i_2), (.int .u32 i_3)])] w = machine_Machine_neg.vc R m i_0 i_1 i_2 i_3 w := by kernel_rfl
set_option maxHeartbeats 4000000 in
theorem machine_Machine_neg.ok {R : Value → World → Prop} {m : Option Addr} {i_0 : Int} {i_1 : Int} {i_2 : Int} {i_3 : Int} {w : World} (h : machine_Machine_neg.vc R m i_0 i_1 i_2 i_3 w) : Run Try.prog 78 #[(.pointer m), (.agg #[(.int .u16 i_0), (.int .u8 i_1), (.int .u8 i_2), (.int .u32 i_3)])] w R := by
  have h2 := Eq.mpr (machine_Machine_neg.eq R m i_0 i_1 i_2 i_3 w) h
  exact fn_sound Try.mixed Try.func78 (by kernel_rfl) h2

/-! ### (*riddle/machine.Machine).tax: function 79 -/
noncomputable def machine_Machine_tax.body : Code := bodyOf Try.f79
def machine_Machine_tax.live : Nat → List Nat
  | _ => []
@[reducible] def machine_Machine_tax.vc (R : Value → World → Prop) (m : Option Addr) (i_0 : Int) (i_1 : Int) (i_2 : Int) (i_3 : Int) (w : World) : Prop :=
  letW (w.alloc (.cells #[(.int .u16 i_0), (.int .u8 i_1), (.int .u8 i_2), (.int .u32 i_3)] 45)) fun w_2 => ∃ t6p : Addr, m = some t6p ∧ ∃ t9 : Int, w_2.cell? t6p = some (.int .u32 t9) ∧ ∃ t10p : Addr, m = some t10p ∧ (∃ u : Value, w_2.cell? (t10p.add 1) = some u) ∧ w_2.frozen? (t10p.add 1) = false ∧ letW (w_2.setCell (t10p.add 1) (.int .u32 t9)) fun w_3 => R (.tuple #[]) w_3

theorem machine_Machine_tax.eq (R : Value → World → Prop) (m : Option Addr) (i_0 : Int) (i_1 : Int) (i_2 : Int) (i_3 : Int) (w : World) : fnVC Try.prog none machine_Machine_tax.live Try.f79 R [(.pointer m), (.agg #[(.int .u16 i_0), (.int .u8 i_1), (.int .u8 i_2), (.int .u32 i_3)])] w = machine_Machine_tax.vc R m i_0 i_1 i_2 i_3 w := by kernel_rfl
set_option maxHeartbeats 4000000 in
theorem machine_Machine_tax.ok {R : Value → World → Prop} {m : Option Addr} {i_0 : Int} {i_1 : Int} {i_2 : Int} {i_3 : Int} {w : World} (h : machine_Machine_tax.vc R m i_0 i_1 i_2 i_3 w) : Run Try.prog 79 #[(.pointer m), (.agg #[(.int .u16 i_0), (.int .u8 i_1), (.int .u8 i_2), (.int .u32 i_3)])] w R := by
  have h2 := Eq.mpr (machine_Machine_tax.eq R m i_0 i_1 i_2 i_3 w) h
  exact fn_sound Try.mixed Try.func79 (by kernel_rfl) h2

/-! ### (*riddle/machine.Machine).txa: function 80 -/
noncomputable def machine_Machine_txa.body : Code := bodyOf Try.f80
def machine_Machine_txa.live : Nat → List Nat
  | _ => []
@[reducible] def machine_Machine_txa.vc (R : Value → World → Prop) (m : Option Addr) (i_0 : Int) (i_1 : Int) (i_2 : Int) (i_3 : Int) (w : World) : Prop :=
  letW (w.alloc (.cells #[(.int .u16 i_0), (.int .u8 i_1), (.int .u8 i_2), (.int .u32 i_3)] 45)) fun w_2 => ∃ t6p : Addr, m = some t6p ∧ ∃ t9 : Int, w_2.cell? (t6p.add 1) = some (.int .u32 t9) ∧ ∃ t10p : Addr, m = some t10p ∧ (∃ u : Value, w_2.cell? t10p = some u) ∧ w_2.frozen? t10p = false ∧ letW (w_2.setCell t10p (.int .u32 t9)) fun w_3 => R (.tuple #[]) w_3

theorem machine_Machine_txa.eq (R : Value → World → Prop) (m : Option Addr) (i_0 : Int) (i_1 : Int) (i_2 : Int) (i_3 : Int) (w : World) : fnVC Try.prog none machine_Machine_txa.live Try.f80 R [(.pointer m), (.agg #[(.int .u16 i_0), (.int .u8 i_1), (.int .u8 i_2), (.int .u32 i_3)])] w = machine_Machine_txa.vc R m i_0 i_1 i_2 i_3 w := by kernel_rfl
set_option maxHeartbeats 4000000 in
theorem machine_Machine_txa.ok {R : Value → World → Prop} {m : Option Addr} {i_0 : Int} {i_1 : Int} {i_2 : Int} {i_3 : Int} {w : World} (h : machine_Machine_txa.vc R m i_0 i_1 i_2 i_3 w) : Run Try.prog 80 #[(.pointer m), (.agg #[(.int .u16 i_0), (.int .u8 i_1), (.int .u8 i_2), (.int .u32 i_3)])] w R := by
  have h2 := Eq.mpr (machine_Machine_txa.eq R m i_0 i_1 i_2 i_3 w) h
  exact fn_sound Try.mixed Try.func80 (by kernel_rfl) h2

/-! ### riddle/machine.Reckon: function 96 -/
noncomputable def machine_Reckon.body : Code := bodyOf Try.f96
def machine_Reckon.live : Nat → List Nat
  | _ => []
@[reducible] def machine_Reckon.vc (R : Value → World → Prop) (code_ : Int) (x : Int) (y : Int) (w : World) : Prop :=
  ifP ((andNotI .u16 code_ 8 : Int) == 4)
    (R (.tuple #[(.int .u32 (IntKind.u32.wrap (x + y))), (.bool true)]) w)
    (ifP ((andNotI .u16 code_ 8 : Int) == 20)
    (R (.tuple #[(.int .u32 (IntKind.u32.wrap (x - y))), (.bool true)]) w)
    (ifP ((andNotI .u16 code_ 8 : Int) == 36)
    (R (.tuple #[(.int .u32 (IntKind.u32.wrap (x * y))), (.bool true)]) w)
    (ifP ((andNotI .u16 code_ 8 : Int) == 68)
    (R (.tuple #[(.int .u32 (orI .u32 x y)), (.bool true)]) w)
    (ifP ((andNotI .u16 code_ 8 : Int) == 84)
    (R (.tuple #[(.int .u32 (andI .u32 x y)), (.bool true)]) w)
    (ifP ((andNotI .u16 code_ 8 : Int) == 164)
    (R (.tuple #[(.int .u32 (xorI .u32 x y)), (.bool true)]) w)
    (ifP ((andNotI .u16 code_ 8 : Int) == 100)
    (0 ≤ y ∧ R (.tuple #[(.int .u32 (IntKind.u32.wrap (x * 2 ^ (min (Int.toNat y) (IntKind.bits .u32))))), (.bool true)]) w)
    (ifP ((andNotI .u16 code_ 8 : Int) == 116)
    (0 ≤ y ∧ R (.tuple #[(.int .u32 (Int.fdiv x (2 ^ (min (Int.toNat y) (IntKind.bits .u32))))), (.bool true)]) w)
    (ifP ((y : Int) == 0)
    (R (.tuple #[(.int .u32 0), (.bool false)]) w)
    (ifP ((andNotI .u16 code_ 8 : Int) == 52)
    (y ≠ 0 ∧ R (.tuple #[(.int .u32 (IntKind.u32.wrap (Int.tdiv x y))), (.bool true)]) w)
    (y ≠ 0 ∧ R (.tuple #[(.int .u32 (Int.tmod x y)), (.bool true)]) w))))))))))

theorem machine_Reckon.eq (R : Value → World → Prop) (code_ : Int) (x : Int) (y : Int) (w : World) : fnVC Try.prog none machine_Reckon.live Try.f96 R [(.int .u16 code_), (.int .u32 x), (.int .u32 y)] w = machine_Reckon.vc R code_ x y w := by kernel_rfl
set_option maxHeartbeats 4000000 in
theorem machine_Reckon.ok {R : Value → World → Prop} {code_ : Int} {x : Int} {y : Int} {w : World} (h : machine_Reckon.vc R code_ x y w) : Run Try.prog 96 #[(.int .u16 code_), (.int .u32 x), (.int .u32 y)] w R := by
  have h2 := Eq.mpr (machine_Reckon.eq R code_ x y w) h
  exact fn_sound Try.mixed Try.func96 (by kernel_rfl) h2

/-! ### (*riddle/machine.Words).Right: function 97 -/
noncomputable def machine_Words_Right.body : Code := bodyOf Try.f97
def machine_Words_Right.live : Nat → List Nat
  | _ => []
@[reducible] def machine_Words_Right.vc (R : Value → World → Prop) (w : Option Addr) (i_0 : Int) (i_1 : Int) (i_2 : Int) (i_3 : Int) (w_2 : World) : Prop :=
  letW (w_2.alloc (.cells #[(.int .u16 i_0), (.int .u8 i_1), (.int .u8 i_2), (.int .u32 i_3)] 45)) fun w_3 => ∃ t6 : Int, w_3.cell? (newA w_2) = some (.int .u16 t6) ∧ ifP ((andI .u16 t6 8 : Int) != 0)
    (∃ t10p : Addr, w = some t10p ∧ ∃ t12 : Int, w_3.cell? (t10p.add 1) = some (.int .u32 t12) ∧ R (.int .u32 t12) w_3)
    (∃ t14 : Int, w_3.cell? ((newA w_2).add 3) = some (.int .u32 t14) ∧ R (.int .u32 t14) w_3)

theorem machine_Words_Right.eq (R : Value → World → Prop) (w : Option Addr) (i_0 : Int) (i_1 : Int) (i_2 : Int) (i_3 : Int) (w_2 : World) : fnVC Try.prog none machine_Words_Right.live Try.f97 R [(.pointer w), (.agg #[(.int .u16 i_0), (.int .u8 i_1), (.int .u8 i_2), (.int .u32 i_3)])] w_2 = machine_Words_Right.vc R w i_0 i_1 i_2 i_3 w_2 := by kernel_rfl
set_option maxHeartbeats 4000000 in
theorem machine_Words_Right.ok {R : Value → World → Prop} {w : Option Addr} {i_0 : Int} {i_1 : Int} {i_2 : Int} {i_3 : Int} {w_2 : World} (h : machine_Words_Right.vc R w i_0 i_1 i_2 i_3 w_2) : Run Try.prog 97 #[(.pointer w), (.agg #[(.int .u16 i_0), (.int .u8 i_1), (.int .u8 i_2), (.int .u32 i_3)])] w_2 R := by
  have h2 := Eq.mpr (machine_Words_Right.eq R w i_0 i_1 i_2 i_3 w_2) h
  exact fn_sound Try.mixed Try.func97 (by kernel_rfl) h2

/-! ### (*riddle/machine.Machine).alu: function 81 -/
noncomputable def machine_Machine_alu.body : Code := bodyOf Try.f81
def machine_Machine_alu.live : Nat → List Nat
  | _ => []
def machine_Machine_alu.J0 (R : Value → World → Prop) (m : Option Addr) (v : Int) (ok_ : Bool) (w : World) : Prop :=
  ifP (!ok_)
    (∃ t25p : Addr, m = some t25p ∧ (∃ u : Value, w.cell? (t25p.add 19) = some u) ∧ w.frozen? (t25p.add 19) = false ∧ letW (w.setCell (t25p.add 19) (.int .i64 2)) fun w_2 => R (.tuple #[]) w_2)
    (∃ t29p : Addr, m = some t29p ∧ (∃ u : Value, w.cell? t29p = some u) ∧ w.frozen? t29p = false ∧ letW (w.setCell t29p (.int .u32 v)) fun w_3 => R (.tuple #[]) w_3)

@[reducible] def machine_Machine_alu.vc (R : Value → World → Prop) (m : Option Addr) (i_0 : Int) (i_1 : Int) (i_2 : Int) (i_3 : Int) (w : World) : Prop :=
  letW (w.alloc (.cells #[(.int .u16 i_0), (.int .u8 i_1), (.int .u8 i_2), (.int .u32 i_3)] 45)) fun w_2 => ∃ S_ : World → Prop, S_ w_2.drew ∧ letW w_2.drew fun w_3 => ∃ t8 : Int, (∀ u : World, S_ u → u.cell? (newA w) = some (.int .u16 t8)) ∧ ∃ t10p : Addr, m = some t10p ∧ ∃ t13 : Int, (∀ u_2 : World, S_ u_2 → u_2.cell? t10p = some (.int .u32 t13)) ∧ ∃ t15p : Addr, m = some t15p ∧ ∃ t17_0 : Int, (∀ u_3 : World, S_ u_3 → u_3.cell? (newA w) = some (.int .u16 t17_0)) ∧ ∃ t17_1 : Int, (∀ u_4 : World, S_ u_4 → u_4.cell? ((newA w).add 1) = some (.int .u8 t17_1)) ∧ ∃ t17_2 : Int, (∀ u_5 : World, S_ u_5 → u_5.cell? ((newA w).add 2) = some (.int .u8 t17_2)) ∧ ∃ t17_3 : Int, (∀ u_6 : World, S_ u_6 → u_6.cell? ((newA w).add 3) = some (.int .u32 t17_3)) ∧ Run Try.prog 97 #[(.pointer (some t15p)), (.agg #[(.int .u16 t17_0), (.int .u8 t17_1), (.int .u8 t17_2), (.int .u32 t17_3)])] w_3 fun v w_4 => ∃ t18 : Int, v = (.int .u32 t18) ∧ S_ w_4 ∧ Run Try.prog 96 #[(.int .u16 t8), (.int .u32 t13), (.int .u32 t18)] w_4 fun v_2 w_5 => ∃ t190 : Int, ∃ t191 : Bool, v_2 = (.tuple #[(.int .u32 t190), (.bool t191)]) ∧ machine_Machine_alu.J0 R m t190 t191 w_5

theorem machine_Machine_alu.eq (R : Value → World → Prop) (m : Option Addr) (i_0 : Int) (i_1 : Int) (i_2 : Int) (i_3 : Int) (w : World) : fnVC Try.prog none machine_Machine_alu.live Try.f81 R [(.pointer m), (.agg #[(.int .u16 i_0), (.int .u8 i_1), (.int .u8 i_2), (.int .u32 i_3)])] w = machine_Machine_alu.vc R m i_0 i_1 i_2 i_3 w := by kernel_rfl
set_option maxHeartbeats 4000000 in
theorem machine_Machine_alu.ok {R : Value → World → Prop} {m : Option Addr} {i_0 : Int} {i_1 : Int} {i_2 : Int} {i_3 : Int} {w : World} (h : machine_Machine_alu.vc R m i_0 i_1 i_2 i_3 w) : Run Try.prog 81 #[(.pointer m), (.agg #[(.int .u16 i_0), (.int .u8 i_1), (.int .u8 i_2), (.int .u32 i_3)])] w R := by
  have h2 := Eq.mpr (machine_Machine_alu.eq R m i_0 i_1 i_2 i_3 w) h
  exact fn_sound Try.mixed Try.func81 (by kernel_rfl) h2

/-! ### riddle/machine.Table: function 50 -/
noncomputable def machine_Table.body : Code := bodyOf Try.f50
def machine_Table.live : Nat → List Nat
  | 0 => [1, 6, 7, 8]
  | _ => []
noncomputable def machine_Table.c0 : Code := sub machine_Table.body [1, 1, 0, 1, 0, 0]
def machine_Table.K0 (R : Value → World → Prop) : Ex → St → World → Prop := (blockK 0 (thenK (fun st w => code Try.prog none machine_Table.live 0 (sub machine_Table.body [1, 1, 1]) (retK Try.prog Try.f50 R) st w) (retK Try.prog Try.f50 R)))
def machine_Table.L0 (R : Value → World → Prop) (t : Addr) (t6A : Option Addr) (t6n : Nat) (t6c : Nat) (t7 : Int) (t8 : Int) (w : World) : Prop :=
  loopVC (fun K => code Try.prog none machine_Table.live 0 machine_Table.c0 K) (machine_Table.live 0) (machine_Table.K0 R) [undef, (.pointer (some t)), undef, undef, undef, undef, (.slice t6A t6n t6c), (.int .i64 t7), (.int .i64 t8), undef, undef, undef, undef, undef, undef, undef, undef, undef, undef, undef, undef, undef, undef] w
def machine_Table.J0 (R : Value → World → Prop) (t : Addr) (t6A : Option Addr) (t6n : Nat) (t6c : Nat) (t7 : Int) (t8 : Int) (w : World) : Prop :=
  machine_Table.L0 R t t6A t6n t6c t7 (IntKind.i64.wrap (t8 + 1)) w

@[reducible] def machine_Table.B0 (R : Value → World → Prop) (t : Addr) (t6A : Option Addr) (t6n : Nat) (t6c : Nat) (t7 : Int) (t8 : Int) (w : World) : Prop :=
  ifP (decide ((t8 : Int) < t7))
    (0 ≤ (t8 : Int) ∧ (t8 : Int) < ((t6n : Nat) : Int) ∧ ∃ t10p : Addr, t6A = some t10p ∧ ∃ t11 : Int, w.cell? (t10p.add (Int.toNat t8 * 1)) = some (.int .u16 t11) ∧ letW w.drew fun w_2 => ∃ t17p : Addr, some t = some t17p ∧ 0 ≤ (t11 : Int) ∧ (t11 : Int) < ((256 : Nat) : Int) ∧ ∃ t19p : Addr, some t = some t19p ∧ (∃ u : Value, w_2.cell? (t17p.add (Int.toNat t11 * 1)) = some u) ∧ w_2.frozen? (t17p.add (Int.toNat t11 * 1)) = false ∧ letW (w_2.setCell (t17p.add (Int.toNat t11 * 1)) (.func (.func 81) #[] #[])) fun w_3 => 0 ≤ (orI .u16 t11 8 : Int) ∧ (orI .u16 t11 8 : Int) < ((256 : Nat) : Int) ∧ (∃ u : Value, w_3.cell? (t19p.add (Int.toNat (orI .u16 t11 8) * 1)) = some u) ∧ w_3.frozen? (t19p.add (Int.toNat (orI .u16 t11 8) * 1)) = false ∧ letW (w_3.setCell (t19p.add (Int.toNat (orI .u16 t11 8) * 1)) (.func (.func 81) #[] #[])) fun w_4 => machine_Table.J0 R t t6A t6n t6c t7 t8 w_4)
    (R (.pointer (some t)) w)

@[reducible] def machine_Table.vc (R : Value → World → Prop) (w : World) : Prop :=
  letW (w.alloc (.cells #[(.func (.func 63) #[] #[]), (.func (.func 72) #[] #[]), (.func (.func 76) #[] #[]), (.func (.func 77) #[] #[]), .nilFunc, .nilFunc, .nilFunc, (.func (.func 79) #[] #[]), .nilFunc, .nilFunc, .nilFunc, .nilFunc, .nilFunc, .nilFunc, .nilFunc, .nilFunc, .nilFunc, .nilFunc, .nilFunc, .nilFunc, .nilFunc, .nilFunc, .nilFunc, .nilFunc, .nilFunc, .nilFunc, .nilFunc, .nilFunc, .nilFunc, .nilFunc, .nilFunc, .nilFunc, (.func (.func 64) #[] #[]), .nilFunc, .nilFunc, .nilFunc, .nilFunc, .nilFunc, .nilFunc, .nilFunc, (.func (.func 65) #[] #[]), .nilFunc, .nilFunc, .nilFunc, .nilFunc, .nilFunc, .nilFunc, .nilFunc, (.func (.func 66) #[] #[]), .nilFunc, .nilFunc, .nilFunc, .nilFunc, .nilFunc, .nilFunc, .nilFunc, .nilFunc, .nilFunc, .nilFunc, .nilFunc, .nilFunc, .nilFunc, .nilFunc, .nilFunc, (.func (.func 67) #[] #[]), .nilFunc, .nilFunc, .nilFunc, .nilFunc, .nilFunc, .nilFunc, .nilFunc, (.func (.func 68) #[] #[]), .nilFunc, .nilFunc, .nilFunc, .nilFunc, .nilFunc, .nilFunc, .nilFunc, (.func (.func 69) #[] #[]), .nilFunc, .nilFunc, .nilFunc, .nilFunc, .nilFunc, .nilFunc, .nilFunc, .nilFunc, .nilFunc, .nilFunc, .nilFunc, .nilFunc, .nilFunc, .nilFunc, .nilFunc, (.func (.func 70) #[] #[]), (.func (.func 73) #[] #[]), .nilFunc, .nilFunc, .nilFunc, .nilFunc, .nilFunc, .nilFunc, .nilFunc, .nilFunc, .nilFunc, .nilFunc, .nilFunc, .nilFunc, .nilFunc, .nilFunc, .nilFunc, .nilFunc, .nilFunc, .nilFunc, .nilFunc, .nilFunc, .nilFunc, .nilFunc, .nilFunc, .nilFunc, .nilFunc, .nilFunc, .nilFunc, .nilFunc, .nilFunc, .nilFunc, (.func (.func 71) #[] #[]), (.func (.func 74) #[] #[]), .nilFunc, .nilFunc, (.func (.func 78) #[] #[]), .nilFunc, .nilFunc, (.func (.func 80) #[] #[]), .nilFunc, .nilFunc, .nilFunc, .nilFunc, .nilFunc, .nilFunc, .nilFunc, .nilFunc, .nilFunc, .nilFunc, .nilFunc, .nilFunc, .nilFunc, .nilFunc, .nilFunc, .nilFunc, .nilFunc, .nilFunc, .nilFunc, .nilFunc, .nilFunc, .nilFunc, .nilFunc, .nilFunc, .nilFunc, .nilFunc, .nilFunc, .nilFunc, .nilFunc, .nilFunc, .nilFunc, .nilFunc, .nilFunc, .nilFunc, .nilFunc, .nilFunc, .nilFunc, .nilFunc, .nilFunc, .nilFunc, .nilFunc, (.func (.func 75) #[] #[]), .nilFunc, .nilFunc, .nilFunc, .nilFunc, .nilFunc, .nilFunc, .nilFunc, .nilFunc, .nilFunc, .nilFunc, .nilFunc, .nilFunc, .nilFunc, .nilFunc, .nilFunc, .nilFunc, .nilFunc, .nilFunc, .nilFunc, .nilFunc, .nilFunc, .nilFunc, .nilFunc, .nilFunc, .nilFunc, .nilFunc, .nilFunc, .nilFunc, .nilFunc, .nilFunc, .nilFunc, .nilFunc, .nilFunc, .nilFunc, .nilFunc, .nilFunc, .nilFunc, .nilFunc, .nilFunc, .nilFunc, .nilFunc, .nilFunc, .nilFunc, .nilFunc, .nilFunc, .nilFunc, .nilFunc, .nilFunc, .nilFunc, .nilFunc, .nilFunc, .nilFunc, .nilFunc, .nilFunc, .nilFunc, .nilFunc, .nilFunc, .nilFunc, .nilFunc, .nilFunc, .nilFunc, .nilFunc, .nilFunc, .nilFunc, .nilFunc, .nilFunc, .nilFunc, .nilFunc, .nilFunc, .nilFunc, .nilFunc, .nilFunc, .nilFunc, .nilFunc, .nilFunc, .nilFunc, .nilFunc, .nilFunc] 106)) fun w_2 => letW (w_2.alloc (.cells #[(.int .u16 4), (.int .u16 20), (.int .u16 36), (.int .u16 52), (.int .u16 68), (.int .u16 84), (.int .u16 100), (.int .u16 116), (.int .u16 148), (.int .u16 164)] 43)) fun w_3 => machine_Table.L0 R (newA w) (some (newA w_2)) 10 10 ((10 : Nat) : Int) 0 w_3

theorem machine_Table.B0_eq (R : Value → World → Prop) (t : Addr) (t6A : Option Addr) (t6n : Nat) (t6c : Nat) (t7 : Int) (t8 : Int) (w : World) (ts : Nat → Value) :
    code Try.prog none machine_Table.live 0 machine_Table.c0 (thenK (fun st w => loopVC (fun K => code Try.prog none machine_Table.live 0 machine_Table.c0 K) (machine_Table.live 0) (machine_Table.K0 R) (clearFrom (machine_Table.live 0) 0 st) w) (machine_Table.K0 R)) (mergeFrom (machine_Table.live 0) ts 0 (clearFrom (machine_Table.live 0) 0 [undef, (.pointer (some t)), undef, undef, undef, undef, (.slice t6A t6n t6c), (.int .i64 t7), (.int .i64 t8), undef, undef, undef, undef, undef, undef, undef, undef, undef, undef, undef, undef, undef, undef])) w = machine_Table.B0 R t t6A t6n t6c t7 t8 w := by kernel_rfl
theorem machine_Table.L0_step {R : Value → World → Prop} {t : Addr} {t6A : Option Addr} {t6n : Nat} {t6c : Nat} {t7 : Int} {t8 : Int} {w : World} (h : machine_Table.B0 R t t6A t6n t6c t7 t8 w) : machine_Table.L0 R t t6A t6n t6c t7 t8 w :=
  loop_step (live := machine_Table.live) (b := 0) (x := machine_Table.c0) fun ts => Eq.mpr (machine_Table.B0_eq R t t6A t6n t6c t7 t8 w ts) h
theorem machine_Table.eq (R : Value → World → Prop) (w : World) : fnVC Try.prog none machine_Table.live Try.f50 R [] w = machine_Table.vc R  w := by kernel_rfl
set_option maxHeartbeats 4000000 in
theorem machine_Table.ok {R : Value → World → Prop} {w : World} (h : machine_Table.vc R  w) : Run Try.prog 50 #[] w R := by
  have h2 := Eq.mpr (machine_Table.eq R  w) h
  exact fn_sound Try.mixed Try.func50 (by kernel_rfl) h2

/-! ### riddle/machine.Holds: function 98 -/
noncomputable def machine_Holds.body : Code := bodyOf Try.f98
def machine_Holds.live : Nat → List Nat
  | _ => []
@[reducible] def machine_Holds.vc (R : Value → World → Prop) (code_ : Int) (x : Int) (y : Int) (w : World) : Prop :=
  ifP ((andNotI .u16 code_ 8 : Int) == 21)
    (R (.bool ((x : Int) == y)) w)
    (ifP ((andNotI .u16 code_ 8 : Int) == 37)
    (R (.bool (decide ((x : Int) > y))) w)
    (ifP ((andNotI .u16 code_ 8 : Int) == 53)
    (R (.bool (decide ((x : Int) ≥ y))) w)
    (R (.bool ((andI .u32 x y : Int) != 0)) w)))

theorem machine_Holds.eq (R : Value → World → Prop) (code_ : Int) (x : Int) (y : Int) (w : World) : fnVC Try.prog none machine_Holds.live Try.f98 R [(.int .u16 code_), (.int .u32 x), (.int .u32 y)] w = machine_Holds.vc R code_ x y w := by kernel_rfl
set_option maxHeartbeats 4000000 in
theorem machine_Holds.ok {R : Value → World → Prop} {code_ : Int} {x : Int} {y : Int} {w : World} (h : machine_Holds.vc R code_ x y w) : Run Try.prog 98 #[(.int .u16 code_), (.int .u32 x), (.int .u32 y)] w R := by
  have h2 := Eq.mpr (machine_Holds.eq R code_ x y w) h
  exact fn_sound Try.mixed Try.func98 (by kernel_rfl) h2

/-! ### (*riddle/machine.Words).Asks: function 82 -/
noncomputable def machine_Words_Asks.body : Code := bodyOf Try.f82
def machine_Words_Asks.live : Nat → List Nat
  | _ => []
def machine_Words_Asks.J0 (R : Value → World → Prop) (t4 : Bool) (w : World) : Prop :=
  R (.bool t4) w

@[reducible] def machine_Words_Asks.vc (R : Value → World → Prop) (w : Option Addr) (i_0 : Int) (i_1 : Int) (i_2 : Int) (i_3 : Int) (w_2 : World) : Prop :=
  letW (w_2.alloc (.cells #[(.int .u16 i_0), (.int .u8 i_1), (.int .u8 i_2), (.int .u32 i_3)] 45)) fun w_3 => ∃ S_ : World → Prop, S_ w_3.drew ∧ letW w_3.drew fun w_4 => ∃ t6 : Int, (∀ u : World, S_ u → u.cell? (newA w_2) = some (.int .u16 t6)) ∧ ∃ t8p : Addr, w = some t8p ∧ ∃ t10 : Int, (∀ u_2 : World, S_ u_2 → u_2.cell? t8p = some (.int .u32 t10)) ∧ ∃ t12_0 : Int, (∀ u_3 : World, S_ u_3 → u_3.cell? (newA w_2) = some (.int .u16 t12_0)) ∧ ∃ t12_1 : Int, (∀ u_4 : World, S_ u_4 → u_4.cell? ((newA w_2).add 1) = some (.int .u8 t12_1)) ∧ ∃ t12_2 : Int, (∀ u_5 : World, S_ u_5 → u_5.cell? ((newA w_2).add 2) = some (.int .u8 t12_2)) ∧ ∃ t12_3 : Int, (∀ u_6 : World, S_ u_6 → u_6.cell? ((newA w_2).add 3) = some (.int .u32 t12_3)) ∧ Run Try.prog 97 #[(.pointer w), (.agg #[(.int .u16 t12_0), (.int .u8 t12_1), (.int .u8 t12_2), (.int .u32 t12_3)])] w_4 fun v w_5 => ∃ t13 : Int, v = (.int .u32 t13) ∧ S_ w_5 ∧ Run Try.prog 98 #[(.int .u16 t6), (.int .u32 t10), (.int .u32 t13)] w_5 fun v_2 w_6 => ∃ t14 : Bool, v_2 = (.bool t14) ∧ machine_Words_Asks.J0 R t14 w_6

theorem machine_Words_Asks.eq (R : Value → World → Prop) (w : Option Addr) (i_0 : Int) (i_1 : Int) (i_2 : Int) (i_3 : Int) (w_2 : World) : fnVC Try.prog none machine_Words_Asks.live Try.f82 R [(.pointer w), (.agg #[(.int .u16 i_0), (.int .u8 i_1), (.int .u8 i_2), (.int .u32 i_3)])] w_2 = machine_Words_Asks.vc R w i_0 i_1 i_2 i_3 w_2 := by kernel_rfl
set_option maxHeartbeats 4000000 in
theorem machine_Words_Asks.ok {R : Value → World → Prop} {w : Option Addr} {i_0 : Int} {i_1 : Int} {i_2 : Int} {i_3 : Int} {w_2 : World} (h : machine_Words_Asks.vc R w i_0 i_1 i_2 i_3 w_2) : Run Try.prog 82 #[(.pointer w), (.agg #[(.int .u16 i_0), (.int .u8 i_1), (.int .u8 i_2), (.int .u32 i_3)])] w_2 R := by
  have h2 := Eq.mpr (machine_Words_Asks.eq R w i_0 i_1 i_2 i_3 w_2) h
  exact fn_sound Try.mixed Try.func82 (by kernel_rfl) h2

/-! ### (*riddle/vm.run).jump: function 52 -/
noncomputable def vm_run_jump.body : Code := bodyOf Try.f52
def vm_run_jump.live : Nat → List Nat
  | _ => []
@[reducible] def vm_run_jump.vc (R : Value → World → Prop) (r : Option Addr) (i_0 : Int) (i_1 : Int) (i_2 : Int) (i_3 : Int) (w : World) : Prop :=
  letW (w.alloc (.cells #[(.int .u16 i_0), (.int .u8 i_1), (.int .u8 i_2), (.int .u32 i_3)] 45)) fun w_2 => ∃ t16 : Int, w_2.cell? (newA w) = some (.int .u16 t16) ∧ ifP ((t16 : Int) == 5)
    (∃ S_ : World → Prop, S_ w_2.drew ∧ letW w_2.drew fun w_3 => ∃ t19p : Addr, r = some t19p ∧ ∃ t21 : Int, (∀ u : World, S_ u → u.cell? (t19p.add 20) = some (.int .i64 t21)) ∧ ∃ t23 : Int, (∀ u_2 : World, S_ u_2 → u_2.cell? ((newA w).add 3) = some (.int .u32 t23)) ∧ ∃ t26p : Addr, r = some t26p ∧ (∃ u : Value, w_3.cell? (t26p.add 20) = some u) ∧ w_3.frozen? (t26p.add 20) = false ∧ letW (w_3.setCell (t26p.add 20) (.int .i64 (IntKind.i64.wrap (t21 + (IntKind.i64.wrap t23))))) fun w_4 => R (.tuple #[]) w_4)
    (∃ S__2 : World → Prop, S__2 w_2.drew ∧ letW w_2.drew fun w_5 => ∃ t30p : Addr, r = some t30p ∧ ∃ t33_0 : Int, (∀ u_3 : World, S__2 u_3 → u_3.cell? (newA w) = some (.int .u16 t33_0)) ∧ ∃ t33_1 : Int, (∀ u_4 : World, S__2 u_4 → u_4.cell? ((newA w).add 1) = some (.int .u8 t33_1)) ∧ ∃ t33_2 : Int, (∀ u_5 : World, S__2 u_5 → u_5.cell? ((newA w).add 2) = some (.int .u8 t33_2)) ∧ ∃ t33_3 : Int, (∀ u_6 : World, S__2 u_6 → u_6.cell? ((newA w).add 3) = some (.int .u32 t33_3)) ∧ Run Try.prog 82 #[(.pointer (some t30p)), (.agg #[(.int .u16 t33_0), (.int .u8 t33_1), (.int .u8 t33_2), (.int .u32 t33_3)])] w_5 fun v w_6 => ∃ t34 : Bool, v = (.bool t34) ∧ ifP t34
    (∃ S__3 : World → Prop, S__3 w_6.drew ∧ letW w_6.drew fun w_7 => ∃ t36p : Addr, r = some t36p ∧ ∃ t38 : Int, (∀ u_7 : World, S__3 u_7 → u_7.cell? (t36p.add 20) = some (.int .i64 t38)) ∧ ∃ t40 : Int, (∀ u_8 : World, S__3 u_8 → u_8.cell? ((newA w).add 1) = some (.int .u8 t40)) ∧ ∃ t43p : Addr, r = some t43p ∧ (∃ u : Value, w_7.cell? (t43p.add 20) = some u) ∧ w_7.frozen? (t43p.add 20) = false ∧ letW (w_7.setCell (t43p.add 20) (.int .i64 (IntKind.i64.wrap (t38 + (IntKind.i64.wrap t40))))) fun w_8 => R (.tuple #[]) w_8)
    (∃ S__4 : World → Prop, S__4 w_6.drew ∧ letW w_6.drew fun w_9 => ∃ t5p : Addr, r = some t5p ∧ ∃ t7 : Int, (∀ u_9 : World, S__4 u_9 → u_9.cell? (t5p.add 20) = some (.int .i64 t7)) ∧ ∃ t9 : Int, (∀ u_10 : World, S__4 u_10 → u_10.cell? ((newA w).add 2) = some (.int .u8 t9)) ∧ ∃ t12p : Addr, r = some t12p ∧ (∃ u : Value, w_9.cell? (t12p.add 20) = some u) ∧ w_9.frozen? (t12p.add 20) = false ∧ letW (w_9.setCell (t12p.add 20) (.int .i64 (IntKind.i64.wrap (t7 + (IntKind.i64.wrap t9))))) fun w_10 => R (.tuple #[]) w_10))

theorem vm_run_jump.eq (R : Value → World → Prop) (r : Option Addr) (i_0 : Int) (i_1 : Int) (i_2 : Int) (i_3 : Int) (w : World) : fnVC Try.prog none vm_run_jump.live Try.f52 R [(.pointer r), (.agg #[(.int .u16 i_0), (.int .u8 i_1), (.int .u8 i_2), (.int .u32 i_3)])] w = vm_run_jump.vc R r i_0 i_1 i_2 i_3 w := by kernel_rfl
set_option maxHeartbeats 4000000 in
theorem vm_run_jump.ok {R : Value → World → Prop} {r : Option Addr} {i_0 : Int} {i_1 : Int} {i_2 : Int} {i_3 : Int} {w : World} (h : vm_run_jump.vc R r i_0 i_1 i_2 i_3 w) : Run Try.prog 52 #[(.pointer r), (.agg #[(.int .u16 i_0), (.int .u8 i_1), (.int .u8 i_2), (.int .u32 i_3)])] w R := by
  have h2 := Eq.mpr (vm_run_jump.eq R r i_0 i_1 i_2 i_3 w) h
  exact fn_sound Try.mixed Try.func52 (by kernel_rfl) h2

/-! ### (*riddle/machine.Words).Back: function 53 -/
noncomputable def machine_Words_Back.body : Code := bodyOf Try.f53
def machine_Words_Back.live : Nat → List Nat
  | _ => []
@[reducible] def machine_Words_Back.vc (R : Value → World → Prop) (w : Option Addr) (i_0 : Int) (i_1 : Int) (i_2 : Int) (i_3 : Int) (w_2 : World) : Prop :=
  letW (w_2.alloc (.cells #[(.int .u16 i_0), (.int .u8 i_1), (.int .u8 i_2), (.int .u32 i_3)] 45)) fun w_3 => ∃ t6 : Int, w_3.cell? (newA w_2) = some (.int .u16 t6) ∧ ifP ((t6 : Int) == 22)
    (∃ t9p : Addr, w = some t9p ∧ ∃ t11 : Int, w_3.cell? t9p = some (.int .u32 t11) ∧ R (.int .u32 t11) w_3)
    (∃ t13 : Int, w_3.cell? ((newA w_2).add 3) = some (.int .u32 t13) ∧ R (.int .u32 t13) w_3)

theorem machine_Words_Back.eq (R : Value → World → Prop) (w : Option Addr) (i_0 : Int) (i_1 : Int) (i_2 : Int) (i_3 : Int) (w_2 : World) : fnVC Try.prog none machine_Words_Back.live Try.f53 R [(.pointer w), (.agg #[(.int .u16 i_0), (.int .u8 i_1), (.int .u8 i_2), (.int .u32 i_3)])] w_2 = machine_Words_Back.vc R w i_0 i_1 i_2 i_3 w_2 := by kernel_rfl
set_option maxHeartbeats 4000000 in
theorem machine_Words_Back.ok {R : Value → World → Prop} {w : Option Addr} {i_0 : Int} {i_1 : Int} {i_2 : Int} {i_3 : Int} {w_2 : World} (h : machine_Words_Back.vc R w i_0 i_1 i_2 i_3 w_2) : Run Try.prog 53 #[(.pointer w), (.agg #[(.int .u16 i_0), (.int .u8 i_1), (.int .u8 i_2), (.int .u32 i_3)])] w_2 R := by
  have h2 := Eq.mpr (machine_Words_Back.eq R w i_0 i_1 i_2 i_3 w_2) h
  exact fn_sound Try.mixed Try.func53 (by kernel_rfl) h2

/-! ### (*riddle/vm.run).play: function 33 -/
noncomputable def vm_run_play.body : Code := bodyOf Try.f33
def vm_run_play.live : Nat → List Nat
  | 0 => [0, 1, 2, 6]
  | _ => []
noncomputable def vm_run_play.c0 : Code := sub vm_run_play.body [1, 0, 0]
def vm_run_play.K0 (R : Value → World → Prop) : Ex → St → World → Prop := (blockK 0 (retK Try.prog Try.f33 R))
def vm_run_play.L0 (R : Value → World → Prop) (r : Option Addr) (pA : Option Addr) (pn : Nat) (pc : Nat) (seen : Value) (does : Option Addr) (w : World) : Prop :=
  loopVC (fun K => code Try.prog none vm_run_play.live 0 vm_run_play.c0 K) (vm_run_play.live 0) (vm_run_play.K0 R) [(.pointer r), (.slice pA pn pc), seen, undef, undef, undef, (.pointer does), undef, undef, undef, undef, undef, undef, undef, undef, undef, undef, undef, undef, undef, undef, undef, undef, undef, undef, undef, undef, undef, undef, undef, undef, undef, undef, undef, undef, undef, undef, undef, undef, undef, undef, undef, undef, undef, undef, undef, undef, undef, undef, undef, undef, undef, undef, undef, undef, undef, undef, undef, undef, undef, undef, undef, undef, undef, undef, undef, undef, undef, undef, undef, undef, undef, undef, undef, undef] w
def vm_run_play.J1 (R : Value → World → Prop) (r : Option Addr) (pA : Option Addr) (pn : Nat) (pc : Nat) (seen : Value) (does : Option Addr) (w : World) : Prop :=
  vm_run_play.L0 R r pA pn pc seen does w

def vm_run_play.J0 (R : Value → World → Prop) (r : Option Addr) (pA : Option Addr) (pn : Nat) (pc : Nat) (seen : Value) (does : Option Addr) (t21 : Bool) (w : World) : Prop :=
  ifP t21
    (∃ t24p : Addr, r = some t24p ∧ ∃ t26 : Int, w.cell? (t24p.add 20) = some (.int .i64 t26) ∧ ∃ (g : FuncId) (fs cs : Array Value), seen = .func (.func g) fs cs ∧ okCall Try.prog g = true ∧ Run Try.prog g (fs ++ #[(.int .i64 t26)] ++ cs) w fun v w_2 => v = (.tuple #[]) ∧ ∃ t30p : Addr, r = some t30p ∧ ∃ t32 : Int, w_2.cell? (t30p.add 20) = some (.int .i64 t32) ∧ 0 ≤ (t32 : Int) ∧ (t32 : Int) < ((pn : Nat) : Int) ∧ ∃ t33p : Addr, pA = some t33p ∧ ∃ t34_0 : Int, w_2.cell? (t33p.add (Int.toNat t32 * 4)) = some (.int .u16 t34_0) ∧ ∃ t34_1 : Int, w_2.cell? ((t33p.add (Int.toNat t32 * 4)).add 1) = some (.int .u8 t34_1) ∧ ∃ t34_2 : Int, w_2.cell? ((t33p.add (Int.toNat t32 * 4)).add 2) = some (.int .u8 t34_2) ∧ ∃ t34_3 : Int, w_2.cell? ((t33p.add (Int.toNat t32 * 4)).add 3) = some (.int .u32 t34_3) ∧ letW (w_2.alloc (.cells #[(.int .u16 0), (.int .u8 0), (.int .u8 0), (.int .u32 0)] 45)) fun w_3 => storeRow (newA w_2) 0 [(.int .u16 t34_0), (.int .u8 t34_1), (.int .u8 t34_2), (.int .u32 t34_3)] w_3 fun w_4 => ∃ t36p : Addr, r = some t36p ∧ ∃ t38 : Int, w_4.cell? (t36p.add 20) = some (.int .i64 t38) ∧ ∃ t40p : Addr, r = some t40p ∧ (∃ u : Value, w_4.cell? (t40p.add 20) = some u) ∧ w_4.frozen? (t40p.add 20) = false ∧ letW (w_4.setCell (t40p.add 20) (.int .i64 (IntKind.i64.wrap (t38 + 1)))) fun w_5 => ∃ t43 : Int, w_5.cell? (newA w_2) = some (.int .u16 t43) ∧ Run Try.prog 51 #[(.int .u16 t43)] w_5 fun v_2 w_6 => ∃ t44 : Int, v_2 = (.int .i64 t44) ∧ ifP ((t44 : Int) == 5)
    (∃ t59_0 : Int, w_6.cell? (newA w_2) = some (.int .u16 t59_0) ∧ ∃ t59_1 : Int, w_6.cell? ((newA w_2).add 1) = some (.int .u8 t59_1) ∧ ∃ t59_2 : Int, w_6.cell? ((newA w_2).add 2) = some (.int .u8 t59_2) ∧ ∃ t59_3 : Int, w_6.cell? ((newA w_2).add 3) = some (.int .u32 t59_3) ∧ Run Try.prog 52 #[(.pointer r), (.agg #[(.int .u16 t59_0), (.int .u8 t59_1), (.int .u8 t59_2), (.int .u32 t59_3)])] w_6 fun v_3 w_7 => v_3 = (.tuple #[]) ∧ vm_run_play.L0 R r pA pn pc seen does w_7)
    (ifP ((t44 : Int) == 6)
    (∃ S_ : World → Prop, S_ w_6.drew ∧ letW w_6.drew fun w_8 => ∃ t66p : Addr, r = some t66p ∧ ∃ t69_0 : Int, (∀ u : World, S_ u → u.cell? (newA w_2) = some (.int .u16 t69_0)) ∧ ∃ t69_1 : Int, (∀ u_2 : World, S_ u_2 → u_2.cell? ((newA w_2).add 1) = some (.int .u8 t69_1)) ∧ ∃ t69_2 : Int, (∀ u_3 : World, S_ u_3 → u_3.cell? ((newA w_2).add 2) = some (.int .u8 t69_2)) ∧ ∃ t69_3 : Int, (∀ u_4 : World, S_ u_4 → u_4.cell? ((newA w_2).add 3) = some (.int .u32 t69_3)) ∧ Run Try.prog 53 #[(.pointer (some t66p)), (.agg #[(.int .u16 t69_0), (.int .u8 t69_1), (.int .u8 t69_2), (.int .u32 t69_3)])] w_8 fun v_4 w_9 => ∃ t70 : Int, v_4 = (.int .u32 t70) ∧ ∃ t71p : Addr, r = some t71p ∧ (∃ u : Value, w_9.cell? (t71p.add 21) = some u) ∧ w_9.frozen? (t71p.add 21) = false ∧ letW (w_9.setCell (t71p.add 21) (.int .u32 t70)) fun w_10 => ∃ t73p : Addr, r = some t73p ∧ (∃ u : Value, w_10.cell? (t73p.add 22) = some u) ∧ w_10.frozen? (t73p.add 22) = false ∧ letW (w_10.setCell (t73p.add 22) (.bool true)) fun w_11 => vm_run_play.J1 R r pA pn pc seen does w_11)
    (∃ S__2 : World → Prop, S__2 w_6.drew ∧ letW w_6.drew fun w_12 => ∃ t47 : Int, (∀ u_5 : World, S__2 u_5 → u_5.cell? (newA w_2) = some (.int .u16 t47)) ∧ ∃ t48p : Addr, does = some t48p ∧ 0 ≤ (t47 : Int) ∧ (t47 : Int) < ((256 : Nat) : Int) ∧ ∃ t50 : Value, (∀ u_6 : World, S__2 u_6 → u_6.cell? (t48p.add (Int.toNat t47 * 1)) = some t50) ∧ ∃ t52p : Addr, r = some t52p ∧ ∃ t54_0 : Int, (∀ u_7 : World, S__2 u_7 → u_7.cell? (newA w_2) = some (.int .u16 t54_0)) ∧ ∃ t54_1 : Int, (∀ u_8 : World, S__2 u_8 → u_8.cell? ((newA w_2).add 1) = some (.int .u8 t54_1)) ∧ ∃ t54_2 : Int, (∀ u_9 : World, S__2 u_9 → u_9.cell? ((newA w_2).add 2) = some (.int .u8 t54_2)) ∧ ∃ t54_3 : Int, (∀ u_10 : World, S__2 u_10 → u_10.cell? ((newA w_2).add 3) = some (.int .u32 t54_3)) ∧ ∃ (g_2 : FuncId) (fs_2 cs_2 : Array Value), t50 = .func (.func g_2) fs_2 cs_2 ∧ okCall Try.prog g_2 = true ∧ Run Try.prog g_2 (fs_2 ++ #[(.pointer (some t52p)), (.agg #[(.int .u16 t54_0), (.int .u8 t54_1), (.int .u8 t54_2), (.int .u32 t54_3)])] ++ cs_2) w_12 fun v_5 w_13 => v_5 = (.tuple #[]) ∧ vm_run_play.L0 R r pA pn pc seen does w_13)))
    (R (.tuple #[]) w)

@[reducible] def vm_run_play.B0 (R : Value → World → Prop) (r : Option Addr) (pA : Option Addr) (pn : Nat) (pc : Nat) (seen : Value) (does : Option Addr) (w : World) : Prop :=
  ∃ t10p : Addr, r = some t10p ∧ ∃ t12 : Bool, w.cell? (t10p.add 22) = some (.bool t12) ∧ ifP (!t12) (∃ t16p : Addr, r = some t16p ∧ ∃ t19 : Int, w.cell? (t16p.add 19) = some (.int .i64 t19) ∧ vm_run_play.J0 R r pA pn pc seen does ((t19 : Int) == 0) w) (vm_run_play.J0 R r pA pn pc seen does false w)

@[reducible] def vm_run_play.vc (R : Value → World → Prop) (r : Option Addr) (pA : Option Addr) (pn : Nat) (pc : Nat) (seen : Value) (w : World) : Prop :=
  Run Try.prog 50 #[] w fun v w_2 => ∃ t8 : Option Addr, v = (.pointer t8) ∧ vm_run_play.L0 R r pA pn pc seen t8 w_2

theorem vm_run_play.B0_eq (R : Value → World → Prop) (r : Option Addr) (pA : Option Addr) (pn : Nat) (pc : Nat) (seen : Value) (does : Option Addr) (w : World) (ts : Nat → Value) :
    code Try.prog none vm_run_play.live 0 vm_run_play.c0 (thenK (fun st w => loopVC (fun K => code Try.prog none vm_run_play.live 0 vm_run_play.c0 K) (vm_run_play.live 0) (vm_run_play.K0 R) (clearFrom (vm_run_play.live 0) 0 st) w) (vm_run_play.K0 R)) (mergeFrom (vm_run_play.live 0) ts 0 (clearFrom (vm_run_play.live 0) 0 [(.pointer r), (.slice pA pn pc), seen, undef, undef, undef, (.pointer does), undef, undef, undef, undef, undef, undef, undef, undef, undef, undef, undef, undef, undef, undef, undef, undef, undef, undef, undef, undef, undef, undef, undef, undef, undef, undef, undef, undef, undef, undef, undef, undef, undef, undef, undef, undef, undef, undef, undef, undef, undef, undef, undef, undef, undef, undef, undef, undef, undef, undef, undef, undef, undef, undef, undef, undef, undef, undef, undef, undef, undef, undef, undef, undef, undef, undef, undef, undef])) w = vm_run_play.B0 R r pA pn pc seen does w := by kernel_rfl
theorem vm_run_play.L0_step {R : Value → World → Prop} {r : Option Addr} {pA : Option Addr} {pn : Nat} {pc : Nat} {seen : Value} {does : Option Addr} {w : World} (h : vm_run_play.B0 R r pA pn pc seen does w) : vm_run_play.L0 R r pA pn pc seen does w :=
  loop_step (live := vm_run_play.live) (b := 0) (x := vm_run_play.c0) fun ts => Eq.mpr (vm_run_play.B0_eq R r pA pn pc seen does w ts) h
theorem vm_run_play.eq (R : Value → World → Prop) (r : Option Addr) (pA : Option Addr) (pn : Nat) (pc : Nat) (seen : Value) (w : World) : fnVC Try.prog none vm_run_play.live Try.f33 R [(.pointer r), (.slice pA pn pc), seen] w = vm_run_play.vc R r pA pn pc seen w := by kernel_rfl
set_option maxHeartbeats 4000000 in
theorem vm_run_play.ok {R : Value → World → Prop} {r : Option Addr} {pA : Option Addr} {pn : Nat} {pc : Nat} {seen : Value} {w : World} (h : vm_run_play.vc R r pA pn pc seen w) : Run Try.prog 33 #[(.pointer r), (.slice pA pn pc), seen] w R := by
  have h2 := Eq.mpr (vm_run_play.eq R r pA pn pc seen w) h
  exact fn_sound Try.mixed Try.func33 (by kernel_rfl) h2

/-! ### riddle/vm.Run$1: function 34 -/
noncomputable def vm_Run_1.body : Code := bodyOf Try.f34
def vm_Run_1.live : Nat → List Nat
  | _ => []
@[reducible] def vm_Run_1.vc (R : Value → World → Prop) (t0 : Int) (t1 : Addr) (w : World) : Prop :=
  ∃ t3 : Int, w.cell? t1 = some (.int .i64 t3) ∧ (∃ u : Value, w.cell? t1 = some u) ∧ w.frozen? t1 = false ∧ letW (w.setCell t1 (.int .i64 (IntKind.i64.wrap (t3 + 1)))) fun w_2 => R (.tuple #[]) w_2

theorem vm_Run_1.eq (R : Value → World → Prop) (t0 : Int) (t1 : Addr) (w : World) : fnVC Try.prog none vm_Run_1.live Try.f34 R [(.int .i64 t0), (.pointer (some t1))] w = vm_Run_1.vc R t0 t1 w := by kernel_rfl
set_option maxHeartbeats 4000000 in
theorem vm_Run_1.ok {R : Value → World → Prop} {t0 : Int} {t1 : Addr} {w : World} (h : vm_Run_1.vc R t0 t1 w) : Run Try.prog 34 #[(.int .i64 t0), (.pointer (some t1))] w R := by
  have h2 := Eq.mpr (vm_Run_1.eq R t0 t1 w) h
  exact fn_sound Try.mixed Try.func34 (by kernel_rfl) h2

/-! ### riddle/vm.Run: function 14 -/
noncomputable def vm_Run.body : Code := bodyOf Try.f14
def vm_Run.live : Nat → List Nat
  | _ => []
@[reducible] def vm_Run.vc (R : Value → World → Prop) (pA : Option Addr) (pn : Nat) (pc : Nat) (packetA : Option Addr) (packetn : Nat) (packetc : Nat) (w : World) : Prop :=
  letW (w.alloc (.cells #[(.int .u32 0), (.int .i64 0), (.int .i64 0)] 26)) fun w_2 => Run Try.prog 32 #[(.slice pA pn pc), (.slice packetA packetn packetc)] w_2 fun v w_3 => ∃ t120 : Option Addr, ∃ t121 : Int, v = (.tuple #[(.pointer t120), (.int .i64 t121)]) ∧ ifP ((t121 : Int) != 0)
    (storeRow (newA w) 0 [(.int .u32 0), (.int .i64 0), (.int .i64 0)] w_3 fun w_4 => ∃ t4_0 : Int, w_4.cell? (newA w) = some (.int .u32 t4_0) ∧ ∃ t4_1 : Int, w_4.cell? ((newA w).add 1) = some (.int .i64 t4_1) ∧ ∃ t4_2 : Int, w_4.cell? ((newA w).add 2) = some (.int .i64 t4_2) ∧ R (.tuple #[(.agg #[(.int .u32 t4_0), (.int .i64 t4_1), (.int .i64 t4_2)]), (.int .i64 t121)]) w_4)
    (letW (w_3.alloc (.cells #[(.int .i64 0)] 3)) fun w_5 => (∃ u : Value, w_5.cell? (newA w_3) = some u) ∧ w_5.frozen? (newA w_3) = false ∧ letW (w_5.setCell (newA w_3) (.int .i64 0)) fun w_6 => Run Try.prog 33 #[(.pointer t120), (.slice pA pn pc), (.func (.func 34) #[] #[(.pointer (some (newA w_3)))])] w_6 fun v_2 w_7 => v_2 = (.tuple #[]) ∧ ∃ S_ : World → Prop, S_ w_7.drew ∧ letW w_7.drew fun w_8 => ∃ t24p : Addr, t120 = some t24p ∧ ∃ t26 : Int, (∀ u : World, S_ u → u.cell? (t24p.add 21) = some (.int .u32 t26)) ∧ ∃ t28p : Addr, t120 = some t28p ∧ ∃ t31 : Int, (∀ u_2 : World, S_ u_2 → u_2.cell? (t28p.add 19) = some (.int .i64 t31)) ∧ ∃ t32 : Int, (∀ u_3 : World, S_ u_3 → u_3.cell? (newA w_3) = some (.int .i64 t32)) ∧ storeRow (newA w) 0 [(.int .u32 t26), (.int .i64 t31), (.int .i64 t32)] w_8 fun w_9 => ∃ t4_0_2 : Int, w_9.cell? (newA w) = some (.int .u32 t4_0_2) ∧ ∃ t4_1_2 : Int, w_9.cell? ((newA w).add 1) = some (.int .i64 t4_1_2) ∧ ∃ t4_2_2 : Int, w_9.cell? ((newA w).add 2) = some (.int .i64 t4_2_2) ∧ R (.tuple #[(.agg #[(.int .u32 t4_0_2), (.int .i64 t4_1_2), (.int .i64 t4_2_2)]), (.int .i64 0)]) w_9)

theorem vm_Run.eq (R : Value → World → Prop) (pA : Option Addr) (pn : Nat) (pc : Nat) (packetA : Option Addr) (packetn : Nat) (packetc : Nat) (w : World) : fnVC Try.prog none vm_Run.live Try.f14 R [(.slice pA pn pc), (.slice packetA packetn packetc)] w = vm_Run.vc R pA pn pc packetA packetn packetc w := by kernel_rfl
set_option maxHeartbeats 4000000 in
theorem vm_Run.ok {R : Value → World → Prop} {pA : Option Addr} {pn : Nat} {pc : Nat} {packetA : Option Addr} {packetn : Nat} {packetc : Nat} {w : World} (h : vm_Run.vc R pA pn pc packetA packetn packetc w) : Run Try.prog 14 #[(.slice pA pn pc), (.slice packetA packetn packetc)] w R := by
  have h2 := Eq.mpr (vm_Run.eq R pA pn pc packetA packetn packetc w) h
  exact fn_sound Try.mixed Try.func14 (by kernel_rfl) h2

/-! ### riddle/riddlelaw0.SameInsns: function 35 -/
noncomputable def law0_SameInsns.body : Code := bodyOf Try.f35
def law0_SameInsns.live : Nat → List Nat
  | 0 => [0, 1, 5]
  | _ => []
noncomputable def law0_SameInsns.c0 : Code := sub law0_SameInsns.body [1, 1, 0, 1, 0, 0]
def law0_SameInsns.K0 (R : Value → World → Prop) : Ex → St → World → Prop := (blockK 0 (thenK (fun st w => code Try.prog none law0_SameInsns.live 0 (sub law0_SameInsns.body [1, 1, 1]) (retK Try.prog Try.f35 R) st w) (retK Try.prog Try.f35 R)))
def law0_SameInsns.L0 (R : Value → World → Prop) (aA : Option Addr) (an : Nat) (ac : Nat) (bA : Option Addr) (bn : Nat) (bc : Nat) (i : Int) (w : World) : Prop :=
  loopVC (fun K => code Try.prog none law0_SameInsns.live 0 law0_SameInsns.c0 K) (law0_SameInsns.live 0) (law0_SameInsns.K0 R) [(.slice aA an ac), (.slice bA bn bc), undef, undef, undef, (.int .i64 i), undef, undef, undef, undef, undef, undef, undef, undef, undef, undef, undef, undef, undef, undef, undef, undef, undef, undef, undef, undef] w
@[reducible] def law0_SameInsns.B0 (R : Value → World → Prop) (aA : Option Addr) (an : Nat) (ac : Nat) (bA : Option Addr) (bn : Nat) (bc : Nat) (i : Int) (w : World) : Prop :=
  ifP (decide ((i : Int) < ((an : Nat) : Int)))
    (∃ S_ : World → Prop, S_ w.drew ∧ letW w.drew fun w_2 => 0 ≤ (i : Int) ∧ (i : Int) < ((an : Nat) : Int) ∧ ∃ t19p : Addr, aA = some t19p ∧ ∃ t20_0 : Int, (∀ u : World, S_ u → u.cell? (t19p.add (Int.toNat i * 4)) = some (.int .u16 t20_0)) ∧ ∃ t20_1 : Int, (∀ u_2 : World, S_ u_2 → u_2.cell? ((t19p.add (Int.toNat i * 4)).add 1) = some (.int .u8 t20_1)) ∧ ∃ t20_2 : Int, (∀ u_3 : World, S_ u_3 → u_3.cell? ((t19p.add (Int.toNat i * 4)).add 2) = some (.int .u8 t20_2)) ∧ ∃ t20_3 : Int, (∀ u_4 : World, S_ u_4 → u_4.cell? ((t19p.add (Int.toNat i * 4)).add 3) = some (.int .u32 t20_3)) ∧ 0 ≤ (i : Int) ∧ (i : Int) < ((bn : Nat) : Int) ∧ ∃ t23p : Addr, bA = some t23p ∧ ∃ t24_0 : Int, (∀ u_5 : World, S_ u_5 → u_5.cell? (t23p.add (Int.toNat i * 4)) = some (.int .u16 t24_0)) ∧ ∃ t24_1 : Int, (∀ u_6 : World, S_ u_6 → u_6.cell? ((t23p.add (Int.toNat i * 4)).add 1) = some (.int .u8 t24_1)) ∧ ∃ t24_2 : Int, (∀ u_7 : World, S_ u_7 → u_7.cell? ((t23p.add (Int.toNat i * 4)).add 2) = some (.int .u8 t24_2)) ∧ ∃ t24_3 : Int, (∀ u_8 : World, S_ u_8 → u_8.cell? ((t23p.add (Int.toNat i * 4)).add 3) = some (.int .u32 t24_3)) ∧ ∃ (v : Value) (w_3 : World), (eqSem .neq 45 (.tmp 20) (.tmp 24) (.agg #[(.int .u16 t20_0), (.int .u8 t20_1), (.int .u8 t20_2), (.int .u32 t20_3)]) (.agg #[(.int .u16 t24_0), (.int .u8 t24_1), (.int .u8 t24_2), (.int .u32 t24_3)])).run Try.prog w_2 = .ok v w_3 ∧ ∃ t25 : Bool, v = (.bool t25) ∧ ifP t25
    (R (.bool false) w_3)
    (law0_SameInsns.L0 R aA an ac bA bn bc (IntKind.i64.wrap (i + 1)) w_3))
    (R (.bool true) w)

@[reducible] def law0_SameInsns.vc (R : Value → World → Prop) (aA : Option Addr) (an : Nat) (ac : Nat) (bA : Option Addr) (bn : Nat) (bc : Nat) (w : World) : Prop :=
  ifP ((((an : Nat) : Int) : Int) != ((bn : Nat) : Int))
    (R (.bool false) w)
    (law0_SameInsns.L0 R aA an ac bA bn bc 0 w)

theorem law0_SameInsns.B0_eq (R : Value → World → Prop) (aA : Option Addr) (an : Nat) (ac : Nat) (bA : Option Addr) (bn : Nat) (bc : Nat) (i : Int) (w : World) (ts : Nat → Value) :
    code Try.prog none law0_SameInsns.live 0 law0_SameInsns.c0 (thenK (fun st w => loopVC (fun K => code Try.prog none law0_SameInsns.live 0 law0_SameInsns.c0 K) (law0_SameInsns.live 0) (law0_SameInsns.K0 R) (clearFrom (law0_SameInsns.live 0) 0 st) w) (law0_SameInsns.K0 R)) (mergeFrom (law0_SameInsns.live 0) ts 0 (clearFrom (law0_SameInsns.live 0) 0 [(.slice aA an ac), (.slice bA bn bc), undef, undef, undef, (.int .i64 i), undef, undef, undef, undef, undef, undef, undef, undef, undef, undef, undef, undef, undef, undef, undef, undef, undef, undef, undef, undef])) w = law0_SameInsns.B0 R aA an ac bA bn bc i w := by kernel_rfl
theorem law0_SameInsns.L0_step {R : Value → World → Prop} {aA : Option Addr} {an : Nat} {ac : Nat} {bA : Option Addr} {bn : Nat} {bc : Nat} {i : Int} {w : World} (h : law0_SameInsns.B0 R aA an ac bA bn bc i w) : law0_SameInsns.L0 R aA an ac bA bn bc i w :=
  loop_step (live := law0_SameInsns.live) (b := 0) (x := law0_SameInsns.c0) fun ts => Eq.mpr (law0_SameInsns.B0_eq R aA an ac bA bn bc i w ts) h
theorem law0_SameInsns.eq (R : Value → World → Prop) (aA : Option Addr) (an : Nat) (ac : Nat) (bA : Option Addr) (bn : Nat) (bc : Nat) (w : World) : fnVC Try.prog none law0_SameInsns.live Try.f35 R [(.slice aA an ac), (.slice bA bn bc)] w = law0_SameInsns.vc R aA an ac bA bn bc w := by kernel_rfl
set_option maxHeartbeats 4000000 in
theorem law0_SameInsns.ok {R : Value → World → Prop} {aA : Option Addr} {an : Nat} {ac : Nat} {bA : Option Addr} {bn : Nat} {bc : Nat} {w : World} (h : law0_SameInsns.vc R aA an ac bA bn bc w) : Run Try.prog 35 #[(.slice aA an ac), (.slice bA bn bc)] w R := by
  have h2 := Eq.mpr (law0_SameInsns.eq R aA an ac bA bn bc w) h
  exact fn_sound Try.mixed Try.func35 (by kernel_rfl) h2

/-! ### riddle/riddlelaw0.SpoilInsns: function 36 -/
noncomputable def law0_SpoilInsns.body : Code := bodyOf Try.f36
def law0_SpoilInsns.live : Nat → List Nat
  | 0 => [0, 2, 3]
  | 2 => [0, 4]
  | _ => []
noncomputable def law0_SpoilInsns.c0 : Code := sub law0_SpoilInsns.body [1, 0, 1, 0, 0]
noncomputable def law0_SpoilInsns.c2 : Code := sub law0_SpoilInsns.body [1, 1, 1, 0, 0]
def law0_SpoilInsns.K0 (R : Value → World → Prop) : Ex → St → World → Prop := (blockK 0 (thenK (fun st w => code Try.prog none law0_SpoilInsns.live 0 (sub law0_SpoilInsns.body [1, 1]) (retK Try.prog Try.f36 R) st w) (retK Try.prog Try.f36 R)))
def law0_SpoilInsns.L0 (R : Value → World → Prop) (aA : Option Addr) (an : Nat) (ac : Nat) (fullA : Option Addr) (fulln : Nat) (fullc : Nat) (i : Int) (w : World) : Prop :=
  loopVC (fun K => code Try.prog none law0_SpoilInsns.live 0 law0_SpoilInsns.c0 K) (law0_SpoilInsns.live 0) (law0_SpoilInsns.K0 R) [(.slice aA an ac), undef, (.slice fullA fulln fullc), (.int .i64 i), undef, undef, undef, undef, undef, undef, undef, undef, undef, undef, undef, undef, undef, undef, undef, undef, undef, undef, undef, undef, undef, undef, undef, undef, undef] w
def law0_SpoilInsns.K2 (R : Value → World → Prop) : Ex → St → World → Prop := (blockK 2 (retK Try.prog Try.f36 R))
def law0_SpoilInsns.L2 (R : Value → World → Prop) (aA : Option Addr) (an : Nat) (ac : Nat) (i : Int) (w : World) : Prop :=
  loopVC (fun K => code Try.prog none law0_SpoilInsns.live 2 law0_SpoilInsns.c2 K) (law0_SpoilInsns.live 2) (law0_SpoilInsns.K2 R) [(.slice aA an ac), undef, undef, undef, (.int .i64 i), undef, undef, undef, undef, undef, undef, undef, undef, undef, undef, undef, undef, undef, undef, undef, undef, undef, undef, undef, undef, undef, undef, undef, undef] w
@[reducible] def law0_SpoilInsns.B2 (R : Value → World → Prop) (aA : Option Addr) (an : Nat) (ac : Nat) (i : Int) (w : World) : Prop :=
  ifP (decide ((i : Int) < ((an : Nat) : Int)))
    (0 ≤ (i : Int) ∧ (i : Int) < ((an : Nat) : Int) ∧ ∃ t28p : Addr, aA = some t28p ∧ storeRow (t28p.add (Int.toNat i * 4)) 0 [(.int .u16 7), (.int .u8 0), (.int .u8 0), (.int .u32 77)] w fun w_2 => law0_SpoilInsns.L2 R aA an ac (IntKind.i64.wrap (i + 1)) w_2)
    (R (.tuple #[]) w)

@[reducible] def law0_SpoilInsns.B0 (R : Value → World → Prop) (aA : Option Addr) (an : Nat) (ac : Nat) (fullA : Option Addr) (fulln : Nat) (fullc : Nat) (i : Int) (w : World) : Prop :=
  ifP (decide ((i : Int) < ((fulln : Nat) : Int)))
    (0 ≤ (i : Int) ∧ (i : Int) < ((fulln : Nat) : Int) ∧ ∃ t18p : Addr, fullA = some t18p ∧ storeRow (t18p.add (Int.toNat i * 4)) 0 [(.int .u16 7), (.int .u8 0), (.int .u8 0), (.int .u32 77)] w fun w_2 => law0_SpoilInsns.L0 R aA an ac fullA fulln fullc (IntKind.i64.wrap (i + 1)) w_2)
    (law0_SpoilInsns.L2 R aA an ac 0 w)

@[reducible] def law0_SpoilInsns.vc (R : Value → World → Prop) (aA : Option Addr) (an : Nat) (ac : Nat) (w : World) : Prop :=
  letW (w.alloc (.cells #[(.int .u16 7), (.int .u8 0), (.int .u8 0), (.int .u32 77)] 45)) fun w_2 => ∃ (v : Value) (w_3 : World), (Builtin.append_ #[22, 22] 22 #[(.slice aA an ac), (.slice (some (newA w)) 1 1)]).run Try.prog w_2 = .ok v w_3 ∧ ∃ (t8A : Option Addr) (t8n t8c : Nat), v = (.slice t8A t8n t8c) ∧ law0_SpoilInsns.L0 R aA an ac t8A t8n t8c 0 w_3

theorem law0_SpoilInsns.B0_eq (R : Value → World → Prop) (aA : Option Addr) (an : Nat) (ac : Nat) (fullA : Option Addr) (fulln : Nat) (fullc : Nat) (i : Int) (w : World) (ts : Nat → Value) :
    code Try.prog none law0_SpoilInsns.live 0 law0_SpoilInsns.c0 (thenK (fun st w => loopVC (fun K => code Try.prog none law0_SpoilInsns.live 0 law0_SpoilInsns.c0 K) (law0_SpoilInsns.live 0) (law0_SpoilInsns.K0 R) (clearFrom (law0_SpoilInsns.live 0) 0 st) w) (law0_SpoilInsns.K0 R)) (mergeFrom (law0_SpoilInsns.live 0) ts 0 (clearFrom (law0_SpoilInsns.live 0) 0 [(.slice aA an ac), undef, (.slice fullA fulln fullc), (.int .i64 i), undef, undef, undef, undef, undef, undef, undef, undef, undef, undef, undef, undef, undef, undef, undef, undef, undef, undef, undef, undef, undef, undef, undef, undef, undef])) w = law0_SpoilInsns.B0 R aA an ac fullA fulln fullc i w := by kernel_rfl
theorem law0_SpoilInsns.L0_step {R : Value → World → Prop} {aA : Option Addr} {an : Nat} {ac : Nat} {fullA : Option Addr} {fulln : Nat} {fullc : Nat} {i : Int} {w : World} (h : law0_SpoilInsns.B0 R aA an ac fullA fulln fullc i w) : law0_SpoilInsns.L0 R aA an ac fullA fulln fullc i w :=
  loop_step (live := law0_SpoilInsns.live) (b := 0) (x := law0_SpoilInsns.c0) fun ts => Eq.mpr (law0_SpoilInsns.B0_eq R aA an ac fullA fulln fullc i w ts) h
theorem law0_SpoilInsns.B2_eq (R : Value → World → Prop) (aA : Option Addr) (an : Nat) (ac : Nat) (i : Int) (w : World) (ts : Nat → Value) :
    code Try.prog none law0_SpoilInsns.live 2 law0_SpoilInsns.c2 (thenK (fun st w => loopVC (fun K => code Try.prog none law0_SpoilInsns.live 2 law0_SpoilInsns.c2 K) (law0_SpoilInsns.live 2) (law0_SpoilInsns.K2 R) (clearFrom (law0_SpoilInsns.live 2) 0 st) w) (law0_SpoilInsns.K2 R)) (mergeFrom (law0_SpoilInsns.live 2) ts 0 (clearFrom (law0_SpoilInsns.live 2) 0 [(.slice aA an ac), undef, undef, undef, (.int .i64 i), undef, undef, undef, undef, undef, undef, undef, undef, undef, undef, undef, undef, undef, undef, undef, undef, undef, undef, undef, undef, undef, undef, undef, undef])) w = law0_SpoilInsns.B2 R aA an ac i w := by kernel_rfl
theorem law0_SpoilInsns.L2_step {R : Value → World → Prop} {aA : Option Addr} {an : Nat} {ac : Nat} {i : Int} {w : World} (h : law0_SpoilInsns.B2 R aA an ac i w) : law0_SpoilInsns.L2 R aA an ac i w :=
  loop_step (live := law0_SpoilInsns.live) (b := 2) (x := law0_SpoilInsns.c2) fun ts => Eq.mpr (law0_SpoilInsns.B2_eq R aA an ac i w ts) h
theorem law0_SpoilInsns.eq (R : Value → World → Prop) (aA : Option Addr) (an : Nat) (ac : Nat) (w : World) : fnVC Try.prog none law0_SpoilInsns.live Try.f36 R [(.slice aA an ac)] w = law0_SpoilInsns.vc R aA an ac w := by kernel_rfl
set_option maxHeartbeats 4000000 in
theorem law0_SpoilInsns.ok {R : Value → World → Prop} {aA : Option Addr} {an : Nat} {ac : Nat} {w : World} (h : law0_SpoilInsns.vc R aA an ac w) : Run Try.prog 36 #[(.slice aA an ac)] w R := by
  have h2 := Eq.mpr (law0_SpoilInsns.eq R aA an ac w) h
  exact fn_sound Try.mixed Try.func36 (by kernel_rfl) h2

/-! ### riddle/riddlelaw0.KeptInsns: function 15 -/
noncomputable def law0_KeptInsns.body : Code := bodyOf Try.f15
def law0_KeptInsns.live : Nat → List Nat
  | _ => []
def law0_KeptInsns.J0 (R : Value → World → Prop) (fullA : Option Addr) (fulln : Nat) (fullc : Nat) (ok_ : Bool) (w : World) : Prop :=
  Run Try.prog 36 #[(.slice fullA fulln fullc)] w fun v w_2 => v = (.tuple #[]) ∧ R (.bool ok_) w_2

@[reducible] def law0_KeptInsns.vc (R : Value → World → Prop) (lentA : Option Addr) (lentn : Nat) (lentc : Nat) (aA : Option Addr) (an : Nat) (ac : Nat) (w : World) : Prop :=
  (0 : Int) ≤ 0 ∧ (0 : Int) ≤ IntKind.i64.wrap (((lentn : Nat) : Int) + 3) ∧ (IntKind.i64.wrap (((lentn : Nat) : Int) + 3) : Int) ≤ ((lentc : Nat) : Int) ∧ Run Try.prog 35 #[(.slice lentA lentn lentc), (.slice aA an ac)] w fun v w_2 => ∃ t14 : Bool, v = (.bool t14) ∧ ifP t14 ((0 : Int) ≤ ((an : Nat) : Int) ∧ (((an : Nat) : Int) : Int) ≤ (((Int.toNat (IntKind.i64.wrap (((lentn : Nat) : Int) + 3))) - 0 : Nat) : Int) ∧ ((((Int.toNat (IntKind.i64.wrap (((lentn : Nat) : Int) + 3))) - 0 : Nat) : Int) : Int) ≤ ((lentc - 0 : Nat) : Int) ∧ letW (w_2.alloc (.cells #[(.int .u16 7), (.int .u8 0), (.int .u8 0), (.int .u32 77), (.int .u16 7), (.int .u8 0), (.int .u8 0), (.int .u32 77), (.int .u16 7), (.int .u8 0), (.int .u8 0), (.int .u32 77)] 45)) fun w_3 => Run Try.prog 35 #[(.slice (subA (subA lentA lentc 0 4) (lentc - 0) (Int.toNat ((an : Nat) : Int)) 4) (((Int.toNat (IntKind.i64.wrap (((lentn : Nat) : Int) + 3))) - 0) - (Int.toNat ((an : Nat) : Int))) ((lentc - 0) - (Int.toNat ((an : Nat) : Int)))), (.slice (some (newA w_2)) 3 3)] w_3 fun v_2 w_4 => ∃ t24 : Bool, v_2 = (.bool t24) ∧ law0_KeptInsns.J0 R (subA lentA lentc 0 4) ((Int.toNat (IntKind.i64.wrap (((lentn : Nat) : Int) + 3))) - 0) (lentc - 0) t24 w_4) (law0_KeptInsns.J0 R (subA lentA lentc 0 4) ((Int.toNat (IntKind.i64.wrap (((lentn : Nat) : Int) + 3))) - 0) (lentc - 0) false w_2)

theorem law0_KeptInsns.eq (R : Value → World → Prop) (lentA : Option Addr) (lentn : Nat) (lentc : Nat) (aA : Option Addr) (an : Nat) (ac : Nat) (w : World) : fnVC Try.prog none law0_KeptInsns.live Try.f15 R [(.slice lentA lentn lentc), (.slice aA an ac)] w = law0_KeptInsns.vc R lentA lentn lentc aA an ac w := by kernel_rfl
set_option maxHeartbeats 4000000 in
theorem law0_KeptInsns.ok {R : Value → World → Prop} {lentA : Option Addr} {lentn : Nat} {lentc : Nat} {aA : Option Addr} {an : Nat} {ac : Nat} {w : World} (h : law0_KeptInsns.vc R lentA lentn lentc aA an ac w) : Run Try.prog 15 #[(.slice lentA lentn lentc), (.slice aA an ac)] w R := by
  have h2 := Eq.mpr (law0_KeptInsns.eq R lentA lentn lentc aA an ac w) h
  exact fn_sound Try.mixed Try.func15 (by kernel_rfl) h2

/-! ### riddle/riddlelaw0.SameBytes: function 37 -/
noncomputable def law0_SameBytes.body : Code := bodyOf Try.f37
def law0_SameBytes.live : Nat → List Nat
  | 0 => [0, 1, 5]
  | _ => []
noncomputable def law0_SameBytes.c0 : Code := sub law0_SameBytes.body [1, 1, 0, 1, 0, 0]
def law0_SameBytes.K0 (R : Value → World → Prop) : Ex → St → World → Prop := (blockK 0 (thenK (fun st w => code Try.prog none law0_SameBytes.live 0 (sub law0_SameBytes.body [1, 1, 1]) (retK Try.prog Try.f37 R) st w) (retK Try.prog Try.f37 R)))
def law0_SameBytes.L0 (R : Value → World → Prop) (aA : Option Addr) (an : Nat) (ac : Nat) (bA : Option Addr) (bn : Nat) (bc : Nat) (i : Int) (w : World) : Prop :=
  loopVC (fun K => code Try.prog none law0_SameBytes.live 0 law0_SameBytes.c0 K) (law0_SameBytes.live 0) (law0_SameBytes.K0 R) [(.slice aA an ac), (.slice bA bn bc), undef, undef, undef, (.int .i64 i), undef, undef, undef, undef, undef, undef, undef, undef, undef, undef, undef, undef, undef, undef, undef, undef, undef, undef, undef, undef] w
@[reducible] def law0_SameBytes.B0 (R : Value → World → Prop) (aA : Option Addr) (an : Nat) (ac : Nat) (bA : Option Addr) (bn : Nat) (bc : Nat) (i : Int) (w : World) : Prop :=
  ifP (decide ((i : Int) < ((an : Nat) : Int)))
    (letW w.drew fun w_2 => 0 ≤ (i : Int) ∧ (i : Int) < ((an : Nat) : Int) ∧ ∃ t19p : Addr, aA = some t19p ∧ ∃ t20 : Int, w_2.cell? (t19p.add (Int.toNat i * 1)) = some (.int .u8 t20) ∧ 0 ≤ (i : Int) ∧ (i : Int) < ((bn : Nat) : Int) ∧ ∃ t23p : Addr, bA = some t23p ∧ ∃ t24 : Int, w_2.cell? (t23p.add (Int.toNat i * 1)) = some (.int .u8 t24) ∧ ifP ((t20 : Int) != t24)
    (R (.bool false) w_2)
    (law0_SameBytes.L0 R aA an ac bA bn bc (IntKind.i64.wrap (i + 1)) w_2))
    (R (.bool true) w)

@[reducible] def law0_SameBytes.vc (R : Value → World → Prop) (aA : Option Addr) (an : Nat) (ac : Nat) (bA : Option Addr) (bn : Nat) (bc : Nat) (w : World) : Prop :=
  ifP ((((an : Nat) : Int) : Int) != ((bn : Nat) : Int))
    (R (.bool false) w)
    (law0_SameBytes.L0 R aA an ac bA bn bc 0 w)

theorem law0_SameBytes.B0_eq (R : Value → World → Prop) (aA : Option Addr) (an : Nat) (ac : Nat) (bA : Option Addr) (bn : Nat) (bc : Nat) (i : Int) (w : World) (ts : Nat → Value) :
    code Try.prog none law0_SameBytes.live 0 law0_SameBytes.c0 (thenK (fun st w => loopVC (fun K => code Try.prog none law0_SameBytes.live 0 law0_SameBytes.c0 K) (law0_SameBytes.live 0) (law0_SameBytes.K0 R) (clearFrom (law0_SameBytes.live 0) 0 st) w) (law0_SameBytes.K0 R)) (mergeFrom (law0_SameBytes.live 0) ts 0 (clearFrom (law0_SameBytes.live 0) 0 [(.slice aA an ac), (.slice bA bn bc), undef, undef, undef, (.int .i64 i), undef, undef, undef, undef, undef, undef, undef, undef, undef, undef, undef, undef, undef, undef, undef, undef, undef, undef, undef, undef])) w = law0_SameBytes.B0 R aA an ac bA bn bc i w := by kernel_rfl
theorem law0_SameBytes.L0_step {R : Value → World → Prop} {aA : Option Addr} {an : Nat} {ac : Nat} {bA : Option Addr} {bn : Nat} {bc : Nat} {i : Int} {w : World} (h : law0_SameBytes.B0 R aA an ac bA bn bc i w) : law0_SameBytes.L0 R aA an ac bA bn bc i w :=
  loop_step (live := law0_SameBytes.live) (b := 0) (x := law0_SameBytes.c0) fun ts => Eq.mpr (law0_SameBytes.B0_eq R aA an ac bA bn bc i w ts) h
theorem law0_SameBytes.eq (R : Value → World → Prop) (aA : Option Addr) (an : Nat) (ac : Nat) (bA : Option Addr) (bn : Nat) (bc : Nat) (w : World) : fnVC Try.prog none law0_SameBytes.live Try.f37 R [(.slice aA an ac), (.slice bA bn bc)] w = law0_SameBytes.vc R aA an ac bA bn bc w := by kernel_rfl
set_option maxHeartbeats 4000000 in
theorem law0_SameBytes.ok {R : Value → World → Prop} {aA : Option Addr} {an : Nat} {ac : Nat} {bA : Option Addr} {bn : Nat} {bc : Nat} {w : World} (h : law0_SameBytes.vc R aA an ac bA bn bc w) : Run Try.prog 37 #[(.slice aA an ac), (.slice bA bn bc)] w R := by
  have h2 := Eq.mpr (law0_SameBytes.eq R aA an ac bA bn bc w) h
  exact fn_sound Try.mixed Try.func37 (by kernel_rfl) h2

/-! ### riddle/riddlelaw0.SpoilBytes: function 38 -/
noncomputable def law0_SpoilBytes.body : Code := bodyOf Try.f38
def law0_SpoilBytes.live : Nat → List Nat
  | 0 => [0, 2, 3]
  | 2 => [0, 4]
  | _ => []
noncomputable def law0_SpoilBytes.c0 : Code := sub law0_SpoilBytes.body [1, 0, 1, 0, 0]
noncomputable def law0_SpoilBytes.c2 : Code := sub law0_SpoilBytes.body [1, 1, 1, 0, 0]
def law0_SpoilBytes.K0 (R : Value → World → Prop) : Ex → St → World → Prop := (blockK 0 (thenK (fun st w => code Try.prog none law0_SpoilBytes.live 0 (sub law0_SpoilBytes.body [1, 1]) (retK Try.prog Try.f38 R) st w) (retK Try.prog Try.f38 R)))
def law0_SpoilBytes.L0 (R : Value → World → Prop) (aA : Option Addr) (an : Nat) (ac : Nat) (fullA : Option Addr) (fulln : Nat) (fullc : Nat) (i : Int) (w : World) : Prop :=
  loopVC (fun K => code Try.prog none law0_SpoilBytes.live 0 law0_SpoilBytes.c0 K) (law0_SpoilBytes.live 0) (law0_SpoilBytes.K0 R) [(.slice aA an ac), undef, (.slice fullA fulln fullc), (.int .i64 i), undef, undef, undef, undef, undef, undef, undef, undef, undef, undef, undef, undef, undef, undef, undef, undef, undef, undef, undef, undef, undef, undef] w
def law0_SpoilBytes.K2 (R : Value → World → Prop) : Ex → St → World → Prop := (blockK 2 (retK Try.prog Try.f38 R))
def law0_SpoilBytes.L2 (R : Value → World → Prop) (aA : Option Addr) (an : Nat) (ac : Nat) (i : Int) (w : World) : Prop :=
  loopVC (fun K => code Try.prog none law0_SpoilBytes.live 2 law0_SpoilBytes.c2 K) (law0_SpoilBytes.live 2) (law0_SpoilBytes.K2 R) [(.slice aA an ac), undef, undef, undef, (.int .i64 i), undef, undef, undef, undef, undef, undef, undef, undef, undef, undef, undef, undef, undef, undef, undef, undef, undef, undef, undef, undef, undef] w
@[reducible] def law0_SpoilBytes.B2 (R : Value → World → Prop) (aA : Option Addr) (an : Nat) (ac : Nat) (i : Int) (w : World) : Prop :=
  ifP (decide ((i : Int) < ((an : Nat) : Int)))
    (0 ≤ (i : Int) ∧ (i : Int) < ((an : Nat) : Int) ∧ ∃ t25p : Addr, aA = some t25p ∧ (∃ u : Value, w.cell? (t25p.add (Int.toNat i * 1)) = some u) ∧ w.frozen? (t25p.add (Int.toNat i * 1)) = false ∧ letW (w.setCell (t25p.add (Int.toNat i * 1)) (.int .u8 201)) fun w_2 => law0_SpoilBytes.L2 R aA an ac (IntKind.i64.wrap (i + 1)) w_2)
    (R (.tuple #[]) w)

@[reducible] def law0_SpoilBytes.B0 (R : Value → World → Prop) (aA : Option Addr) (an : Nat) (ac : Nat) (fullA : Option Addr) (fulln : Nat) (fullc : Nat) (i : Int) (w : World) : Prop :=
  ifP (decide ((i : Int) < ((fulln : Nat) : Int)))
    (0 ≤ (i : Int) ∧ (i : Int) < ((fulln : Nat) : Int) ∧ ∃ t16p : Addr, fullA = some t16p ∧ (∃ u : Value, w.cell? (t16p.add (Int.toNat i * 1)) = some u) ∧ w.frozen? (t16p.add (Int.toNat i * 1)) = false ∧ letW (w.setCell (t16p.add (Int.toNat i * 1)) (.int .u8 201)) fun w_2 => law0_SpoilBytes.L0 R aA an ac fullA fulln fullc (IntKind.i64.wrap (i + 1)) w_2)
    (law0_SpoilBytes.L2 R aA an ac 0 w)

@[reducible] def law0_SpoilBytes.vc (R : Value → World → Prop) (aA : Option Addr) (an : Nat) (ac : Nat) (w : World) : Prop :=
  letW (w.alloc (.cells #[(.int .u8 201)] 5)) fun w_2 => ∃ (v : Value) (w_3 : World), (Builtin.append_ #[23, 23] 23 #[(.slice aA an ac), (.slice (some (newA w)) 1 1)]).run Try.prog w_2 = .ok v w_3 ∧ ∃ (t7A : Option Addr) (t7n t7c : Nat), v = (.slice t7A t7n t7c) ∧ law0_SpoilBytes.L0 R aA an ac t7A t7n t7c 0 w_3

theorem law0_SpoilBytes.B0_eq (R : Value → World → Prop) (aA : Option Addr) (an : Nat) (ac : Nat) (fullA : Option Addr) (fulln : Nat) (fullc : Nat) (i : Int) (w : World) (ts : Nat → Value) :
    code Try.prog none law0_SpoilBytes.live 0 law0_SpoilBytes.c0 (thenK (fun st w => loopVC (fun K => code Try.prog none law0_SpoilBytes.live 0 law0_SpoilBytes.c0 K) (law0_SpoilBytes.live 0) (law0_SpoilBytes.K0 R) (clearFrom (law0_SpoilBytes.live 0) 0 st) w) (law0_SpoilBytes.K0 R)) (mergeFrom (law0_SpoilBytes.live 0) ts 0 (clearFrom (law0_SpoilBytes.live 0) 0 [(.slice aA an ac), undef, (.slice fullA fulln fullc), (.int .i64 i), undef, undef, undef, undef, undef, undef, undef, undef, undef, undef, undef, undef, undef, undef, undef, undef, undef, undef, undef, undef, undef, undef])) w = law0_SpoilBytes.B0 R aA an ac fullA fulln fullc i w := by kernel_rfl
theorem law0_SpoilBytes.L0_step {R : Value → World → Prop} {aA : Option Addr} {an : Nat} {ac : Nat} {fullA : Option Addr} {fulln : Nat} {fullc : Nat} {i : Int} {w : World} (h : law0_SpoilBytes.B0 R aA an ac fullA fulln fullc i w) : law0_SpoilBytes.L0 R aA an ac fullA fulln fullc i w :=
  loop_step (live := law0_SpoilBytes.live) (b := 0) (x := law0_SpoilBytes.c0) fun ts => Eq.mpr (law0_SpoilBytes.B0_eq R aA an ac fullA fulln fullc i w ts) h
theorem law0_SpoilBytes.B2_eq (R : Value → World → Prop) (aA : Option Addr) (an : Nat) (ac : Nat) (i : Int) (w : World) (ts : Nat → Value) :
    code Try.prog none law0_SpoilBytes.live 2 law0_SpoilBytes.c2 (thenK (fun st w => loopVC (fun K => code Try.prog none law0_SpoilBytes.live 2 law0_SpoilBytes.c2 K) (law0_SpoilBytes.live 2) (law0_SpoilBytes.K2 R) (clearFrom (law0_SpoilBytes.live 2) 0 st) w) (law0_SpoilBytes.K2 R)) (mergeFrom (law0_SpoilBytes.live 2) ts 0 (clearFrom (law0_SpoilBytes.live 2) 0 [(.slice aA an ac), undef, undef, undef, (.int .i64 i), undef, undef, undef, undef, undef, undef, undef, undef, undef, undef, undef, undef, undef, undef, undef, undef, undef, undef, undef, undef, undef])) w = law0_SpoilBytes.B2 R aA an ac i w := by kernel_rfl
theorem law0_SpoilBytes.L2_step {R : Value → World → Prop} {aA : Option Addr} {an : Nat} {ac : Nat} {i : Int} {w : World} (h : law0_SpoilBytes.B2 R aA an ac i w) : law0_SpoilBytes.L2 R aA an ac i w :=
  loop_step (live := law0_SpoilBytes.live) (b := 2) (x := law0_SpoilBytes.c2) fun ts => Eq.mpr (law0_SpoilBytes.B2_eq R aA an ac i w ts) h
theorem law0_SpoilBytes.eq (R : Value → World → Prop) (aA : Option Addr) (an : Nat) (ac : Nat) (w : World) : fnVC Try.prog none law0_SpoilBytes.live Try.f38 R [(.slice aA an ac)] w = law0_SpoilBytes.vc R aA an ac w := by kernel_rfl
set_option maxHeartbeats 4000000 in
theorem law0_SpoilBytes.ok {R : Value → World → Prop} {aA : Option Addr} {an : Nat} {ac : Nat} {w : World} (h : law0_SpoilBytes.vc R aA an ac w) : Run Try.prog 38 #[(.slice aA an ac)] w R := by
  have h2 := Eq.mpr (law0_SpoilBytes.eq R aA an ac w) h
  exact fn_sound Try.mixed Try.func38 (by kernel_rfl) h2

/-! ### riddle/riddlelaw0.KeptBytes: function 16 -/
noncomputable def law0_KeptBytes.body : Code := bodyOf Try.f16
def law0_KeptBytes.live : Nat → List Nat
  | _ => []
def law0_KeptBytes.J0 (R : Value → World → Prop) (fullA : Option Addr) (fulln : Nat) (fullc : Nat) (ok_ : Bool) (w : World) : Prop :=
  Run Try.prog 38 #[(.slice fullA fulln fullc)] w fun v w_2 => v = (.tuple #[]) ∧ R (.bool ok_) w_2

@[reducible] def law0_KeptBytes.vc (R : Value → World → Prop) (lentA : Option Addr) (lentn : Nat) (lentc : Nat) (aA : Option Addr) (an : Nat) (ac : Nat) (w : World) : Prop :=
  (0 : Int) ≤ 0 ∧ (0 : Int) ≤ IntKind.i64.wrap (((lentn : Nat) : Int) + 3) ∧ (IntKind.i64.wrap (((lentn : Nat) : Int) + 3) : Int) ≤ ((lentc : Nat) : Int) ∧ Run Try.prog 37 #[(.slice lentA lentn lentc), (.slice aA an ac)] w fun v w_2 => ∃ t14 : Bool, v = (.bool t14) ∧ ifP t14 ((0 : Int) ≤ ((an : Nat) : Int) ∧ (((an : Nat) : Int) : Int) ≤ (((Int.toNat (IntKind.i64.wrap (((lentn : Nat) : Int) + 3))) - 0 : Nat) : Int) ∧ ((((Int.toNat (IntKind.i64.wrap (((lentn : Nat) : Int) + 3))) - 0 : Nat) : Int) : Int) ≤ ((lentc - 0 : Nat) : Int) ∧ letW (w_2.alloc (.cells #[(.int .u8 201), (.int .u8 201), (.int .u8 201)] 5)) fun w_3 => Run Try.prog 37 #[(.slice (subA (subA lentA lentc 0 1) (lentc - 0) (Int.toNat ((an : Nat) : Int)) 1) (((Int.toNat (IntKind.i64.wrap (((lentn : Nat) : Int) + 3))) - 0) - (Int.toNat ((an : Nat) : Int))) ((lentc - 0) - (Int.toNat ((an : Nat) : Int)))), (.slice (some (newA w_2)) 3 3)] w_3 fun v_2 w_4 => ∃ t21 : Bool, v_2 = (.bool t21) ∧ law0_KeptBytes.J0 R (subA lentA lentc 0 1) ((Int.toNat (IntKind.i64.wrap (((lentn : Nat) : Int) + 3))) - 0) (lentc - 0) t21 w_4) (law0_KeptBytes.J0 R (subA lentA lentc 0 1) ((Int.toNat (IntKind.i64.wrap (((lentn : Nat) : Int) + 3))) - 0) (lentc - 0) false w_2)

theorem law0_KeptBytes.eq (R : Value → World → Prop) (lentA : Option Addr) (lentn : Nat) (lentc : Nat) (aA : Option Addr) (an : Nat) (ac : Nat) (w : World) : fnVC Try.prog none law0_KeptBytes.live Try.f16 R [(.slice lentA lentn lentc), (.slice aA an ac)] w = law0_KeptBytes.vc R lentA lentn lentc aA an ac w := by kernel_rfl
set_option maxHeartbeats 4000000 in
theorem law0_KeptBytes.ok {R : Value → World → Prop} {lentA : Option Addr} {lentn : Nat} {lentc : Nat} {aA : Option Addr} {an : Nat} {ac : Nat} {w : World} (h : law0_KeptBytes.vc R lentA lentn lentc aA an ac w) : Run Try.prog 16 #[(.slice lentA lentn lentc), (.slice aA an ac)] w R := by
  have h2 := Eq.mpr (law0_KeptBytes.eq R lentA lentn lentc aA an ac w) h
  exact fn_sound Try.mixed Try.func16 (by kernel_rfl) h2

/-! ### riddle/vm.Trace$1: function 39 -/
noncomputable def vm_Trace_1.body : Code := bodyOf Try.f39
def vm_Trace_1.live : Nat → List Nat
  | _ => []
@[reducible] def vm_Trace_1.vc (R : Value → World → Prop) (at_ : Int) (t1 : Addr) (w : World) : Prop :=
  ∃ (t3A : Option Addr) (t3n t3c : Nat), w.cell? t1 = some (.slice t3A t3n t3c) ∧ letW (w.alloc (.cells #[(.int .i64 at_)] 3)) fun w_2 => ∃ (v : Value) (w_3 : World), (Builtin.append_ #[27, 27] 27 #[(.slice t3A t3n t3c), (.slice (some (newA w)) 1 1)]).run Try.prog w_2 = .ok v w_3 ∧ ∃ (t6A : Option Addr) (t6n t6c : Nat), v = (.slice t6A t6n t6c) ∧ (∃ u : Value, w_3.cell? t1 = some u) ∧ w_3.frozen? t1 = false ∧ letW (w_3.setCell t1 (.slice t6A t6n t6c)) fun w_4 => R (.tuple #[]) w_4

theorem vm_Trace_1.eq (R : Value → World → Prop) (at_ : Int) (t1 : Addr) (w : World) : fnVC Try.prog none vm_Trace_1.live Try.f39 R [(.int .i64 at_), (.pointer (some t1))] w = vm_Trace_1.vc R at_ t1 w := by kernel_rfl
set_option maxHeartbeats 4000000 in
theorem vm_Trace_1.ok {R : Value → World → Prop} {at_ : Int} {t1 : Addr} {w : World} (h : vm_Trace_1.vc R at_ t1 w) : Run Try.prog 39 #[(.int .i64 at_), (.pointer (some t1))] w R := by
  have h2 := Eq.mpr (vm_Trace_1.eq R at_ t1 w) h
  exact fn_sound Try.mixed Try.func39 (by kernel_rfl) h2

/-! ### riddle/vm.Trace: function 18 -/
noncomputable def vm_Trace.body : Code := bodyOf Try.f18
def vm_Trace.live : Nat → List Nat
  | _ => []
@[reducible] def vm_Trace.vc (R : Value → World → Prop) (pA : Option Addr) (pn : Nat) (pc : Nat) (packetA : Option Addr) (packetn : Nat) (packetc : Nat) (w : World) : Prop :=
  Run Try.prog 32 #[(.slice pA pn pc), (.slice packetA packetn packetc)] w fun v w_2 => ∃ t120 : Option Addr, ∃ t121 : Int, v = (.tuple #[(.pointer t120), (.int .i64 t121)]) ∧ ifP ((t121 : Int) != 0)
    (R (.tuple #[(.slice none 0 0), (.int .i64 t121)]) w_2)
    (letW (w_2.alloc (.cells #[(.slice none 0 0)] 27)) fun w_3 => Run Try.prog 33 #[(.pointer t120), (.slice pA pn pc), (.func (.func 39) #[] #[(.pointer (some (newA w_2)))])] w_3 fun v_2 w_4 => v_2 = (.tuple #[]) ∧ ∃ (t22A : Option Addr) (t22n t22c : Nat), w_4.cell? (newA w_2) = some (.slice t22A t22n t22c) ∧ R (.tuple #[(.slice t22A t22n t22c), (.int .i64 0)]) w_4)

theorem vm_Trace.eq (R : Value → World → Prop) (pA : Option Addr) (pn : Nat) (pc : Nat) (packetA : Option Addr) (packetn : Nat) (packetc : Nat) (w : World) : fnVC Try.prog none vm_Trace.live Try.f18 R [(.slice pA pn pc), (.slice packetA packetn packetc)] w = vm_Trace.vc R pA pn pc packetA packetn packetc w := by kernel_rfl
set_option maxHeartbeats 4000000 in
theorem vm_Trace.ok {R : Value → World → Prop} {pA : Option Addr} {pn : Nat} {pc : Nat} {packetA : Option Addr} {packetn : Nat} {packetc : Nat} {w : World} (h : vm_Trace.vc R pA pn pc packetA packetn packetc w) : Run Try.prog 18 #[(.slice pA pn pc), (.slice packetA packetn packetc)] w R := by
  have h2 := Eq.mpr (vm_Trace.eq R pA pn pc packetA packetn packetc w) h
  exact fn_sound Try.mixed Try.func18 (by kernel_rfl) h2

/-! ### riddle/riddlelaw0.SameInts: function 21 -/
noncomputable def law0_SameInts.body : Code := bodyOf Try.f21
def law0_SameInts.live : Nat → List Nat
  | 0 => [0, 1, 5]
  | _ => []
noncomputable def law0_SameInts.c0 : Code := sub law0_SameInts.body [1, 1, 0, 1, 0, 0]
def law0_SameInts.K0 (R : Value → World → Prop) : Ex → St → World → Prop := (blockK 0 (thenK (fun st w => code Try.prog none law0_SameInts.live 0 (sub law0_SameInts.body [1, 1, 1]) (retK Try.prog Try.f21 R) st w) (retK Try.prog Try.f21 R)))
def law0_SameInts.L0 (R : Value → World → Prop) (aA : Option Addr) (an : Nat) (ac : Nat) (bA : Option Addr) (bn : Nat) (bc : Nat) (i : Int) (w : World) : Prop :=
  loopVC (fun K => code Try.prog none law0_SameInts.live 0 law0_SameInts.c0 K) (law0_SameInts.live 0) (law0_SameInts.K0 R) [(.slice aA an ac), (.slice bA bn bc), undef, undef, undef, (.int .i64 i), undef, undef, undef, undef, undef, undef, undef, undef, undef, undef, undef, undef, undef, undef, undef, undef, undef, undef, undef, undef] w
@[reducible] def law0_SameInts.B0 (R : Value → World → Prop) (aA : Option Addr) (an : Nat) (ac : Nat) (bA : Option Addr) (bn : Nat) (bc : Nat) (i : Int) (w : World) : Prop :=
  ifP (decide ((i : Int) < ((an : Nat) : Int)))
    (letW w.drew fun w_2 => 0 ≤ (i : Int) ∧ (i : Int) < ((an : Nat) : Int) ∧ ∃ t19p : Addr, aA = some t19p ∧ ∃ t20 : Int, w_2.cell? (t19p.add (Int.toNat i * 1)) = some (.int .i64 t20) ∧ 0 ≤ (i : Int) ∧ (i : Int) < ((bn : Nat) : Int) ∧ ∃ t23p : Addr, bA = some t23p ∧ ∃ t24 : Int, w_2.cell? (t23p.add (Int.toNat i * 1)) = some (.int .i64 t24) ∧ ifP ((t20 : Int) != t24)
    (R (.bool false) w_2)
    (law0_SameInts.L0 R aA an ac bA bn bc (IntKind.i64.wrap (i + 1)) w_2))
    (R (.bool true) w)

@[reducible] def law0_SameInts.vc (R : Value → World → Prop) (aA : Option Addr) (an : Nat) (ac : Nat) (bA : Option Addr) (bn : Nat) (bc : Nat) (w : World) : Prop :=
  ifP ((((an : Nat) : Int) : Int) != ((bn : Nat) : Int))
    (R (.bool false) w)
    (law0_SameInts.L0 R aA an ac bA bn bc 0 w)

theorem law0_SameInts.B0_eq (R : Value → World → Prop) (aA : Option Addr) (an : Nat) (ac : Nat) (bA : Option Addr) (bn : Nat) (bc : Nat) (i : Int) (w : World) (ts : Nat → Value) :
    code Try.prog none law0_SameInts.live 0 law0_SameInts.c0 (thenK (fun st w => loopVC (fun K => code Try.prog none law0_SameInts.live 0 law0_SameInts.c0 K) (law0_SameInts.live 0) (law0_SameInts.K0 R) (clearFrom (law0_SameInts.live 0) 0 st) w) (law0_SameInts.K0 R)) (mergeFrom (law0_SameInts.live 0) ts 0 (clearFrom (law0_SameInts.live 0) 0 [(.slice aA an ac), (.slice bA bn bc), undef, undef, undef, (.int .i64 i), undef, undef, undef, undef, undef, undef, undef, undef, undef, undef, undef, undef, undef, undef, undef, undef, undef, undef, undef, undef])) w = law0_SameInts.B0 R aA an ac bA bn bc i w := by kernel_rfl
theorem law0_SameInts.L0_step {R : Value → World → Prop} {aA : Option Addr} {an : Nat} {ac : Nat} {bA : Option Addr} {bn : Nat} {bc : Nat} {i : Int} {w : World} (h : law0_SameInts.B0 R aA an ac bA bn bc i w) : law0_SameInts.L0 R aA an ac bA bn bc i w :=
  loop_step (live := law0_SameInts.live) (b := 0) (x := law0_SameInts.c0) fun ts => Eq.mpr (law0_SameInts.B0_eq R aA an ac bA bn bc i w ts) h
theorem law0_SameInts.eq (R : Value → World → Prop) (aA : Option Addr) (an : Nat) (ac : Nat) (bA : Option Addr) (bn : Nat) (bc : Nat) (w : World) : fnVC Try.prog none law0_SameInts.live Try.f21 R [(.slice aA an ac), (.slice bA bn bc)] w = law0_SameInts.vc R aA an ac bA bn bc w := by kernel_rfl
set_option maxHeartbeats 4000000 in
theorem law0_SameInts.ok {R : Value → World → Prop} {aA : Option Addr} {an : Nat} {ac : Nat} {bA : Option Addr} {bn : Nat} {bc : Nat} {w : World} (h : law0_SameInts.vc R aA an ac bA bn bc w) : Run Try.prog 21 #[(.slice aA an ac), (.slice bA bn bc)] w R := by
  have h2 := Eq.mpr (law0_SameInts.eq R aA an ac bA bn bc w) h
  exact fn_sound Try.mixed Try.func21 (by kernel_rfl) h2

/-! ### riddle/riddlelaw5.awake: function 17 -/
noncomputable def law5_awake.body : Code := bodyOf Try.f17
def law5_awake.live : Nat → List Nat
  | _ => []
def law5_awake.J0 (R : Value → World → Prop) (t0 : Bool) (w : World) : Prop :=
  R (.bool t0) w

@[reducible] def law5_awake.vc (R : Value → World → Prop) (w : World) : Prop :=
  letW (w.alloc (.cells #[(.int .u16 40), (.int .u8 0), (.int .u8 0), (.int .u32 1), (.int .u16 22), (.int .u8 0), (.int .u8 0), (.int .u32 0)] 45)) fun w_2 => letW (w_2.alloc (.cells #[(.int .u8 1), (.int .u8 2), (.int .u8 3)] 5)) fun w_3 => Run Try.prog 14 #[(.slice (some (newA w)) 2 2), (.slice (some (newA w_2)) 3 3)] w_3 fun v w_4 => ∃ t120_0 : Int, ∃ t120_1 : Int, ∃ t120_2 : Int, ∃ t121 : Int, v = (.tuple #[(.agg #[(.int .u32 t120_0), (.int .i64 t120_1), (.int .i64 t120_2)]), (.int .i64 t121)]) ∧ letW (w_4.alloc (.cells #[(.int .u32 0), (.int .i64 0), (.int .i64 0)] 26)) fun w_5 => storeRow (newA w_4) 0 [(.int .u32 t120_0), (.int .i64 t120_1), (.int .i64 t120_2)] w_5 fun w_6 => letW (w_6.alloc (.cells #[(.int .u8 1), (.int .u8 2), (.int .u8 3)] 5)) fun w_7 => Run Try.prog 18 #[(.slice (some (newA w)) 2 2), (.slice (some (newA w_6)) 3 3)] w_7 fun v_2 w_8 => ∃ (t180A : Option Addr) (t180n t180c : Nat), ∃ t181 : Int, v_2 = (.tuple #[(.slice t180A t180n t180c), (.int .i64 t181)]) ∧ ifP ((t121 : Int) == 0) (∃ t24_0 : Int, w_8.cell? (newA w_4) = some (.int .u32 t24_0) ∧ ∃ t24_1 : Int, w_8.cell? ((newA w_4).add 1) = some (.int .i64 t24_1) ∧ ∃ t24_2 : Int, w_8.cell? ((newA w_4).add 2) = some (.int .i64 t24_2) ∧ ∃ (v_3 : Value) (w_9 : World), (eqSem .eql 26 (.tmp 24) (.tmp 25) (.agg #[(.int .u32 t24_0), (.int .i64 t24_1), (.int .i64 t24_2)]) (.agg #[(.int .u32 515), (.int .i64 0), (.int .i64 2)])).run Try.prog w_8 = .ok v_3 w_9 ∧ ∃ t26 : Bool, v_3 = (.bool t26) ∧ ifP t26 (ifP ((t181 : Int) == 0) (letW (w_9.alloc (.cells #[(.int .i64 0), (.int .i64 1)] 3)) fun w_10 => Run Try.prog 21 #[(.slice t180A t180n t180c), (.slice (some (newA w_9)) 2 2)] w_10 fun v_4 w_11 => ∃ t35 : Bool, v_4 = (.bool t35) ∧ law5_awake.J0 R t35 w_11) (law5_awake.J0 R false w_9)) (law5_awake.J0 R false w_9)) (law5_awake.J0 R false w_8)

theorem law5_awake.eq (R : Value → World → Prop) (w : World) : fnVC Try.prog none law5_awake.live Try.f17 R [] w = law5_awake.vc R  w := by kernel_rfl
set_option maxHeartbeats 4000000 in
theorem law5_awake.ok {R : Value → World → Prop} {w : World} (h : law5_awake.vc R  w) : Run Try.prog 17 #[] w R := by
  have h2 := Eq.mpr (law5_awake.eq R  w) h
  exact fn_sound Try.mixed Try.func17 (by kernel_rfl) h2

/-! ### riddle/riddlelaw5.VmRuns: function 3 -/
noncomputable def law5_VmRuns.body : Code := bodyOf Try.f3
def law5_VmRuns.live : Nat → List Nat
  | _ => []
def law5_VmRuns.J0 (R : Value → World → Prop) (t4 : Bool) (w : World) : Prop :=
  R (.bool t4) w

@[reducible] def law5_VmRuns.vc (R : Value → World → Prop) (pA : Option Addr) (pn : Nat) (pc : Nat) (packetA : Option Addr) (packetn : Nat) (packetc : Nat) (w : World) : Prop :=
  Run Try.prog 11 #[(.slice pA pn pc), (.slice packetA packetn packetc)] w fun v w_2 => ∃ t150_0 : Int, ∃ t150_1 : Int, ∃ t150_2 : Int, ∃ (t151A : Option Addr) (t151n t151c : Nat), ∃ t152 : Int, v = (.tuple #[(.agg #[(.int .u32 t150_0), (.int .i64 t150_1), (.int .i64 t150_2)]), (.slice t151A t151n t151c), (.int .i64 t152)]) ∧ letW (w_2.alloc (.cells #[(.int .u32 0), (.int .i64 0), (.int .i64 0)] 26)) fun w_3 => storeRow (newA w_2) 0 [(.int .u32 t150_0), (.int .i64 t150_1), (.int .i64 t150_2)] w_3 fun w_4 => Run Try.prog 12 #[(.slice pA pn pc)] w_4 fun v_2 w_5 => ∃ (t20A : Option Addr) (t20n t20c : Nat), v_2 = (.slice t20A t20n t20c) ∧ Run Try.prog 13 #[(.slice packetA packetn packetc)] w_5 fun v_3 w_6 => ∃ (t22A : Option Addr) (t22n t22c : Nat), v_3 = (.slice t22A t22n t22c) ∧ Run Try.prog 14 #[(.slice t20A t20n t20c), (.slice t22A t22n t22c)] w_6 fun v_4 w_7 => ∃ t260_0 : Int, ∃ t260_1 : Int, ∃ t260_2 : Int, ∃ t261 : Int, v_4 = (.tuple #[(.agg #[(.int .u32 t260_0), (.int .i64 t260_1), (.int .i64 t260_2)]), (.int .i64 t261)]) ∧ letW (w_7.alloc (.cells #[(.int .u32 0), (.int .i64 0), (.int .i64 0)] 26)) fun w_8 => storeRow (newA w_7) 0 [(.int .u32 t260_0), (.int .i64 t260_1), (.int .i64 t260_2)] w_8 fun w_9 => Run Try.prog 15 #[(.slice t20A t20n t20c), (.slice pA pn pc)] w_9 fun v_5 w_10 => ∃ t31 : Bool, v_5 = (.bool t31) ∧ ifP t31 (Run Try.prog 16 #[(.slice t22A t22n t22c), (.slice packetA packetn packetc)] w_10 fun v_6 w_11 => ∃ t35 : Bool, v_6 = (.bool t35) ∧ ifP t35 (∃ t38_0 : Int, w_11.cell? (newA w_7) = some (.int .u32 t38_0) ∧ ∃ t38_1 : Int, w_11.cell? ((newA w_7).add 1) = some (.int .i64 t38_1) ∧ ∃ t38_2 : Int, w_11.cell? ((newA w_7).add 2) = some (.int .i64 t38_2) ∧ ∃ t39_0 : Int, w_11.cell? (newA w_2) = some (.int .u32 t39_0) ∧ ∃ t39_1 : Int, w_11.cell? ((newA w_2).add 1) = some (.int .i64 t39_1) ∧ ∃ t39_2 : Int, w_11.cell? ((newA w_2).add 2) = some (.int .i64 t39_2) ∧ ∃ (v_7 : Value) (w_12 : World), (eqSem .eql 26 (.tmp 38) (.tmp 39) (.agg #[(.int .u32 t38_0), (.int .i64 t38_1), (.int .i64 t38_2)]) (.agg #[(.int .u32 t39_0), (.int .i64 t39_1), (.int .i64 t39_2)])).run Try.prog w_11 = .ok v_7 w_12 ∧ ∃ t40 : Bool, v_7 = (.bool t40) ∧ ifP t40 (ifP ((t261 : Int) == t152) (Run Try.prog 17 #[] w_12 fun v_8 w_13 => ∃ t48 : Bool, v_8 = (.bool t48) ∧ law5_VmRuns.J0 R t48 w_13) (law5_VmRuns.J0 R false w_12)) (law5_VmRuns.J0 R false w_12)) (law5_VmRuns.J0 R false w_11)) (law5_VmRuns.J0 R false w_10)

theorem law5_VmRuns.eq (R : Value → World → Prop) (pA : Option Addr) (pn : Nat) (pc : Nat) (packetA : Option Addr) (packetn : Nat) (packetc : Nat) (w : World) : fnVC Try.prog none law5_VmRuns.live Try.f3 R [(.slice pA pn pc), (.slice packetA packetn packetc)] w = law5_VmRuns.vc R pA pn pc packetA packetn packetc w := by kernel_rfl
set_option maxHeartbeats 4000000 in
theorem law5_VmRuns.ok {R : Value → World → Prop} {pA : Option Addr} {pn : Nat} {pc : Nat} {packetA : Option Addr} {packetn : Nat} {packetc : Nat} {w : World} (h : law5_VmRuns.vc R pA pn pc packetA packetn packetc w) : Run Try.prog 3 #[(.slice pA pn pc), (.slice packetA packetn packetc)] w R := by
  have h2 := Eq.mpr (law5_VmRuns.eq R pA pn pc packetA packetn packetc w) h
  exact fn_sound Try.mixed Try.func3 (by kernel_rfl) h2

/-! ### riddle/riddlelaw0.SpoilInts: function 22 -/
noncomputable def law0_SpoilInts.body : Code := bodyOf Try.f22
def law0_SpoilInts.live : Nat → List Nat
  | 0 => [0, 2, 3]
  | 2 => [0, 4]
  | _ => []
noncomputable def law0_SpoilInts.c0 : Code := sub law0_SpoilInts.body [1, 0, 1, 0, 0]
noncomputable def law0_SpoilInts.c2 : Code := sub law0_SpoilInts.body [1, 1, 1, 0, 0]
def law0_SpoilInts.K0 (R : Value → World → Prop) : Ex → St → World → Prop := (blockK 0 (thenK (fun st w => code Try.prog none law0_SpoilInts.live 0 (sub law0_SpoilInts.body [1, 1]) (retK Try.prog Try.f22 R) st w) (retK Try.prog Try.f22 R)))
def law0_SpoilInts.L0 (R : Value → World → Prop) (aA : Option Addr) (an : Nat) (ac : Nat) (fullA : Option Addr) (fulln : Nat) (fullc : Nat) (i : Int) (w : World) : Prop :=
  loopVC (fun K => code Try.prog none law0_SpoilInts.live 0 law0_SpoilInts.c0 K) (law0_SpoilInts.live 0) (law0_SpoilInts.K0 R) [(.slice aA an ac), undef, (.slice fullA fulln fullc), (.int .i64 i), undef, undef, undef, undef, undef, undef, undef, undef, undef, undef, undef, undef, undef, undef, undef, undef, undef, undef, undef, undef, undef, undef] w
def law0_SpoilInts.K2 (R : Value → World → Prop) : Ex → St → World → Prop := (blockK 2 (retK Try.prog Try.f22 R))
def law0_SpoilInts.L2 (R : Value → World → Prop) (aA : Option Addr) (an : Nat) (ac : Nat) (i : Int) (w : World) : Prop :=
  loopVC (fun K => code Try.prog none law0_SpoilInts.live 2 law0_SpoilInts.c2 K) (law0_SpoilInts.live 2) (law0_SpoilInts.K2 R) [(.slice aA an ac), undef, undef, undef, (.int .i64 i), undef, undef, undef, undef, undef, undef, undef, undef, undef, undef, undef, undef, undef, undef, undef, undef, undef, undef, undef, undef, undef] w
@[reducible] def law0_SpoilInts.B2 (R : Value → World → Prop) (aA : Option Addr) (an : Nat) (ac : Nat) (i : Int) (w : World) : Prop :=
  ifP (decide ((i : Int) < ((an : Nat) : Int)))
    (0 ≤ (i : Int) ∧ (i : Int) < ((an : Nat) : Int) ∧ ∃ t25p : Addr, aA = some t25p ∧ (∃ u : Value, w.cell? (t25p.add (Int.toNat i * 1)) = some u) ∧ w.frozen? (t25p.add (Int.toNat i * 1)) = false ∧ letW (w.setCell (t25p.add (Int.toNat i * 1)) (.int .i64 (-77))) fun w_2 => law0_SpoilInts.L2 R aA an ac (IntKind.i64.wrap (i + 1)) w_2)
    (R (.tuple #[]) w)

@[reducible] def law0_SpoilInts.B0 (R : Value → World → Prop) (aA : Option Addr) (an : Nat) (ac : Nat) (fullA : Option Addr) (fulln : Nat) (fullc : Nat) (i : Int) (w : World) : Prop :=
  ifP (decide ((i : Int) < ((fulln : Nat) : Int)))
    (0 ≤ (i : Int) ∧ (i : Int) < ((fulln : Nat) : Int) ∧ ∃ t16p : Addr, fullA = some t16p ∧ (∃ u : Value, w.cell? (t16p.add (Int.toNat i * 1)) = some u) ∧ w.frozen? (t16p.add (Int.toNat i * 1)) = false ∧ letW (w.setCell (t16p.add (Int.toNat i * 1)) (.int .i64 (-77))) fun w_2 => law0_SpoilInts.L0 R aA an ac fullA fulln fullc (IntKind.i64.wrap (i + 1)) w_2)
    (law0_SpoilInts.L2 R aA an ac 0 w)

@[reducible] def law0_SpoilInts.vc (R : Value → World → Prop) (aA : Option Addr) (an : Nat) (ac : Nat) (w : World) : Prop :=
  letW (w.alloc (.cells #[(.int .i64 (-77))] 3)) fun w_2 => ∃ (v : Value) (w_3 : World), (Builtin.append_ #[27, 27] 27 #[(.slice aA an ac), (.slice (some (newA w)) 1 1)]).run Try.prog w_2 = .ok v w_3 ∧ ∃ (t7A : Option Addr) (t7n t7c : Nat), v = (.slice t7A t7n t7c) ∧ law0_SpoilInts.L0 R aA an ac t7A t7n t7c 0 w_3

theorem law0_SpoilInts.B0_eq (R : Value → World → Prop) (aA : Option Addr) (an : Nat) (ac : Nat) (fullA : Option Addr) (fulln : Nat) (fullc : Nat) (i : Int) (w : World) (ts : Nat → Value) :
    code Try.prog none law0_SpoilInts.live 0 law0_SpoilInts.c0 (thenK (fun st w => loopVC (fun K => code Try.prog none law0_SpoilInts.live 0 law0_SpoilInts.c0 K) (law0_SpoilInts.live 0) (law0_SpoilInts.K0 R) (clearFrom (law0_SpoilInts.live 0) 0 st) w) (law0_SpoilInts.K0 R)) (mergeFrom (law0_SpoilInts.live 0) ts 0 (clearFrom (law0_SpoilInts.live 0) 0 [(.slice aA an ac), undef, (.slice fullA fulln fullc), (.int .i64 i), undef, undef, undef, undef, undef, undef, undef, undef, undef, undef, undef, undef, undef, undef, undef, undef, undef, undef, undef, undef, undef, undef])) w = law0_SpoilInts.B0 R aA an ac fullA fulln fullc i w := by kernel_rfl
theorem law0_SpoilInts.L0_step {R : Value → World → Prop} {aA : Option Addr} {an : Nat} {ac : Nat} {fullA : Option Addr} {fulln : Nat} {fullc : Nat} {i : Int} {w : World} (h : law0_SpoilInts.B0 R aA an ac fullA fulln fullc i w) : law0_SpoilInts.L0 R aA an ac fullA fulln fullc i w :=
  loop_step (live := law0_SpoilInts.live) (b := 0) (x := law0_SpoilInts.c0) fun ts => Eq.mpr (law0_SpoilInts.B0_eq R aA an ac fullA fulln fullc i w ts) h
theorem law0_SpoilInts.B2_eq (R : Value → World → Prop) (aA : Option Addr) (an : Nat) (ac : Nat) (i : Int) (w : World) (ts : Nat → Value) :
    code Try.prog none law0_SpoilInts.live 2 law0_SpoilInts.c2 (thenK (fun st w => loopVC (fun K => code Try.prog none law0_SpoilInts.live 2 law0_SpoilInts.c2 K) (law0_SpoilInts.live 2) (law0_SpoilInts.K2 R) (clearFrom (law0_SpoilInts.live 2) 0 st) w) (law0_SpoilInts.K2 R)) (mergeFrom (law0_SpoilInts.live 2) ts 0 (clearFrom (law0_SpoilInts.live 2) 0 [(.slice aA an ac), undef, undef, undef, (.int .i64 i), undef, undef, undef, undef, undef, undef, undef, undef, undef, undef, undef, undef, undef, undef, undef, undef, undef, undef, undef, undef, undef])) w = law0_SpoilInts.B2 R aA an ac i w := by kernel_rfl
theorem law0_SpoilInts.L2_step {R : Value → World → Prop} {aA : Option Addr} {an : Nat} {ac : Nat} {i : Int} {w : World} (h : law0_SpoilInts.B2 R aA an ac i w) : law0_SpoilInts.L2 R aA an ac i w :=
  loop_step (live := law0_SpoilInts.live) (b := 2) (x := law0_SpoilInts.c2) fun ts => Eq.mpr (law0_SpoilInts.B2_eq R aA an ac i w ts) h
theorem law0_SpoilInts.eq (R : Value → World → Prop) (aA : Option Addr) (an : Nat) (ac : Nat) (w : World) : fnVC Try.prog none law0_SpoilInts.live Try.f22 R [(.slice aA an ac)] w = law0_SpoilInts.vc R aA an ac w := by kernel_rfl
set_option maxHeartbeats 4000000 in
theorem law0_SpoilInts.ok {R : Value → World → Prop} {aA : Option Addr} {an : Nat} {ac : Nat} {w : World} (h : law0_SpoilInts.vc R aA an ac w) : Run Try.prog 22 #[(.slice aA an ac)] w R := by
  have h2 := Eq.mpr (law0_SpoilInts.eq R aA an ac w) h
  exact fn_sound Try.mixed Try.func22 (by kernel_rfl) h2

/-! ### riddle/riddlelaw5.VmTraces: function 4 -/
noncomputable def law5_VmTraces.body : Code := bodyOf Try.f4
def law5_VmTraces.live : Nat → List Nat
  | _ => []
def law5_VmTraces.J2 (R : Value → World → Prop) (t4 : Bool) (w : World) : Prop :=
  R (.bool t4) w

def law5_VmTraces.J1 (R : Value → World → Prop) (wantA : Option Addr) (wantn : Nat) (wantc : Nat) (xA : Option Addr) (xn : Nat) (xc : Nat) (yA : Option Addr) (yn : Nat) (yc : Nat) (t62 : Bool) (w : World) : Prop :=
  ifP t62
    (R (.bool false) w)
    (Run Try.prog 22 #[(.slice xA xn xc)] w fun v w_2 => v = (.tuple #[]) ∧ Run Try.prog 21 #[(.slice yA yn yc), (.slice wantA wantn wantc)] w_2 fun v_2 w_3 => ∃ t67 : Bool, v_2 = (.bool t67) ∧ ifP t67 (Run Try.prog 17 #[] w_3 fun v_3 w_4 => ∃ t69 : Bool, v_3 = (.bool t69) ∧ law5_VmTraces.J2 R t69 w_4) (law5_VmTraces.J2 R false w_3))

def law5_VmTraces.J0 (R : Value → World → Prop) (pA : Option Addr) (pn : Nat) (pc : Nat) (packetA : Option Addr) (packetn : Nat) (packetc : Nat) (wantA : Option Addr) (wantn : Nat) (wantc : Nat) (code_ : Int) (xA : Option Addr) (xn : Nat) (xc : Nat) (e : Int) (t40 : Bool) (w : World) : Prop :=
  ifP t40
    (R (.bool false) w)
    (Run Try.prog 19 #[(.slice pA pn pc)] w fun v w_2 => ∃ (t43A : Option Addr) (t43n t43c : Nat), v = (.slice t43A t43n t43c) ∧ Run Try.prog 20 #[(.slice packetA packetn packetc)] w_2 fun v_2 w_3 => ∃ (t45A : Option Addr) (t45n t45c : Nat), v_2 = (.slice t45A t45n t45c) ∧ Run Try.prog 18 #[(.slice t43A t43n t43c), (.slice t45A t45n t45c)] w_3 fun v_3 w_4 => ∃ (t460A : Option Addr) (t460n t460c : Nat), ∃ t461 : Int, v_3 = (.tuple #[(.slice t460A t460n t460c), (.int .i64 t461)]) ∧ ifP ((e : Int) != code_) (law5_VmTraces.J1 R wantA wantn wantc xA xn xc t460A t460n t460c true w_4) (ifP ((t461 : Int) != code_) (law5_VmTraces.J1 R wantA wantn wantc xA xn xc t460A t460n t460c true w_4) (Run Try.prog 21 #[(.slice xA xn xc), (.slice wantA wantn wantc)] w_4 fun v_4 w_5 => ∃ t60 : Bool, v_4 = (.bool t60) ∧ law5_VmTraces.J1 R wantA wantn wantc xA xn xc t460A t460n t460c (!t60) w_5)))

@[reducible] def law5_VmTraces.vc (R : Value → World → Prop) (pA : Option Addr) (pn : Nat) (pc : Nat) (packetA : Option Addr) (packetn : Nat) (packetc : Nat) (w : World) : Prop :=
  Run Try.prog 11 #[(.slice pA pn pc), (.slice packetA packetn packetc)] w fun v w_2 => ∃ t170_0 : Int, ∃ t170_1 : Int, ∃ t170_2 : Int, ∃ (t171A : Option Addr) (t171n t171c : Nat), ∃ t172 : Int, v = (.tuple #[(.agg #[(.int .u32 t170_0), (.int .i64 t170_1), (.int .i64 t170_2)]), (.slice t171A t171n t171c), (.int .i64 t172)]) ∧ letW (w_2.alloc (.cells #[(.int .u32 0), (.int .i64 0), (.int .i64 0)] 26)) fun w_3 => storeRow (newA w_2) 0 [(.int .u32 t170_0), (.int .i64 t170_1), (.int .i64 t170_2)] w_3 fun w_4 => Run Try.prog 12 #[(.slice pA pn pc)] w_4 fun v_2 w_5 => ∃ (t22A : Option Addr) (t22n t22c : Nat), v_2 = (.slice t22A t22n t22c) ∧ Run Try.prog 13 #[(.slice packetA packetn packetc)] w_5 fun v_3 w_6 => ∃ (t24A : Option Addr) (t24n t24c : Nat), v_3 = (.slice t24A t24n t24c) ∧ Run Try.prog 18 #[(.slice t22A t22n t22c), (.slice t24A t24n t24c)] w_6 fun v_4 w_7 => ∃ (t280A : Option Addr) (t280n t280c : Nat), ∃ t281 : Int, v_4 = (.tuple #[(.slice t280A t280n t280c), (.int .i64 t281)]) ∧ Run Try.prog 15 #[(.slice t22A t22n t22c), (.slice pA pn pc)] w_7 fun v_5 w_8 => ∃ t33 : Bool, v_5 = (.bool t33) ∧ ifP (!t33) (law5_VmTraces.J0 R pA pn pc packetA packetn packetc t171A t171n t171c t172 t280A t280n t280c t281 true w_8) (Run Try.prog 16 #[(.slice t24A t24n t24c), (.slice packetA packetn packetc)] w_8 fun v_6 w_9 => ∃ t38 : Bool, v_6 = (.bool t38) ∧ law5_VmTraces.J0 R pA pn pc packetA packetn packetc t171A t171n t171c t172 t280A t280n t280c t281 (!t38) w_9)

theorem law5_VmTraces.eq (R : Value → World → Prop) (pA : Option Addr) (pn : Nat) (pc : Nat) (packetA : Option Addr) (packetn : Nat) (packetc : Nat) (w : World) : fnVC Try.prog none law5_VmTraces.live Try.f4 R [(.slice pA pn pc), (.slice packetA packetn packetc)] w = law5_VmTraces.vc R pA pn pc packetA packetn packetc w := by kernel_rfl
set_option maxHeartbeats 4000000 in
theorem law5_VmTraces.ok {R : Value → World → Prop} {pA : Option Addr} {pn : Nat} {pc : Nat} {packetA : Option Addr} {packetn : Nat} {packetc : Nat} {w : World} (h : law5_VmTraces.vc R pA pn pc packetA packetn packetc w) : Run Try.prog 4 #[(.slice pA pn pc), (.slice packetA packetn packetc)] w R := by
  have h2 := Eq.mpr (law5_VmTraces.eq R pA pn pc packetA packetn packetc w) h
  exact fn_sound Try.mixed Try.func4 (by kernel_rfl) h2

/-! ### riddle/riddlelaw5.VmLoads: function 6 -/
noncomputable def law5_VmLoads.body : Code := bodyOf Try.f6
def law5_VmLoads.live : Nat → List Nat
  | 0 => [0, 1, 2, 7, 8, 9, 10]
  | 2 => [0, 1, 2, 7, 8, 9, 10, 11, 12]
  | _ => []
noncomputable def law5_VmLoads.c0 : Code := sub law5_VmLoads.body [1, 1, 1, 1, 1, 0, 1, 0, 0]
noncomputable def law5_VmLoads.c2 : Code := sub law5_VmLoads.body [1, 1, 1, 1, 1, 0, 1, 0, 0, 1, 0, 0, 1, 1, 0, 0]
def law5_VmLoads.K0 (R : Value → World → Prop) : Ex → St → World → Prop := (blockK 0 (thenK (fun st w => code Try.prog none law5_VmLoads.live 0 (sub law5_VmLoads.body [1, 1, 1, 1, 1, 1]) (retK Try.prog Try.f6 R) st w) (retK Try.prog Try.f6 R)))
def law5_VmLoads.L0 (R : Value → World → Prop) (packetA : Option Addr) (packetn : Nat) (packetc : Nat) (x : Int) (k : Int) (absA : Option Addr) (absn : Nat) (absc : Nat) (indA : Option Addr) (indn : Nat) (indc : Nat) (sum : Int) (i : Int) (w : World) : Prop :=
  loopVC (fun K => code Try.prog none law5_VmLoads.live 0 law5_VmLoads.c0 K) (law5_VmLoads.live 0) (law5_VmLoads.K0 R) [(.slice packetA packetn packetc), (.int .u32 x), (.int .u32 k), undef, undef, undef, undef, (.slice absA absn absc), (.slice indA indn indc), (.int .u64 sum), (.int .i64 i), undef, undef, undef, undef, undef, undef, undef, undef, undef, undef, undef, undef, undef, undef, undef, undef, undef, undef, undef, undef, undef, undef, undef, undef, undef, undef, undef, undef, undef, undef, undef, undef, undef, undef, undef, undef, undef, undef, undef, undef, undef, undef, undef, undef, undef, undef, undef, undef, undef, undef, undef, undef, undef, undef, undef, undef, undef, undef, undef, undef, undef, undef, undef, undef, undef, undef, undef, undef, undef, undef, undef, undef, undef, undef, undef, undef, undef, undef, undef, undef, undef, undef, undef, undef, undef, undef, undef, undef, undef, undef, undef, undef, undef, undef, undef, undef, undef, undef, undef, undef, undef, undef, undef, undef, undef, undef, undef, undef, undef, undef, undef, undef, undef, undef, undef, undef, undef, undef, undef, undef, undef, undef, undef, undef, undef, undef, undef, undef, undef, undef, undef, undef, undef, undef, undef, undef, undef, undef, undef, undef, undef, undef, undef, undef, undef, undef, undef, undef, undef, undef, undef, undef, undef, undef, undef, undef, undef, undef, undef, undef, undef, undef] w
def law5_VmLoads.K2 (R : Value → World → Prop) : Ex → St → World → Prop := (blockK 2 (blockK 1 (thenK (fun st w => code Try.prog none law5_VmLoads.live 0 (sub law5_VmLoads.body [1, 1, 1, 1, 1, 0, 1, 0, 0, 1, 1]) (thenK (fun st w => loopVC (fun K => code Try.prog none law5_VmLoads.live 0 law5_VmLoads.c0 K) (law5_VmLoads.live 0) (law5_VmLoads.K0 R) (clearFrom (law5_VmLoads.live 0) 0 st) w) (law5_VmLoads.K0 R)) st w) (thenK (fun st w => loopVC (fun K => code Try.prog none law5_VmLoads.live 0 law5_VmLoads.c0 K) (law5_VmLoads.live 0) (law5_VmLoads.K0 R) (clearFrom (law5_VmLoads.live 0) 0 st) w) (law5_VmLoads.K0 R)))))
def law5_VmLoads.L2 (R : Value → World → Prop) (packetA : Option Addr) (packetn : Nat) (packetc : Nat) (x : Int) (k : Int) (absA : Option Addr) (absn : Nat) (absc : Nat) (indA : Option Addr) (indn : Nat) (indc : Nat) (sum : Int) (i : Int) (farA : Option Addr) (farn : Nat) (farc : Nat) (j : Int) (w : World) : Prop :=
  loopVC (fun K => code Try.prog none law5_VmLoads.live 2 law5_VmLoads.c2 K) (law5_VmLoads.live 2) (law5_VmLoads.K2 R) [(.slice packetA packetn packetc), (.int .u32 x), (.int .u32 k), undef, undef, undef, undef, (.slice absA absn absc), (.slice indA indn indc), (.int .u64 sum), (.int .i64 i), (.slice farA farn farc), (.int .i64 j), undef, undef, undef, undef, undef, undef, undef, undef, undef, undef, undef, undef, undef, undef, undef, undef, undef, undef, undef, undef, undef, undef, undef, undef, undef, undef, undef, undef, undef, undef, undef, undef, undef, undef, undef, undef, undef, undef, undef, undef, undef, undef, undef, undef, undef, undef, undef, undef, undef, undef, undef, undef, undef, undef, undef, undef, undef, undef, undef, undef, undef, undef, undef, undef, undef, undef, undef, undef, undef, undef, undef, undef, undef, undef, undef, undef, undef, undef, undef, undef, undef, undef, undef, undef, undef, undef, undef, undef, undef, undef, undef, undef, undef, undef, undef, undef, undef, undef, undef, undef, undef, undef, undef, undef, undef, undef, undef, undef, undef, undef, undef, undef, undef, undef, undef, undef, undef, undef, undef, undef, undef, undef, undef, undef, undef, undef, undef, undef, undef, undef, undef, undef, undef, undef, undef, undef, undef, undef, undef, undef, undef, undef, undef, undef, undef, undef, undef, undef, undef, undef, undef, undef, undef, undef, undef, undef, undef, undef, undef, undef] w
def law5_VmLoads.J3 (R : Value → World → Prop) (packetA : Option Addr) (packetn : Nat) (packetc : Nat) (x : Int) (k : Int) (absA : Option Addr) (absn : Nat) (absc : Nat) (indA : Option Addr) (indn : Nat) (indc : Nat) (sum : Int) (i : Int) (farA : Option Addr) (farn : Nat) (farc : Nat) (j : Int) (t112 : Bool) (w : World) : Prop :=
  ifP t112
    (R (.bool false) w)
    (law5_VmLoads.L2 R packetA packetn packetc x k absA absn absc indA indn indc sum i farA farn farc (IntKind.i64.wrap (j + 1)) w)

def law5_VmLoads.J2 (R : Value → World → Prop) (packetA : Option Addr) (packetn : Nat) (packetc : Nat) (x : Int) (k : Int) (absA : Option Addr) (absn : Nat) (absc : Nat) (indA : Option Addr) (indn : Nat) (indc : Nat) (sum : Int) (i : Int) (farA : Option Addr) (farn : Nat) (farc : Nat) (j : Int) (v : Addr) (e : Int) (want : Int) (in_ : Bool) (w : World) : Prop :=
  ifP ((e : Int) != 0) (law5_VmLoads.J3 R packetA packetn packetc x k absA absn absc indA indn indc sum i farA farn farc j true w) (∃ t91 : Int, w.cell? (v.add 1) = some (.int .i64 t91) ∧ ifP (!(in_ == ((t91 : Int) == 0))) (law5_VmLoads.J3 R packetA packetn packetc x k absA absn absc indA indn indc sum i farA farn farc j true w) (ifP (!in_) (∃ t99_0 : Int, w.cell? v = some (.int .u32 t99_0) ∧ ∃ t99_1 : Int, w.cell? (v.add 1) = some (.int .i64 t99_1) ∧ ∃ t99_2 : Int, w.cell? (v.add 2) = some (.int .i64 t99_2) ∧ ∃ (v_2 : Value) (w_2 : World), (eqSem .neq 26 (.tmp 99) (.tmp 100) (.agg #[(.int .u32 t99_0), (.int .i64 t99_1), (.int .i64 t99_2)]) (.agg #[(.int .u32 0), (.int .i64 1), (.int .i64 2)])).run Try.prog w = .ok v_2 w_2 ∧ ∃ t101 : Bool, v_2 = (.bool t101) ∧ ifP t101 (law5_VmLoads.J3 R packetA packetn packetc x k absA absn absc indA indn indc sum i farA farn farc j true w_2) (ifP in_ (∃ t107_0 : Int, w_2.cell? v = some (.int .u32 t107_0) ∧ ∃ t107_1 : Int, w_2.cell? (v.add 1) = some (.int .i64 t107_1) ∧ ∃ t107_2 : Int, w_2.cell? (v.add 2) = some (.int .i64 t107_2) ∧ ∃ (v_3 : Value) (w_3 : World), (eqSem .neq 26 (.tmp 107) (.tmp 109) (.agg #[(.int .u32 t107_0), (.int .i64 t107_1), (.int .i64 t107_2)]) (.agg #[(.int .u32 want), (.int .i64 0), (.int .i64 3)])).run Try.prog w_2 = .ok v_3 w_3 ∧ ∃ t110 : Bool, v_3 = (.bool t110) ∧ law5_VmLoads.J3 R packetA packetn packetc x k absA absn absc indA indn indc sum i farA farn farc j t110 w_3) (law5_VmLoads.J3 R packetA packetn packetc x k absA absn absc indA indn indc sum i farA farn farc j false w_2))) (ifP in_ (∃ t107_0_2 : Int, w.cell? v = some (.int .u32 t107_0_2) ∧ ∃ t107_1_2 : Int, w.cell? (v.add 1) = some (.int .i64 t107_1_2) ∧ ∃ t107_2_2 : Int, w.cell? (v.add 2) = some (.int .i64 t107_2_2) ∧ ∃ (v_4 : Value) (w_4 : World), (eqSem .neq 26 (.tmp 107) (.tmp 109) (.agg #[(.int .u32 t107_0_2), (.int .i64 t107_1_2), (.int .i64 t107_2_2)]) (.agg #[(.int .u32 want), (.int .i64 0), (.int .i64 3)])).run Try.prog w = .ok v_4 w_4 ∧ ∃ t110_2 : Bool, v_4 = (.bool t110_2) ∧ law5_VmLoads.J3 R packetA packetn packetc x k absA absn absc indA indn indc sum i farA farn farc j t110_2 w_4) (law5_VmLoads.J3 R packetA packetn packetc x k absA absn absc indA indn indc sum i farA farn farc j false w))))

def law5_VmLoads.J1 (R : Value → World → Prop) (packetA : Option Addr) (packetn : Nat) (packetc : Nat) (x : Int) (k : Int) (absA : Option Addr) (absn : Nat) (absc : Nat) (indA : Option Addr) (indn : Nat) (indc : Nat) (sum : Int) (i : Int) (farA : Option Addr) (farn : Nat) (farc : Nat) (j : Int) (v : Addr) (e : Int) (want : Int) (in_ : Bool) (w : World) : Prop :=
  law5_VmLoads.J2 R packetA packetn packetc x k absA absn absc indA indn indc sum i farA farn farc j v e want in_ w

def law5_VmLoads.J0 (R : Value → World → Prop) (packetA : Option Addr) (packetn : Nat) (packetc : Nat) (x : Int) (k : Int) (absA : Option Addr) (absn : Nat) (absc : Nat) (indA : Option Addr) (indn : Nat) (indc : Nat) (sum : Int) (i : Int) (farA : Option Addr) (farn : Nat) (farc : Nat) (j : Int) (code_ : Int) (w : World) : Prop :=
  letW (w.alloc (.cells #[(.int .u16 1), (.int .u8 0), (.int .u8 0), (.int .u32 x), (.int .u16 code_), (.int .u8 0), (.int .u8 0), (.int .u32 k), (.int .u16 22), (.int .u8 0), (.int .u8 0), (.int .u32 0)] 45)) fun w_2 => Run Try.prog 20 #[(.slice packetA packetn packetc)] w_2 fun v w_3 => ∃ (t64A : Option Addr) (t64n t64c : Nat), v = (.slice t64A t64n t64c) ∧ Run Try.prog 14 #[(.slice (some (newA w)) 3 3), (.slice t64A t64n t64c)] w_3 fun v_2 w_4 => ∃ t650_0 : Int, ∃ t650_1 : Int, ∃ t650_2 : Int, ∃ t651 : Int, v_2 = (.tuple #[(.agg #[(.int .u32 t650_0), (.int .i64 t650_1), (.int .i64 t650_2)]), (.int .i64 t651)]) ∧ letW (w_4.alloc (.cells #[(.int .u32 0), (.int .i64 0), (.int .i64 0)] 26)) fun w_5 => storeRow (newA w_4) 0 [(.int .u32 t650_0), (.int .i64 t650_1), (.int .i64 t650_2)] w_5 fun w_6 => 0 ≤ (j : Int) ∧ (j : Int) < ((farn : Nat) : Int) ∧ ∃ t70p : Addr, farA = some t70p ∧ ∃ t71 : Int, w_6.cell? (t70p.add (Int.toNat j * 1)) = some (.int .u64 t71) ∧ ifP (decide ((t71 : Int) < 1048576))
    (∃ S_ : World → Prop, S_ w_6.drew ∧ letW w_6.drew fun w_7 => 0 ≤ (j : Int) ∧ (j : Int) < ((farn : Nat) : Int) ∧ ∃ t78p : Addr, farA = some t78p ∧ ∃ t79 : Int, (∀ u : World, S_ u → u.cell? (t78p.add (Int.toNat j * 1)) = some (.int .u64 t79)) ∧ 0 ≤ i ∧ Run Try.prog 20 #[(.slice packetA packetn packetc)] w_7 fun v_3 w_8 => ∃ (t75A : Option Addr) (t75n t75c : Nat), v_3 = (.slice t75A t75n t75c) ∧ S_ w_8 ∧ Run Try.prog 23 #[(.slice t75A t75n t75c), (.int .i64 (IntKind.i64.wrap t79)), (.int .i64 (IntKind.i64.wrap (1 * 2 ^ (min (Int.toNat i) (IntKind.bits .i64)))))] w_8 fun v_4 w_9 => ∃ t830 : Int, ∃ t831 : Bool, v_4 = (.tuple #[(.int .u32 t830), (.bool t831)]) ∧ law5_VmLoads.J1 R packetA packetn packetc x k absA absn absc indA indn indc sum i farA farn farc j (newA w_4) t651 t830 t831 w_9)
    (law5_VmLoads.J2 R packetA packetn packetc x k absA absn absc indA indn indc sum i farA farn farc j (newA w_4) t651 0 false w_6)

@[reducible] def law5_VmLoads.B2 (R : Value → World → Prop) (packetA : Option Addr) (packetn : Nat) (packetc : Nat) (x : Int) (k : Int) (absA : Option Addr) (absn : Nat) (absc : Nat) (indA : Option Addr) (indn : Nat) (indc : Nat) (sum : Int) (i : Int) (farA : Option Addr) (farn : Nat) (farc : Nat) (j : Int) (w : World) : Prop :=
  ifP (decide ((j : Int) < 2))
    (0 ≤ (i : Int) ∧ (i : Int) < ((absn : Nat) : Int) ∧ ∃ t47p : Addr, absA = some t47p ∧ ∃ t48 : Int, w.cell? (t47p.add (Int.toNat i * 1)) = some (.int .u16 t48) ∧ ifP ((j : Int) == 1)
    (0 ≤ (i : Int) ∧ (i : Int) < ((indn : Nat) : Int) ∧ ∃ t53p : Addr, indA = some t53p ∧ ∃ t54 : Int, w.cell? (t53p.add (Int.toNat i * 1)) = some (.int .u16 t54) ∧ law5_VmLoads.J0 R packetA packetn packetc x k absA absn absc indA indn indc sum i farA farn farc j t54 w)
    (law5_VmLoads.J0 R packetA packetn packetc x k absA absn absc indA indn indc sum i farA farn farc j t48 w))
    (law5_VmLoads.L0 R packetA packetn packetc x k absA absn absc indA indn indc sum (IntKind.i64.wrap (i + 1)) w)

def law5_VmLoads.J5 (R : Value → World → Prop) (t6 : Bool) (w : World) : Prop :=
  R (.bool t6) w

def law5_VmLoads.J4 (R : Value → World → Prop) (packetA : Option Addr) (packetn : Nat) (packetc : Nat) (t154 : Bool) (w : World) : Prop :=
  ifP t154
    (R (.bool false) w)
    (letW (w.alloc (.cells #[(.int .u16 128), (.int .u8 0), (.int .u8 0), (.int .u32 0), (.int .u16 22), (.int .u8 0), (.int .u8 0), (.int .u32 0)] 45)) fun w_2 => Run Try.prog 20 #[(.slice packetA packetn packetc)] w_2 fun v w_3 => ∃ (t160A : Option Addr) (t160n t160c : Nat), v = (.slice t160A t160n t160c) ∧ Run Try.prog 14 #[(.slice (some (newA w)) 2 2), (.slice t160A t160n t160c)] w_3 fun v_2 w_4 => ∃ t1610_0 : Int, ∃ t1610_1 : Int, ∃ t1610_2 : Int, ∃ t1611 : Int, v_2 = (.tuple #[(.agg #[(.int .u32 t1610_0), (.int .i64 t1610_1), (.int .i64 t1610_2)]), (.int .i64 t1611)]) ∧ letW (w_4.alloc (.cells #[(.int .u32 0), (.int .i64 0), (.int .i64 0)] 26)) fun w_5 => storeRow (newA w_4) 0 [(.int .u32 t1610_0), (.int .i64 t1610_1), (.int .i64 t1610_2)] w_5 fun w_6 => ∃ t165 : Int, w_6.cell? (newA w_4) = some (.int .u32 t165) ∧ ifP ((t165 : Int) == (IntKind.u32.wrap ((packetn : Nat) : Int))) (Run Try.prog 17 #[] w_6 fun v_3 w_7 => ∃ t171 : Bool, v_3 = (.bool t171) ∧ law5_VmLoads.J5 R t171 w_7) (law5_VmLoads.J5 R false w_6))

@[reducible] def law5_VmLoads.B0 (R : Value → World → Prop) (packetA : Option Addr) (packetn : Nat) (packetc : Nat) (x : Int) (k : Int) (absA : Option Addr) (absn : Nat) (absc : Nat) (indA : Option Addr) (indn : Nat) (indc : Nat) (sum : Int) (i : Int) (w : World) : Prop :=
  ifP (decide ((i : Int) < 3))
    (letW (w.alloc (.cells #[(.int .u64 (IntKind.u64.wrap k)), (.int .u64 sum)] 49)) fun w_2 => law5_VmLoads.L2 R packetA packetn packetc x k absA absn absc indA indn indc sum i (some (newA w)) 2 2 0 w_2)
    (letW (w.alloc (.cells #[(.int .u16 177), (.int .u8 0), (.int .u8 0), (.int .u32 k), (.int .u16 135), (.int .u8 0), (.int .u8 0), (.int .u32 0), (.int .u16 22), (.int .u8 0), (.int .u8 0), (.int .u32 0)] 45)) fun w_3 => Run Try.prog 20 #[(.slice packetA packetn packetc)] w_3 fun v w_4 => ∃ (t120A : Option Addr) (t120n t120c : Nat), v = (.slice t120A t120n t120c) ∧ Run Try.prog 14 #[(.slice (some (newA w)) 3 3), (.slice t120A t120n t120c)] w_4 fun v_2 w_5 => ∃ t1210_0 : Int, ∃ t1210_1 : Int, ∃ t1210_2 : Int, ∃ t1211 : Int, v_2 = (.tuple #[(.agg #[(.int .u32 t1210_0), (.int .i64 t1210_1), (.int .i64 t1210_2)]), (.int .i64 t1211)]) ∧ letW (w_5.alloc (.cells #[(.int .u32 0), (.int .i64 0), (.int .i64 0)] 26)) fun w_6 => storeRow (newA w_5) 0 [(.int .u32 t1210_0), (.int .i64 t1210_1), (.int .i64 t1210_2)] w_6 fun w_7 => ∃ S_ : World → Prop, S_ w_7.drew ∧ letW w_7.drew fun w_8 => ifP (decide ((IntKind.u64.wrap k : Int) < (IntKind.u64.wrap ((packetn : Nat) : Int)))) (∃ t131_0 : Int, (∀ u : World, S_ u → u.cell? (newA w_5) = some (.int .u32 t131_0)) ∧ ∃ t131_1 : Int, (∀ u_2 : World, S_ u_2 → u_2.cell? ((newA w_5).add 1) = some (.int .i64 t131_1)) ∧ ∃ t131_2 : Int, (∀ u_3 : World, S_ u_3 → u_3.cell? ((newA w_5).add 2) = some (.int .i64 t131_2)) ∧ 0 ≤ (k : Int) ∧ (k : Int) < ((packetn : Nat) : Int) ∧ ∃ t134p : Addr, packetA = some t134p ∧ ∃ t135 : Int, (∀ u_4 : World, S_ u_4 → u_4.cell? (t134p.add (Int.toNat k * 1)) = some (.int .u8 t135)) ∧ ∃ (v_3 : Value) (w_9 : World), (eqSem .neq 26 (.tmp 131) (.tmp 139) (.agg #[(.int .u32 t131_0), (.int .i64 t131_1), (.int .i64 t131_2)]) (.agg #[(.int .u32 (IntKind.u32.wrap (4 * (IntKind.u32.wrap (andI .u8 t135 15))))), (.int .i64 0), (.int .i64 3)])).run Try.prog w_8 = .ok v_3 w_9 ∧ ∃ t140 : Bool, v_3 = (.bool t140) ∧ S_ w_9 ∧ ifP t140 (law5_VmLoads.J4 R packetA packetn packetc true w_9) (ifP (decide ((IntKind.u64.wrap k : Int) ≥ (IntKind.u64.wrap ((packetn : Nat) : Int)))) (∃ t151 : Int, (∀ u_5 : World, S_ u_5 → u_5.cell? ((newA w_5).add 1) = some (.int .i64 t151)) ∧ law5_VmLoads.J4 R packetA packetn packetc ((t151 : Int) != 1) w_9) (law5_VmLoads.J4 R packetA packetn packetc false w_9))) (ifP (decide ((IntKind.u64.wrap k : Int) ≥ (IntKind.u64.wrap ((packetn : Nat) : Int)))) (∃ t151_2 : Int, (∀ u_6 : World, S_ u_6 → u_6.cell? ((newA w_5).add 1) = some (.int .i64 t151_2)) ∧ law5_VmLoads.J4 R packetA packetn packetc ((t151_2 : Int) != 1) w_8) (law5_VmLoads.J4 R packetA packetn packetc false w_8)))

@[reducible] def law5_VmLoads.vc (R : Value → World → Prop) (packetA : Option Addr) (packetn : Nat) (packetc : Nat) (x : Int) (k : Int) (w : World) : Prop :=
  ifP (decide ((((packetn : Nat) : Int) : Int) > 5000))
    (Run Try.prog 17 #[] w fun v w_2 => ∃ t25 : Bool, v = (.bool t25) ∧ R (.bool t25) w_2)
    (letW (w.alloc (.cells #[(.int .u16 48), (.int .u16 40), (.int .u16 32)] 43)) fun w_3 => letW (w_3.alloc (.cells #[(.int .u16 80), (.int .u16 72), (.int .u16 64)] 43)) fun w_4 => law5_VmLoads.L0 R packetA packetn packetc x k (some (newA w)) 3 3 (some (newA w_3)) 3 3 (IntKind.u64.wrap ((IntKind.u64.wrap x) + (IntKind.u64.wrap k))) 0 w_4)

theorem law5_VmLoads.B0_eq (R : Value → World → Prop) (packetA : Option Addr) (packetn : Nat) (packetc : Nat) (x : Int) (k : Int) (absA : Option Addr) (absn : Nat) (absc : Nat) (indA : Option Addr) (indn : Nat) (indc : Nat) (sum : Int) (i : Int) (w : World) (ts : Nat → Value) :
    code Try.prog none law5_VmLoads.live 0 law5_VmLoads.c0 (thenK (fun st w => loopVC (fun K => code Try.prog none law5_VmLoads.live 0 law5_VmLoads.c0 K) (law5_VmLoads.live 0) (law5_VmLoads.K0 R) (clearFrom (law5_VmLoads.live 0) 0 st) w) (law5_VmLoads.K0 R)) (mergeFrom (law5_VmLoads.live 0) ts 0 (clearFrom (law5_VmLoads.live 0) 0 [(.slice packetA packetn packetc), (.int .u32 x), (.int .u32 k), undef, undef, undef, undef, (.slice absA absn absc), (.slice indA indn indc), (.int .u64 sum), (.int .i64 i), undef, undef, undef, undef, undef, undef, undef, undef, undef, undef, undef, undef, undef, undef, undef, undef, undef, undef, undef, undef, undef, undef, undef, undef, undef, undef, undef, undef, undef, undef, undef, undef, undef, undef, undef, undef, undef, undef, undef, undef, undef, undef, undef, undef, undef, undef, undef, undef, undef, undef, undef, undef, undef, undef, undef, undef, undef, undef, undef, undef, undef, undef, undef, undef, undef, undef, undef, undef, undef, undef, undef, undef, undef, undef, undef, undef, undef, undef, undef, undef, undef, undef, undef, undef, undef, undef, undef, undef, undef, undef, undef, undef, undef, undef, undef, undef, undef, undef, undef, undef, undef, undef, undef, undef, undef, undef, undef, undef, undef, undef, undef, undef, undef, undef, undef, undef, undef, undef, undef, undef, undef, undef, undef, undef, undef, undef, undef, undef, undef, undef, undef, undef, undef, undef, undef, undef, undef, undef, undef, undef, undef, undef, undef, undef, undef, undef, undef, undef, undef, undef, undef, undef, undef, undef, undef, undef, undef, undef, undef, undef, undef, undef])) w = law5_VmLoads.B0 R packetA packetn packetc x k absA absn absc indA indn indc sum i w := by kernel_rfl
theorem law5_VmLoads.L0_step {R : Value → World → Prop} {packetA : Option Addr} {packetn : Nat} {packetc : Nat} {x : Int} {k : Int} {absA : Option Addr} {absn : Nat} {absc : Nat} {indA : Option Addr} {indn : Nat} {indc : Nat} {sum : Int} {i : Int} {w : World} (h : law5_VmLoads.B0 R packetA packetn packetc x k absA absn absc indA indn indc sum i w) : law5_VmLoads.L0 R packetA packetn packetc x k absA absn absc indA indn indc sum i w :=
  loop_step (live := law5_VmLoads.live) (b := 0) (x := law5_VmLoads.c0) fun ts => Eq.mpr (law5_VmLoads.B0_eq R packetA packetn packetc x k absA absn absc indA indn indc sum i w ts) h
theorem law5_VmLoads.B2_eq (R : Value → World → Prop) (packetA : Option Addr) (packetn : Nat) (packetc : Nat) (x : Int) (k : Int) (absA : Option Addr) (absn : Nat) (absc : Nat) (indA : Option Addr) (indn : Nat) (indc : Nat) (sum : Int) (i : Int) (farA : Option Addr) (farn : Nat) (farc : Nat) (j : Int) (w : World) (ts : Nat → Value) :
    code Try.prog none law5_VmLoads.live 2 law5_VmLoads.c2 (thenK (fun st w => loopVC (fun K => code Try.prog none law5_VmLoads.live 2 law5_VmLoads.c2 K) (law5_VmLoads.live 2) (law5_VmLoads.K2 R) (clearFrom (law5_VmLoads.live 2) 0 st) w) (law5_VmLoads.K2 R)) (mergeFrom (law5_VmLoads.live 2) ts 0 (clearFrom (law5_VmLoads.live 2) 0 [(.slice packetA packetn packetc), (.int .u32 x), (.int .u32 k), undef, undef, undef, undef, (.slice absA absn absc), (.slice indA indn indc), (.int .u64 sum), (.int .i64 i), (.slice farA farn farc), (.int .i64 j), undef, undef, undef, undef, undef, undef, undef, undef, undef, undef, undef, undef, undef, undef, undef, undef, undef, undef, undef, undef, undef, undef, undef, undef, undef, undef, undef, undef, undef, undef, undef, undef, undef, undef, undef, undef, undef, undef, undef, undef, undef, undef, undef, undef, undef, undef, undef, undef, undef, undef, undef, undef, undef, undef, undef, undef, undef, undef, undef, undef, undef, undef, undef, undef, undef, undef, undef, undef, undef, undef, undef, undef, undef, undef, undef, undef, undef, undef, undef, undef, undef, undef, undef, undef, undef, undef, undef, undef, undef, undef, undef, undef, undef, undef, undef, undef, undef, undef, undef, undef, undef, undef, undef, undef, undef, undef, undef, undef, undef, undef, undef, undef, undef, undef, undef, undef, undef, undef, undef, undef, undef, undef, undef, undef, undef, undef, undef, undef, undef, undef, undef, undef, undef, undef, undef, undef, undef, undef, undef, undef, undef, undef, undef, undef, undef, undef, undef, undef, undef, undef, undef, undef, undef, undef, undef, undef, undef, undef, undef, undef])) w = law5_VmLoads.B2 R packetA packetn packetc x k absA absn absc indA indn indc sum i farA farn farc j w := by kernel_rfl
theorem law5_VmLoads.L2_step {R : Value → World → Prop} {packetA : Option Addr} {packetn : Nat} {packetc : Nat} {x : Int} {k : Int} {absA : Option Addr} {absn : Nat} {absc : Nat} {indA : Option Addr} {indn : Nat} {indc : Nat} {sum : Int} {i : Int} {farA : Option Addr} {farn : Nat} {farc : Nat} {j : Int} {w : World} (h : law5_VmLoads.B2 R packetA packetn packetc x k absA absn absc indA indn indc sum i farA farn farc j w) : law5_VmLoads.L2 R packetA packetn packetc x k absA absn absc indA indn indc sum i farA farn farc j w :=
  loop_step (live := law5_VmLoads.live) (b := 2) (x := law5_VmLoads.c2) fun ts => Eq.mpr (law5_VmLoads.B2_eq R packetA packetn packetc x k absA absn absc indA indn indc sum i farA farn farc j w ts) h
theorem law5_VmLoads.eq (R : Value → World → Prop) (packetA : Option Addr) (packetn : Nat) (packetc : Nat) (x : Int) (k : Int) (w : World) : fnVC Try.prog none law5_VmLoads.live Try.f6 R [(.slice packetA packetn packetc), (.int .u32 x), (.int .u32 k)] w = law5_VmLoads.vc R packetA packetn packetc x k w := by kernel_rfl
set_option maxHeartbeats 4000000 in
theorem law5_VmLoads.ok {R : Value → World → Prop} {packetA : Option Addr} {packetn : Nat} {packetc : Nat} {x : Int} {k : Int} {w : World} (h : law5_VmLoads.vc R packetA packetn packetc x k w) : Run Try.prog 6 #[(.slice packetA packetn packetc), (.int .u32 x), (.int .u32 k)] w R := by
  have h2 := Eq.mpr (law5_VmLoads.eq R packetA packetn packetc x k w) h
  exact fn_sound Try.mixed Try.func6 (by kernel_rfl) h2

/-! ### riddle/riddlelaw5.VmJumps: function 7 -/
noncomputable def law5_VmJumps.body : Code := bodyOf Try.f7
def law5_VmJumps.live : Nat → List Nat
  | 0 => [0, 1, 2, 7, 8, 9]
  | 2 => [0, 1, 2, 7, 8, 9, 10]
  | 4 => [0, 1, 2, 7, 8, 9, 10, 12, 13]
  | _ => []
noncomputable def law5_VmJumps.c0 : Code := sub law5_VmJumps.body [1, 1, 1, 0, 1, 0, 0]
noncomputable def law5_VmJumps.c2 : Code := sub law5_VmJumps.body [1, 1, 1, 0, 1, 0, 0, 1, 0, 0, 1, 0, 0]
noncomputable def law5_VmJumps.c4 : Code := sub law5_VmJumps.body [1, 1, 1, 0, 1, 0, 0, 1, 0, 0, 1, 0, 0, 1, 0, 0, 1, 1, 1, 1, 1, 0, 1, 0, 0]
def law5_VmJumps.K0 (R : Value → World → Prop) : Ex → St → World → Prop := (blockK 0 (thenK (fun st w => code Try.prog none law5_VmJumps.live 0 (sub law5_VmJumps.body [1, 1, 1, 1]) (retK Try.prog Try.f7 R) st w) (retK Try.prog Try.f7 R)))
def law5_VmJumps.L0 (R : Value → World → Prop) (a : Int) (b : Int) (far : Int) (opsA : Option Addr) (opsn : Nat) (opsc : Nat) (wantA : Option Addr) (wantn : Nat) (wantc : Nat) (i : Int) (w : World) : Prop :=
  loopVC (fun K => code Try.prog none law5_VmJumps.live 0 law5_VmJumps.c0 K) (law5_VmJumps.live 0) (law5_VmJumps.K0 R) [(.int .u32 a), (.int .u32 b), (.int .u8 far), undef, undef, undef, undef, (.slice opsA opsn opsc), (.slice wantA wantn wantc), (.int .i64 i), undef, undef, undef, undef, undef, undef, undef, undef, undef, undef, undef, undef, undef, undef, undef, undef, undef, undef, undef, undef, undef, undef, undef, undef, undef, undef, undef, undef, undef, undef, undef, undef, undef, undef, undef, undef, undef, undef, undef, undef, undef, undef, undef, undef, undef, undef, undef, undef, undef, undef, undef, undef, undef, undef, undef, undef, undef, undef, undef, undef, undef, undef, undef, undef, undef, undef, undef, undef, undef, undef, undef, undef, undef, undef, undef, undef, undef, undef, undef, undef, undef, undef, undef, undef, undef, undef, undef, undef, undef, undef, undef, undef, undef, undef, undef, undef, undef, undef, undef, undef, undef, undef, undef, undef, undef, undef, undef, undef, undef, undef, undef, undef] w
def law5_VmJumps.K2 (R : Value → World → Prop) : Ex → St → World → Prop := (blockK 2 (blockK 1 (thenK (fun st w => code Try.prog none law5_VmJumps.live 0 (sub law5_VmJumps.body [1, 1, 1, 0, 1, 0, 0, 1, 1]) (thenK (fun st w => loopVC (fun K => code Try.prog none law5_VmJumps.live 0 law5_VmJumps.c0 K) (law5_VmJumps.live 0) (law5_VmJumps.K0 R) (clearFrom (law5_VmJumps.live 0) 0 st) w) (law5_VmJumps.K0 R)) st w) (thenK (fun st w => loopVC (fun K => code Try.prog none law5_VmJumps.live 0 law5_VmJumps.c0 K) (law5_VmJumps.live 0) (law5_VmJumps.K0 R) (clearFrom (law5_VmJumps.live 0) 0 st) w) (law5_VmJumps.K0 R)))))
def law5_VmJumps.L2 (R : Value → World → Prop) (a : Int) (b : Int) (far : Int) (opsA : Option Addr) (opsn : Nat) (opsc : Nat) (wantA : Option Addr) (wantn : Nat) (wantc : Nat) (i : Int) (x : Int) (w : World) : Prop :=
  loopVC (fun K => code Try.prog none law5_VmJumps.live 2 law5_VmJumps.c2 K) (law5_VmJumps.live 2) (law5_VmJumps.K2 R) [(.int .u32 a), (.int .u32 b), (.int .u8 far), undef, undef, undef, undef, (.slice opsA opsn opsc), (.slice wantA wantn wantc), (.int .i64 i), (.int .i64 x), undef, undef, undef, undef, undef, undef, undef, undef, undef, undef, undef, undef, undef, undef, undef, undef, undef, undef, undef, undef, undef, undef, undef, undef, undef, undef, undef, undef, undef, undef, undef, undef, undef, undef, undef, undef, undef, undef, undef, undef, undef, undef, undef, undef, undef, undef, undef, undef, undef, undef, undef, undef, undef, undef, undef, undef, undef, undef, undef, undef, undef, undef, undef, undef, undef, undef, undef, undef, undef, undef, undef, undef, undef, undef, undef, undef, undef, undef, undef, undef, undef, undef, undef, undef, undef, undef, undef, undef, undef, undef, undef, undef, undef, undef, undef, undef, undef, undef, undef, undef, undef, undef, undef, undef, undef, undef, undef, undef, undef, undef, undef] w
def law5_VmJumps.K4 (R : Value → World → Prop) : Ex → St → World → Prop := (blockK 4 (thenK (fun st w => code Try.prog none law5_VmJumps.live 3 (sub law5_VmJumps.body [1, 1, 1, 0, 1, 0, 0, 1, 0, 0, 1, 0, 0, 1, 0, 0, 1, 1, 1, 1, 1, 1]) (blockK 3 (thenK (fun st w => code Try.prog none law5_VmJumps.live 2 (sub law5_VmJumps.body [1, 1, 1, 0, 1, 0, 0, 1, 0, 0, 1, 0, 0, 1, 1]) (thenK (fun st w => loopVC (fun K => code Try.prog none law5_VmJumps.live 2 law5_VmJumps.c2 K) (law5_VmJumps.live 2) (law5_VmJumps.K2 R) (clearFrom (law5_VmJumps.live 2) 0 st) w) (law5_VmJumps.K2 R)) st w) (thenK (fun st w => loopVC (fun K => code Try.prog none law5_VmJumps.live 2 law5_VmJumps.c2 K) (law5_VmJumps.live 2) (law5_VmJumps.K2 R) (clearFrom (law5_VmJumps.live 2) 0 st) w) (law5_VmJumps.K2 R)))) st w) (blockK 3 (thenK (fun st w => code Try.prog none law5_VmJumps.live 2 (sub law5_VmJumps.body [1, 1, 1, 0, 1, 0, 0, 1, 0, 0, 1, 0, 0, 1, 1]) (thenK (fun st w => loopVC (fun K => code Try.prog none law5_VmJumps.live 2 law5_VmJumps.c2 K) (law5_VmJumps.live 2) (law5_VmJumps.K2 R) (clearFrom (law5_VmJumps.live 2) 0 st) w) (law5_VmJumps.K2 R)) st w) (thenK (fun st w => loopVC (fun K => code Try.prog none law5_VmJumps.live 2 law5_VmJumps.c2 K) (law5_VmJumps.live 2) (law5_VmJumps.K2 R) (clearFrom (law5_VmJumps.live 2) 0 st) w) (law5_VmJumps.K2 R))))))
def law5_VmJumps.L4 (R : Value → World → Prop) (a : Int) (b : Int) (far : Int) (opsA : Option Addr) (opsn : Nat) (opsc : Nat) (wantA : Option Addr) (wantn : Nat) (wantc : Nat) (i : Int) (x : Int) (pA : Option Addr) (pn : Nat) (pc : Nat) (n : Int) (w : World) : Prop :=
  loopVC (fun K => code Try.prog none law5_VmJumps.live 4 law5_VmJumps.c4 K) (law5_VmJumps.live 4) (law5_VmJumps.K4 R) [(.int .u32 a), (.int .u32 b), (.int .u8 far), undef, undef, undef, undef, (.slice opsA opsn opsc), (.slice wantA wantn wantc), (.int .i64 i), (.int .i64 x), undef, (.slice pA pn pc), (.int .i64 n), undef, undef, undef, undef, undef, undef, undef, undef, undef, undef, undef, undef, undef, undef, undef, undef, undef, undef, undef, undef, undef, undef, undef, undef, undef, undef, undef, undef, undef, undef, undef, undef, undef, undef, undef, undef, undef, undef, undef, undef, undef, undef, undef, undef, undef, undef, undef, undef, undef, undef, undef, undef, undef, undef, undef, undef, undef, undef, undef, undef, undef, undef, undef, undef, undef, undef, undef, undef, undef, undef, undef, undef, undef, undef, undef, undef, undef, undef, undef, undef, undef, undef, undef, undef, undef, undef, undef, undef, undef, undef, undef, undef, undef, undef, undef, undef, undef, undef, undef, undef, undef, undef, undef, undef, undef, undef, undef, undef] w
def law5_VmJumps.J4 (R : Value → World → Prop) (a : Int) (b : Int) (far : Int) (opsA : Option Addr) (opsn : Nat) (opsc : Nat) (wantA : Option Addr) (wantn : Nat) (wantc : Nat) (i : Int) (x : Int) (t120 : Bool) (w : World) : Prop :=
  ifP t120
    (R (.bool false) w)
    (law5_VmJumps.L2 R a b far opsA opsn opsc wantA wantn wantc i (IntKind.i64.wrap (x + 1)) w)

def law5_VmJumps.J3 (R : Value → World → Prop) (a : Int) (b : Int) (far : Int) (opsA : Option Addr) (opsn : Nat) (opsc : Nat) (wantA : Option Addr) (wantn : Nat) (wantc : Nat) (i : Int) (x : Int) (v : Addr) (e : Int) (said : Int) (w : World) : Prop :=
  ifP ((e : Int) != 0) (law5_VmJumps.J4 R a b far opsA opsn opsc wantA wantn wantc i x true w) (∃ t117 : Int, w.cell? v = some (.int .u32 t117) ∧ law5_VmJumps.J4 R a b far opsA opsn opsc wantA wantn wantc i x ((t117 : Int) != said) w)

def law5_VmJumps.J2 (R : Value → World → Prop) (a : Int) (b : Int) (far : Int) (opsA : Option Addr) (opsn : Nat) (opsc : Nat) (wantA : Option Addr) (wantn : Nat) (wantc : Nat) (i : Int) (x : Int) (pA : Option Addr) (pn : Nat) (pc : Nat) (w : World) : Prop :=
  Run Try.prog 14 #[(.slice pA pn pc), (.slice none 0 0)] w fun v w_2 => ∃ t1060_0 : Int, ∃ t1060_1 : Int, ∃ t1060_2 : Int, ∃ t1061 : Int, v = (.tuple #[(.agg #[(.int .u32 t1060_0), (.int .i64 t1060_1), (.int .i64 t1060_2)]), (.int .i64 t1061)]) ∧ letW (w_2.alloc (.cells #[(.int .u32 0), (.int .i64 0), (.int .i64 0)] 26)) fun w_3 => storeRow (newA w_2) 0 [(.int .u32 t1060_0), (.int .i64 t1060_1), (.int .i64 t1060_2)] w_3 fun w_4 => 0 ≤ (i : Int) ∧ (i : Int) < ((wantn : Nat) : Int) ∧ ∃ t111p : Addr, wantA = some t111p ∧ ∃ t112 : Bool, w_4.cell? (t111p.add (Int.toNat i * 1)) = some (.bool t112) ∧ ifP t112
    (law5_VmJumps.J3 R a b far opsA opsn opsc wantA wantn wantc i x (newA w_2) t1061 1 w_4)
    (law5_VmJumps.J3 R a b far opsA opsn opsc wantA wantn wantc i x (newA w_2) t1061 2 w_4)

@[reducible] def law5_VmJumps.B4 (R : Value → World → Prop) (a : Int) (b : Int) (far : Int) (opsA : Option Addr) (opsn : Nat) (opsc : Nat) (wantA : Option Addr) (wantn : Nat) (wantc : Nat) (i : Int) (x : Int) (pA : Option Addr) (pn : Nat) (pc : Nat) (n : Int) (w : World) : Prop :=
  ifP (decide ((n : Int) < (IntKind.i64.wrap far)))
    (letW (w.alloc (.cells #[(.int .u16 6), (.int .u8 0), (.int .u8 0), (.int .u32 77)] 45)) fun w_2 => ∃ (v : Value) (w_3 : World), (Builtin.append_ #[22, 22] 22 #[(.slice pA pn pc), (.slice (some (newA w)) 1 1)]).run Try.prog w_2 = .ok v w_3 ∧ ∃ (t84A : Option Addr) (t84n t84c : Nat), v = (.slice t84A t84n t84c) ∧ law5_VmJumps.L4 R a b far opsA opsn opsc wantA wantn wantc i x t84A t84n t84c (IntKind.i64.wrap (n + 1)) w_3)
    (ifP ((far : Int) == 0)
    (∃ S_ : World → Prop, S_ w.drew ∧ letW w.drew fun w_4 => 0 ≤ (0 : Int) ∧ (0 : Int) < ((pn : Nat) : Int) ∧ ∃ t88p : Addr, pA = some t88p ∧ ∃ t89_0 : Int, (∀ u : World, S_ u → u.cell? (t88p.add (Int.toNat 0 * 4)) = some (.int .u16 t89_0)) ∧ ∃ t89_1 : Int, (∀ u_2 : World, S_ u_2 → u_2.cell? ((t88p.add (Int.toNat 0 * 4)).add 1) = some (.int .u8 t89_1)) ∧ ∃ t89_2 : Int, (∀ u_3 : World, S_ u_3 → u_3.cell? ((t88p.add (Int.toNat 0 * 4)).add 2) = some (.int .u8 t89_2)) ∧ ∃ t89_3 : Int, (∀ u_4 : World, S_ u_4 → u_4.cell? ((t88p.add (Int.toNat 0 * 4)).add 3) = some (.int .u32 t89_3)) ∧ 0 ≤ (1 : Int) ∧ (1 : Int) < ((pn : Nat) : Int) ∧ ∃ t91p : Addr, pA = some t91p ∧ ∃ t92_0 : Int, (∀ u_5 : World, S_ u_5 → u_5.cell? (t91p.add (Int.toNat 1 * 4)) = some (.int .u16 t92_0)) ∧ ∃ t92_1 : Int, (∀ u_6 : World, S_ u_6 → u_6.cell? ((t91p.add (Int.toNat 1 * 4)).add 1) = some (.int .u8 t92_1)) ∧ ∃ t92_2 : Int, (∀ u_7 : World, S_ u_7 → u_7.cell? ((t91p.add (Int.toNat 1 * 4)).add 2) = some (.int .u8 t92_2)) ∧ ∃ t92_3 : Int, (∀ u_8 : World, S_ u_8 → u_8.cell? ((t91p.add (Int.toNat 1 * 4)).add 3) = some (.int .u32 t92_3)) ∧ 0 ≤ (2 : Int) ∧ (2 : Int) < ((pn : Nat) : Int) ∧ ∃ t94p : Addr, pA = some t94p ∧ ∃ t95_0 : Int, (∀ u_9 : World, S_ u_9 → u_9.cell? (t94p.add (Int.toNat 2 * 4)) = some (.int .u16 t95_0)) ∧ ∃ t95_1 : Int, (∀ u_10 : World, S_ u_10 → u_10.cell? ((t94p.add (Int.toNat 2 * 4)).add 1) = some (.int .u8 t95_1)) ∧ ∃ t95_2 : Int, (∀ u_11 : World, S_ u_11 → u_11.cell? ((t94p.add (Int.toNat 2 * 4)).add 2) = some (.int .u8 t95_2)) ∧ ∃ t95_3 : Int, (∀ u_12 : World, S_ u_12 → u_12.cell? ((t94p.add (Int.toNat 2 * 4)).add 3) = some (.int .u32 t95_3)) ∧ letW (w_4.alloc (.cells #[(.int .u16 t89_0), (.int .u8 t89_1), (.int .u8 t89_2), (.int .u32 t89_3), (.int .u16 t92_0), (.int .u8 t92_1), (.int .u8 t92_2), (.int .u32 t92_3), (.int .u16 t95_0), (.int .u8 t95_1), (.int .u8 t95_2), (.int .u32 t95_3), (.int .u16 6), (.int .u8 0), (.int .u8 0), (.int .u32 1), (.int .u16 6), (.int .u8 0), (.int .u8 0), (.int .u32 2)] 45)) fun w_5 => law5_VmJumps.J2 R a b far opsA opsn opsc wantA wantn wantc i x (some (newA w_4)) 5 5 w_5)
    (letW (w.alloc (.cells #[(.int .u16 6), (.int .u8 0), (.int .u8 0), (.int .u32 1), (.int .u16 6), (.int .u8 0), (.int .u8 0), (.int .u32 2)] 45)) fun w_6 => ∃ (v_2 : Value) (w_7 : World), (Builtin.append_ #[22, 22] 22 #[(.slice pA pn pc), (.slice (some (newA w)) 2 2)]).run Try.prog w_6 = .ok v_2 w_7 ∧ ∃ (t103A : Option Addr) (t103n t103c : Nat), v_2 = (.slice t103A t103n t103c) ∧ law5_VmJumps.J2 R a b far opsA opsn opsc wantA wantn wantc i x t103A t103n t103c w_7))

def law5_VmJumps.J1 (R : Value → World → Prop) (a : Int) (b : Int) (far : Int) (opsA : Option Addr) (opsn : Nat) (opsc : Nat) (wantA : Option Addr) (wantn : Nat) (wantc : Nat) (i : Int) (x : Int) (pA : Option Addr) (pn : Nat) (pc : Nat) (w : World) : Prop :=
  letW (w.alloc (.cells #[(.int .u16 5), (.int .u8 0), (.int .u8 0), (.int .u32 (IntKind.u32.wrap far))] 45)) fun w_2 => ∃ (v : Value) (w_3 : World), (Builtin.append_ #[22, 22] 22 #[(.slice pA pn pc), (.slice (some (newA w)) 1 1)]).run Try.prog w_2 = .ok v w_3 ∧ ∃ (t74A : Option Addr) (t74n t74c : Nat), v = (.slice t74A t74n t74c) ∧ law5_VmJumps.L4 R a b far opsA opsn opsc wantA wantn wantc i x t74A t74n t74c 1 w_3

def law5_VmJumps.J0 (R : Value → World → Prop) (a : Int) (b : Int) (far : Int) (opsA : Option Addr) (opsn : Nat) (opsc : Nat) (wantA : Option Addr) (wantn : Nat) (wantc : Nat) (i : Int) (x : Int) (j : Addr) (w : World) : Prop :=
  ∃ t62_0 : Int, w.cell? j = some (.int .u16 t62_0) ∧ ∃ t62_1 : Int, w.cell? (j.add 1) = some (.int .u8 t62_1) ∧ ∃ t62_2 : Int, w.cell? (j.add 2) = some (.int .u8 t62_2) ∧ ∃ t62_3 : Int, w.cell? (j.add 3) = some (.int .u32 t62_3) ∧ letW (w.alloc (.cells #[(.int .u16 1), (.int .u8 0), (.int .u8 0), (.int .u32 b), (.int .u16 0), (.int .u8 0), (.int .u8 0), (.int .u32 a), (.int .u16 t62_0), (.int .u8 t62_1), (.int .u8 t62_2), (.int .u32 t62_3)] 45)) fun w_2 => ifP ((far : Int) == 0)
    (0 ≤ (2 : Int) ∧ (2 : Int) < ((3 : Nat) : Int) ∧ ∃ t67p : Addr, some (newA w) = some t67p ∧ (∃ u : Value, w_2.cell? ((t67p.add (Int.toNat 2 * 4)).add 2) = some u) ∧ w_2.frozen? ((t67p.add (Int.toNat 2 * 4)).add 2) = false ∧ letW (w_2.setCell ((t67p.add (Int.toNat 2 * 4)).add 2) (.int .u8 1)) fun w_3 => law5_VmJumps.J1 R a b far opsA opsn opsc wantA wantn wantc i x (some (newA w)) 3 3 w_3)
    (law5_VmJumps.J1 R a b far opsA opsn opsc wantA wantn wantc i x (some (newA w)) 3 3 w_2)

@[reducible] def law5_VmJumps.B2 (R : Value → World → Prop) (a : Int) (b : Int) (far : Int) (opsA : Option Addr) (opsn : Nat) (opsc : Nat) (wantA : Option Addr) (wantn : Nat) (wantc : Nat) (i : Int) (x : Int) (w : World) : Prop :=
  ifP (decide ((x : Int) < 2))
    (0 ≤ (i : Int) ∧ (i : Int) < ((opsn : Nat) : Int) ∧ ∃ t42p : Addr, opsA = some t42p ∧ ∃ t43 : Int, w.cell? (t42p.add (Int.toNat i * 1)) = some (.int .u16 t43) ∧ letW (w.alloc (.cells #[(.int .u16 0), (.int .u8 0), (.int .u8 0), (.int .u32 0)] 45)) fun w_2 => storeRow (newA w) 0 [(.int .u16 t43), (.int .u8 far), (.int .u8 0), (.int .u32 b)] w_2 fun w_3 => ifP ((x : Int) == 1)
    (0 ≤ (i : Int) ∧ (i : Int) < ((opsn : Nat) : Int) ∧ ∃ t51p : Addr, opsA = some t51p ∧ ∃ t52 : Int, w_3.cell? (t51p.add (Int.toNat i * 1)) = some (.int .u16 t52) ∧ (∃ u : Value, w_3.cell? (newA w) = some u) ∧ w_3.frozen? (newA w) = false ∧ letW (w_3.setCell (newA w) (.int .u16 (orI .u16 t52 8))) fun w_4 => (∃ u : Value, w_4.cell? ((newA w).add 3) = some u) ∧ w_4.frozen? ((newA w).add 3) = false ∧ letW (w_4.setCell ((newA w).add 3) (.int .u32 (xorI .u32 (IntKind.max .u32) b))) fun w_5 => law5_VmJumps.J0 R a b far opsA opsn opsc wantA wantn wantc i x (newA w) w_5)
    (law5_VmJumps.J0 R a b far opsA opsn opsc wantA wantn wantc i x (newA w) w_3))
    (law5_VmJumps.L0 R a b far opsA opsn opsc wantA wantn wantc (IntKind.i64.wrap (i + 1)) w)

@[reducible] def law5_VmJumps.B0 (R : Value → World → Prop) (a : Int) (b : Int) (far : Int) (opsA : Option Addr) (opsn : Nat) (opsc : Nat) (wantA : Option Addr) (wantn : Nat) (wantc : Nat) (i : Int) (w : World) : Prop :=
  ifP (decide ((i : Int) < 4))
    (law5_VmJumps.L2 R a b far opsA opsn opsc wantA wantn wantc i 0 w)
    (Run Try.prog 17 #[] w fun v w_2 => ∃ t121 : Bool, v = (.bool t121) ∧ R (.bool t121) w_2)

@[reducible] def law5_VmJumps.vc (R : Value → World → Prop) (a : Int) (b : Int) (far : Int) (w : World) : Prop :=
  letW (w.alloc (.cells #[(.int .u16 21), (.int .u16 37), (.int .u16 53), (.int .u16 69)] 43)) fun w_2 => letW (w_2.alloc (.cells #[(.bool ((a : Int) == b)), (.bool (decide ((a : Int) > b))), (.bool (decide ((a : Int) ≥ b))), (.bool ((andI .u32 a b : Int) != 0))] 4)) fun w_3 => law5_VmJumps.L0 R a b far (some (newA w)) 4 4 (some (newA w_2)) 4 4 0 w_3

theorem law5_VmJumps.B0_eq (R : Value → World → Prop) (a : Int) (b : Int) (far : Int) (opsA : Option Addr) (opsn : Nat) (opsc : Nat) (wantA : Option Addr) (wantn : Nat) (wantc : Nat) (i : Int) (w : World) (ts : Nat → Value) :
    code Try.prog none law5_VmJumps.live 0 law5_VmJumps.c0 (thenK (fun st w => loopVC (fun K => code Try.prog none law5_VmJumps.live 0 law5_VmJumps.c0 K) (law5_VmJumps.live 0) (law5_VmJumps.K0 R) (clearFrom (law5_VmJumps.live 0) 0 st) w) (law5_VmJumps.K0 R)) (mergeFrom (law5_VmJumps.live 0) ts 0 (clearFrom (law5_VmJumps.live 0) 0 [(.int .u32 a), (.int .u32 b), (.int .u8 far), undef, undef, undef, undef, (.slice opsA opsn opsc), (.slice wantA wantn wantc), (.int .i64 i), undef, undef, undef, undef, undef, undef, undef, undef, undef, undef, undef, undef, undef, undef, undef, undef, undef, undef, undef, undef, undef, undef, undef, undef, undef, undef, undef, undef, undef, undef, undef, undef, undef, undef, undef, undef, undef, undef, undef, undef, undef, undef, undef, undef, undef, undef, undef, undef, undef, undef, undef, undef, undef, undef, undef, undef, undef, undef, undef, undef, undef, undef, undef, undef, undef, undef, undef, undef, undef, undef, undef, undef, undef, undef, undef, undef, undef, undef, undef, undef, undef, undef, undef, undef, undef, undef, undef, undef, undef, undef, undef, undef, undef, undef, undef, undef, undef, undef, undef, undef, undef, undef, undef, undef, undef, undef, undef, undef, undef, undef, undef, undef])) w = law5_VmJumps.B0 R a b far opsA opsn opsc wantA wantn wantc i w := by kernel_rfl
theorem law5_VmJumps.L0_step {R : Value → World → Prop} {a : Int} {b : Int} {far : Int} {opsA : Option Addr} {opsn : Nat} {opsc : Nat} {wantA : Option Addr} {wantn : Nat} {wantc : Nat} {i : Int} {w : World} (h : law5_VmJumps.B0 R a b far opsA opsn opsc wantA wantn wantc i w) : law5_VmJumps.L0 R a b far opsA opsn opsc wantA wantn wantc i w :=
  loop_step (live := law5_VmJumps.live) (b := 0) (x := law5_VmJumps.c0) fun ts => Eq.mpr (law5_VmJumps.B0_eq R a b far opsA opsn opsc wantA wantn wantc i w ts) h
theorem law5_VmJumps.B2_eq (R : Value → World → Prop) (a : Int) (b : Int) (far : Int) (opsA : Option Addr) (opsn : Nat) (opsc : Nat) (wantA : Option Addr) (wantn : Nat) (wantc : Nat) (i : Int) (x : Int) (w : World) (ts : Nat → Value) :
    code Try.prog none law5_VmJumps.live 2 law5_VmJumps.c2 (thenK (fun st w => loopVC (fun K => code Try.prog none law5_VmJumps.live 2 law5_VmJumps.c2 K) (law5_VmJumps.live 2) (law5_VmJumps.K2 R) (clearFrom (law5_VmJumps.live 2) 0 st) w) (law5_VmJumps.K2 R)) (mergeFrom (law5_VmJumps.live 2) ts 0 (clearFrom (law5_VmJumps.live 2) 0 [(.int .u32 a), (.int .u32 b), (.int .u8 far), undef, undef, undef, undef, (.slice opsA opsn opsc), (.slice wantA wantn wantc), (.int .i64 i), (.int .i64 x), undef, undef, undef, undef, undef, undef, undef, undef, undef, undef, undef, undef, undef, undef, undef, undef, undef, undef, undef, undef, undef, undef, undef, undef, undef, undef, undef, undef, undef, undef, undef, undef, undef, undef, undef, undef, undef, undef, undef, undef, undef, undef, undef, undef, undef, undef, undef, undef, undef, undef, undef, undef, undef, undef, undef, undef, undef, undef, undef, undef, undef, undef, undef, undef, undef, undef, undef, undef, undef, undef, undef, undef, undef, undef, undef, undef, undef, undef, undef, undef, undef, undef, undef, undef, undef, undef, undef, undef, undef, undef, undef, undef, undef, undef, undef, undef, undef, undef, undef, undef, undef, undef, undef, undef, undef, undef, undef, undef, undef, undef, undef])) w = law5_VmJumps.B2 R a b far opsA opsn opsc wantA wantn wantc i x w := by kernel_rfl
theorem law5_VmJumps.L2_step {R : Value → World → Prop} {a : Int} {b : Int} {far : Int} {opsA : Option Addr} {opsn : Nat} {opsc : Nat} {wantA : Option Addr} {wantn : Nat} {wantc : Nat} {i : Int} {x : Int} {w : World} (h : law5_VmJumps.B2 R a b far opsA opsn opsc wantA wantn wantc i x w) : law5_VmJumps.L2 R a b far opsA opsn opsc wantA wantn wantc i x w :=
  loop_step (live := law5_VmJumps.live) (b := 2) (x := law5_VmJumps.c2) fun ts => Eq.mpr (law5_VmJumps.B2_eq R a b far opsA opsn opsc wantA wantn wantc i x w ts) h
theorem law5_VmJumps.B4_eq (R : Value → World → Prop) (a : Int) (b : Int) (far : Int) (opsA : Option Addr) (opsn : Nat) (opsc : Nat) (wantA : Option Addr) (wantn : Nat) (wantc : Nat) (i : Int) (x : Int) (pA : Option Addr) (pn : Nat) (pc : Nat) (n : Int) (w : World) (ts : Nat → Value) :
    code Try.prog none law5_VmJumps.live 4 law5_VmJumps.c4 (thenK (fun st w => loopVC (fun K => code Try.prog none law5_VmJumps.live 4 law5_VmJumps.c4 K) (law5_VmJumps.live 4) (law5_VmJumps.K4 R) (clearFrom (law5_VmJumps.live 4) 0 st) w) (law5_VmJumps.K4 R)) (mergeFrom (law5_VmJumps.live 4) ts 0 (clearFrom (law5_VmJumps.live 4) 0 [(.int .u32 a), (.int .u32 b), (.int .u8 far), undef, undef, undef, undef, (.slice opsA opsn opsc), (.slice wantA wantn wantc), (.int .i64 i), (.int .i64 x), undef, (.slice pA pn pc), (.int .i64 n), undef, undef, undef, undef, undef, undef, undef, undef, undef, undef, undef, undef, undef, undef, undef, undef, undef, undef, undef, undef, undef, undef, undef, undef, undef, undef, undef, undef, undef, undef, undef, undef, undef, undef, undef, undef, undef, undef, undef, undef, undef, undef, undef, undef, undef, undef, undef, undef, undef, undef, undef, undef, undef, undef, undef, undef, undef, undef, undef, undef, undef, undef, undef, undef, undef, undef, undef, undef, undef, undef, undef, undef, undef, undef, undef, undef, undef, undef, undef, undef, undef, undef, undef, undef, undef, undef, undef, undef, undef, undef, undef, undef, undef, undef, undef, undef, undef, undef, undef, undef, undef, undef, undef, undef, undef, undef, undef, undef])) w = law5_VmJumps.B4 R a b far opsA opsn opsc wantA wantn wantc i x pA pn pc n w := by kernel_rfl
theorem law5_VmJumps.L4_step {R : Value → World → Prop} {a : Int} {b : Int} {far : Int} {opsA : Option Addr} {opsn : Nat} {opsc : Nat} {wantA : Option Addr} {wantn : Nat} {wantc : Nat} {i : Int} {x : Int} {pA : Option Addr} {pn : Nat} {pc : Nat} {n : Int} {w : World} (h : law5_VmJumps.B4 R a b far opsA opsn opsc wantA wantn wantc i x pA pn pc n w) : law5_VmJumps.L4 R a b far opsA opsn opsc wantA wantn wantc i x pA pn pc n w :=
  loop_step (live := law5_VmJumps.live) (b := 4) (x := law5_VmJumps.c4) fun ts => Eq.mpr (law5_VmJumps.B4_eq R a b far opsA opsn opsc wantA wantn wantc i x pA pn pc n w ts) h
theorem law5_VmJumps.eq (R : Value → World → Prop) (a : Int) (b : Int) (far : Int) (w : World) : fnVC Try.prog none law5_VmJumps.live Try.f7 R [(.int .u32 a), (.int .u32 b), (.int .u8 far)] w = law5_VmJumps.vc R a b far w := by kernel_rfl
set_option maxHeartbeats 4000000 in
theorem law5_VmJumps.ok {R : Value → World → Prop} {a : Int} {b : Int} {far : Int} {w : World} (h : law5_VmJumps.vc R a b far w) : Run Try.prog 7 #[(.int .u32 a), (.int .u32 b), (.int .u8 far)] w R := by
  have h2 := Eq.mpr (law5_VmJumps.eq R a b far w) h
  exact fn_sound Try.mixed Try.func7 (by kernel_rfl) h2

/-! ### riddle/riddlelaw5.asksLength: function 24 -/
noncomputable def law5_asksLength.body : Code := bodyOf Try.f24
def law5_asksLength.live : Nat → List Nat
  | 0 => [0, 3]
  | _ => []
noncomputable def law5_asksLength.c0 : Code := sub law5_asksLength.body [1, 0, 1, 0, 0]
def law5_asksLength.K0 (R : Value → World → Prop) : Ex → St → World → Prop := (blockK 0 (thenK (fun st w => code Try.prog none law5_asksLength.live 0 (sub law5_asksLength.body [1, 1]) (retK Try.prog Try.f24 R) st w) (retK Try.prog Try.f24 R)))
def law5_asksLength.L0 (R : Value → World → Prop) (pA : Option Addr) (pn : Nat) (pc : Nat) (i : Int) (w : World) : Prop :=
  loopVC (fun K => code Try.prog none law5_asksLength.live 0 law5_asksLength.c0 K) (law5_asksLength.live 0) (law5_asksLength.K0 R) [(.slice pA pn pc), undef, undef, (.int .i64 i), undef, undef, undef, undef, undef, undef, undef, undef, undef, undef, undef, undef, undef, undef, undef, undef, undef, undef, undef, undef] w
def law5_asksLength.J0 (R : Value → World → Prop) (pA : Option Addr) (pn : Nat) (pc : Nat) (i : Int) (t23 : Bool) (w : World) : Prop :=
  ifP t23
    (R (.bool true) w)
    (law5_asksLength.L0 R pA pn pc (IntKind.i64.wrap (i + 1)) w)

@[reducible] def law5_asksLength.B0 (R : Value → World → Prop) (pA : Option Addr) (pn : Nat) (pc : Nat) (i : Int) (w : World) : Prop :=
  ifP (decide ((i : Int) < ((pn : Nat) : Int)))
    (0 ≤ (i : Int) ∧ (i : Int) < ((pn : Nat) : Int) ∧ ∃ t12p : Addr, pA = some t12p ∧ ∃ t14 : Int, w.cell? (t12p.add (Int.toNat i * 4)) = some (.int .u16 t14) ∧ ifP ((t14 : Int) == 128) (law5_asksLength.J0 R pA pn pc i true w) (0 ≤ (i : Int) ∧ (i : Int) < ((pn : Nat) : Int) ∧ ∃ t19p : Addr, pA = some t19p ∧ ∃ t21 : Int, w.cell? (t19p.add (Int.toNat i * 4)) = some (.int .u16 t21) ∧ law5_asksLength.J0 R pA pn pc i ((t21 : Int) == 129) w))
    (R (.bool false) w)

@[reducible] def law5_asksLength.vc (R : Value → World → Prop) (pA : Option Addr) (pn : Nat) (pc : Nat) (w : World) : Prop :=
  law5_asksLength.L0 R pA pn pc 0 w

theorem law5_asksLength.B0_eq (R : Value → World → Prop) (pA : Option Addr) (pn : Nat) (pc : Nat) (i : Int) (w : World) (ts : Nat → Value) :
    code Try.prog none law5_asksLength.live 0 law5_asksLength.c0 (thenK (fun st w => loopVC (fun K => code Try.prog none law5_asksLength.live 0 law5_asksLength.c0 K) (law5_asksLength.live 0) (law5_asksLength.K0 R) (clearFrom (law5_asksLength.live 0) 0 st) w) (law5_asksLength.K0 R)) (mergeFrom (law5_asksLength.live 0) ts 0 (clearFrom (law5_asksLength.live 0) 0 [(.slice pA pn pc), undef, undef, (.int .i64 i), undef, undef, undef, undef, undef, undef, undef, undef, undef, undef, undef, undef, undef, undef, undef, undef, undef, undef, undef, undef])) w = law5_asksLength.B0 R pA pn pc i w := by kernel_rfl
theorem law5_asksLength.L0_step {R : Value → World → Prop} {pA : Option Addr} {pn : Nat} {pc : Nat} {i : Int} {w : World} (h : law5_asksLength.B0 R pA pn pc i w) : law5_asksLength.L0 R pA pn pc i w :=
  loop_step (live := law5_asksLength.live) (b := 0) (x := law5_asksLength.c0) fun ts => Eq.mpr (law5_asksLength.B0_eq R pA pn pc i w ts) h
theorem law5_asksLength.eq (R : Value → World → Prop) (pA : Option Addr) (pn : Nat) (pc : Nat) (w : World) : fnVC Try.prog none law5_asksLength.live Try.f24 R [(.slice pA pn pc)] w = law5_asksLength.vc R pA pn pc w := by kernel_rfl
set_option maxHeartbeats 4000000 in
theorem law5_asksLength.ok {R : Value → World → Prop} {pA : Option Addr} {pn : Nat} {pc : Nat} {w : World} (h : law5_asksLength.vc R pA pn pc w) : Run Try.prog 24 #[(.slice pA pn pc)] w R := by
  have h2 := Eq.mpr (law5_asksLength.eq R pA pn pc w) h
  exact fn_sound Try.mixed Try.func24 (by kernel_rfl) h2

end
end Go.Proofs.Ytllooifbiapeoaa
