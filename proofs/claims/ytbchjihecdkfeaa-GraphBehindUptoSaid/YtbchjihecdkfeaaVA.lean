/- Printed by a program of this repo (wip/tools/gen.py) out of Lean's own print of the functions: each function's weakest precondition, and the equation that it is one. -/
import Derived.Test.YtbchjihecdkfeaaProg
import Derived.Test.YtbchjihecdkfeaaS4
import Derived.KernelRfl
namespace Go.Proofs.Ytbchjihecdkfeaa
open Go.Rd
set_option linter.unusedVariables false
set_option maxRecDepth 100000
section
theorem Try.mixed : Try.prog.follows .mixedOrders = true := by kernel_rfl

/-! ### riddle/riddleref2.Jump: function 71 -/
noncomputable def ref2_Jump.body : Code := bodyOf Try.f71
def ref2_Jump.live : Nat → List Nat
  | _ => []
def ref2_Jump.J0 (R : Value → World → Prop) (t4 : Bool) (w : World) : Prop :=
  ifP t4
    (R (.bool true) w)
    (R (.bool false) w)

@[reducible] def ref2_Jump.vc (R : Value → World → Prop) (code_ : Int) (w : World) : Prop :=
  ifP ((code_ : Int) == 21)
    (ref2_Jump.J0 R ((code_ : Int) == 21) w)
    (ifP ((code_ : Int) == 29)
    (ref2_Jump.J0 R ((code_ : Int) == 29) w)
    (ifP ((code_ : Int) == 37)
    (ref2_Jump.J0 R ((code_ : Int) == 37) w)
    (ifP ((code_ : Int) == 45)
    (ref2_Jump.J0 R ((code_ : Int) == 45) w)
    (ifP ((code_ : Int) == 53)
    (ref2_Jump.J0 R ((code_ : Int) == 53) w)
    (ifP ((code_ : Int) == 61)
    (ref2_Jump.J0 R ((code_ : Int) == 61) w)
    (ifP ((code_ : Int) == 69)
    (ref2_Jump.J0 R ((code_ : Int) == 69) w)
    (ref2_Jump.J0 R ((code_ : Int) == 77) w)))))))

theorem ref2_Jump.eq (R : Value → World → Prop) (code_ : Int) (w : World) : fnVC Try.prog none ref2_Jump.live Try.f71 R [(.int .u16 code_)] w = ref2_Jump.vc R code_ w := by kernel_rfl
set_option maxHeartbeats 4000000 in
theorem ref2_Jump.ok {R : Value → World → Prop} {code_ : Int} {w : World} (h : ref2_Jump.vc R code_ w) : Run Try.prog 71 #[(.int .u16 code_)] w R := by
  have h2 := Eq.mpr (ref2_Jump.eq R code_ w) h
  exact fn_sound Try.mixed Try.func71 (by kernel_rfl) h2

/-! ### riddle/riddleref2.Operation: function 114 -/
noncomputable def ref2_Operation.body : Code := bodyOf Try.f114
def ref2_Operation.live : Nat → List Nat
  | _ => []
def ref2_Operation.J1 (R : Value → World → Prop) (t17 : Bool) (w : World) : Prop :=
  ifP t17
    (R (.bool true) w)
    (R (.bool false) w)

def ref2_Operation.J0 (R : Value → World → Prop) (t3 : Int) (t4 : Bool) (w : World) : Prop :=
  ifP t4
    (R (.bool true) w)
    (ifP ((t3 : Int) == 100)
    (ref2_Operation.J1 R ((t3 : Int) == 100) w)
    (ifP ((t3 : Int) == 108)
    (ref2_Operation.J1 R ((t3 : Int) == 108) w)
    (ifP ((t3 : Int) == 116)
    (ref2_Operation.J1 R ((t3 : Int) == 116) w)
    (ifP ((t3 : Int) == 124)
    (ref2_Operation.J1 R ((t3 : Int) == 124) w)
    (ifP ((t3 : Int) == 148)
    (ref2_Operation.J1 R ((t3 : Int) == 148) w)
    (ifP ((t3 : Int) == 156)
    (ref2_Operation.J1 R ((t3 : Int) == 156) w)
    (ifP ((t3 : Int) == 164)
    (ref2_Operation.J1 R ((t3 : Int) == 164) w)
    (ref2_Operation.J1 R ((t3 : Int) == 172) w))))))))

@[reducible] def ref2_Operation.vc (R : Value → World → Prop) (code_ : Int) (w : World) : Prop :=
  ifP ((code_ : Int) == 4)
    (ref2_Operation.J0 R code_ ((code_ : Int) == 4) w)
    (ifP ((code_ : Int) == 12)
    (ref2_Operation.J0 R code_ ((code_ : Int) == 12) w)
    (ifP ((code_ : Int) == 20)
    (ref2_Operation.J0 R code_ ((code_ : Int) == 20) w)
    (ifP ((code_ : Int) == 28)
    (ref2_Operation.J0 R code_ ((code_ : Int) == 28) w)
    (ifP ((code_ : Int) == 36)
    (ref2_Operation.J0 R code_ ((code_ : Int) == 36) w)
    (ifP ((code_ : Int) == 44)
    (ref2_Operation.J0 R code_ ((code_ : Int) == 44) w)
    (ifP ((code_ : Int) == 52)
    (ref2_Operation.J0 R code_ ((code_ : Int) == 52) w)
    (ifP ((code_ : Int) == 60)
    (ref2_Operation.J0 R code_ ((code_ : Int) == 60) w)
    (ifP ((code_ : Int) == 68)
    (ref2_Operation.J0 R code_ ((code_ : Int) == 68) w)
    (ifP ((code_ : Int) == 76)
    (ref2_Operation.J0 R code_ ((code_ : Int) == 76) w)
    (ifP ((code_ : Int) == 84)
    (ref2_Operation.J0 R code_ ((code_ : Int) == 84) w)
    (ref2_Operation.J0 R code_ ((code_ : Int) == 92) w)))))))))))

theorem ref2_Operation.eq (R : Value → World → Prop) (code_ : Int) (w : World) : fnVC Try.prog none ref2_Operation.live Try.f114 R [(.int .u16 code_)] w = ref2_Operation.vc R code_ w := by kernel_rfl
set_option maxHeartbeats 4000000 in
theorem ref2_Operation.ok {R : Value → World → Prop} {code_ : Int} {w : World} (h : ref2_Operation.vc R code_ w) : Run Try.prog 114 #[(.int .u16 code_)] w R := by
  have h2 := Eq.mpr (ref2_Operation.eq R code_ w) h
  exact fn_sound Try.mixed Try.func114 (by kernel_rfl) h2

/-! ### riddle/riddleref2.Known: function 99 -/
noncomputable def ref2_Known.body : Code := bodyOf Try.f99
def ref2_Known.live : Nat → List Nat
  | _ => []
def ref2_Known.J2 (R : Value → World → Prop) (t2 : Bool) (w : World) : Prop :=
  R (.bool t2) w

def ref2_Known.J1 (R : Value → World → Prop) (code_ : Int) (t14 : Bool) (w : World) : Prop :=
  ifP t14
    (R (.bool true) w)
    (Run Try.prog 71 #[(.int .u16 code_)] w fun v w_2 => ∃ t28 : Bool, v = (.bool t28) ∧ ifP t28 (ref2_Known.J2 R true w_2) (Run Try.prog 114 #[(.int .u16 code_)] w_2 fun v_2 w_3 => ∃ t31 : Bool, v_2 = (.bool t31) ∧ ref2_Known.J2 R t31 w_3))

def ref2_Known.J0 (R : Value → World → Prop) (code_ : Int) (t3 : Int) (t4 : Bool) (w : World) : Prop :=
  ifP t4
    (R (.bool true) w)
    (ifP ((t3 : Int) == 1)
    (ref2_Known.J1 R code_ ((t3 : Int) == 1) w)
    (ifP ((t3 : Int) == 97)
    (ref2_Known.J1 R code_ ((t3 : Int) == 97) w)
    (ifP ((t3 : Int) == 129)
    (ref2_Known.J1 R code_ ((t3 : Int) == 129) w)
    (ifP ((t3 : Int) == 177)
    (ref2_Known.J1 R code_ ((t3 : Int) == 177) w)
    (ifP ((t3 : Int) == 2)
    (ref2_Known.J1 R code_ ((t3 : Int) == 2) w)
    (ifP ((t3 : Int) == 3)
    (ref2_Known.J1 R code_ ((t3 : Int) == 3) w)
    (ifP ((t3 : Int) == 132)
    (ref2_Known.J1 R code_ ((t3 : Int) == 132) w)
    (ifP ((t3 : Int) == 6)
    (ref2_Known.J1 R code_ ((t3 : Int) == 6) w)
    (ifP ((t3 : Int) == 22)
    (ref2_Known.J1 R code_ ((t3 : Int) == 22) w)
    (ifP ((t3 : Int) == 7)
    (ref2_Known.J1 R code_ ((t3 : Int) == 7) w)
    (ifP ((t3 : Int) == 135)
    (ref2_Known.J1 R code_ ((t3 : Int) == 135) w)
    (ref2_Known.J1 R code_ ((t3 : Int) == 5) w))))))))))))

@[reducible] def ref2_Known.vc (R : Value → World → Prop) (code_ : Int) (w : World) : Prop :=
  ifP ((code_ : Int) == 0)
    (ref2_Known.J0 R code_ code_ ((code_ : Int) == 0) w)
    (ifP ((code_ : Int) == 32)
    (ref2_Known.J0 R code_ code_ ((code_ : Int) == 32) w)
    (ifP ((code_ : Int) == 40)
    (ref2_Known.J0 R code_ code_ ((code_ : Int) == 40) w)
    (ifP ((code_ : Int) == 48)
    (ref2_Known.J0 R code_ code_ ((code_ : Int) == 48) w)
    (ifP ((code_ : Int) == 64)
    (ref2_Known.J0 R code_ code_ ((code_ : Int) == 64) w)
    (ifP ((code_ : Int) == 72)
    (ref2_Known.J0 R code_ code_ ((code_ : Int) == 72) w)
    (ifP ((code_ : Int) == 80)
    (ref2_Known.J0 R code_ code_ ((code_ : Int) == 80) w)
    (ifP ((code_ : Int) == 96)
    (ref2_Known.J0 R code_ code_ ((code_ : Int) == 96) w)
    (ref2_Known.J0 R code_ code_ ((code_ : Int) == 128) w))))))))

theorem ref2_Known.eq (R : Value → World → Prop) (code_ : Int) (w : World) : fnVC Try.prog none ref2_Known.live Try.f99 R [(.int .u16 code_)] w = ref2_Known.vc R code_ w := by kernel_rfl
set_option maxHeartbeats 4000000 in
theorem ref2_Known.ok {R : Value → World → Prop} {code_ : Int} {w : World} (h : ref2_Known.vc R code_ w) : Run Try.prog 99 #[(.int .u16 code_)] w R := by
  have h2 := Eq.mpr (ref2_Known.eq R code_ w) h
  exact fn_sound Try.mixed Try.func99 (by kernel_rfl) h2

/-! ### riddle/riddleref2.Class: function 56 -/
noncomputable def ref2_Class.body : Code := bodyOf Try.f56
def ref2_Class.live : Nat → List Nat
  | _ => []
@[reducible] def ref2_Class.vc (R : Value → World → Prop) (code_ : Int) (w : World) : Prop :=
  Run Try.prog 99 #[(.int .u16 code_)] w fun v w_2 => ∃ t4 : Bool, v = (.bool t4) ∧ ifP (!t4)
    (R (.int .i64 (-1)) w_2)
    (R (.int .i64 (IntKind.i64.wrap (andI .u16 code_ 7))) w_2)

theorem ref2_Class.eq (R : Value → World → Prop) (code_ : Int) (w : World) : fnVC Try.prog none ref2_Class.live Try.f56 R [(.int .u16 code_)] w = ref2_Class.vc R code_ w := by kernel_rfl
set_option maxHeartbeats 4000000 in
theorem ref2_Class.ok {R : Value → World → Prop} {code_ : Int} {w : World} (h : ref2_Class.vc R code_ w) : Run Try.prog 56 #[(.int .u16 code_)] w R := by
  have h2 := Eq.mpr (ref2_Class.eq R code_ w) h
  exact fn_sound Try.mixed Try.func56 (by kernel_rfl) h2

/-! ### riddle/riddleref4.Fault: function 69 -/
noncomputable def ref4_Fault.body : Code := bodyOf Try.f69
def ref4_Fault.live : Nat → List Nat
  | _ => []
def ref4_Fault.J2 (R : Value → World → Prop) (t46 : Bool) (w : World) : Prop :=
  ifP t46
    (R (.int .i64 45) w)
    (R (.int .i64 0) w)

def ref4_Fault.J1 (R : Value → World → Prop) (i : Addr) (t32 : Bool) (w : World) : Prop :=
  ifP t32
    (R (.int .i64 44) w)
    (∃ t48 : Int, w.cell? i = some (.int .u16 t48) ∧ ifP ((t48 : Int) == 100) (∃ t57 : Int, w.cell? (i.add 3) = some (.int .u32 t57) ∧ ref4_Fault.J2 R (decide ((t57 : Int) > 31)) w) (∃ t52 : Int, w.cell? i = some (.int .u16 t52) ∧ ifP ((t52 : Int) == 116) (∃ t57_2 : Int, w.cell? (i.add 3) = some (.int .u32 t57_2) ∧ ref4_Fault.J2 R (decide ((t57_2 : Int) > 31)) w) (ref4_Fault.J2 R false w)))

def ref4_Fault.J0 (R : Value → World → Prop) (i : Addr) (t8 : Bool) (w : World) : Prop :=
  ifP t8
    (R (.int .i64 43) w)
    (∃ t34 : Int, w.cell? i = some (.int .u16 t34) ∧ ifP ((t34 : Int) == 52) (∃ t43 : Int, w.cell? (i.add 3) = some (.int .u32 t43) ∧ ref4_Fault.J1 R i ((t43 : Int) == 0) w) (∃ t38 : Int, w.cell? i = some (.int .u16 t38) ∧ ifP ((t38 : Int) == 148) (∃ t43_2 : Int, w.cell? (i.add 3) = some (.int .u32 t43_2) ∧ ref4_Fault.J1 R i ((t43_2 : Int) == 0) w) (ref4_Fault.J1 R i false w)))

@[reducible] def ref4_Fault.vc (R : Value → World → Prop) (i_0 : Int) (i_1 : Int) (i_2 : Int) (i_3 : Int) (w : World) : Prop :=
  letW (w.alloc (.cells #[(.int .u16 i_0), (.int .u8 i_1), (.int .u8 i_2), (.int .u32 i_3)] 47)) fun w_2 => ∃ t5 : Int, w_2.cell? (newA w) = some (.int .u16 t5) ∧ Run Try.prog 99 #[(.int .u16 t5)] w_2 fun v w_3 => ∃ t6 : Bool, v = (.bool t6) ∧ ifP (!t6)
    (R (.int .i64 42) w_3)
    (∃ t10 : Int, w_3.cell? (newA w) = some (.int .u16 t10) ∧ ifP ((t10 : Int) == 2) (∃ t29 : Int, w_3.cell? ((newA w).add 3) = some (.int .u32 t29) ∧ ref4_Fault.J0 R (newA w) (decide ((t29 : Int) ≥ 16)) w_3) (∃ t14 : Int, w_3.cell? (newA w) = some (.int .u16 t14) ∧ ifP ((t14 : Int) == 3) (∃ t29_2 : Int, w_3.cell? ((newA w).add 3) = some (.int .u32 t29_2) ∧ ref4_Fault.J0 R (newA w) (decide ((t29_2 : Int) ≥ 16)) w_3) (∃ t19 : Int, w_3.cell? (newA w) = some (.int .u16 t19) ∧ ifP ((t19 : Int) == 96) (∃ t29_3 : Int, w_3.cell? ((newA w).add 3) = some (.int .u32 t29_3) ∧ ref4_Fault.J0 R (newA w) (decide ((t29_3 : Int) ≥ 16)) w_3) (∃ t24 : Int, w_3.cell? (newA w) = some (.int .u16 t24) ∧ ifP ((t24 : Int) == 97) (∃ t29_4 : Int, w_3.cell? ((newA w).add 3) = some (.int .u32 t29_4) ∧ ref4_Fault.J0 R (newA w) (decide ((t29_4 : Int) ≥ 16)) w_3) (ref4_Fault.J0 R (newA w) false w_3)))))

theorem ref4_Fault.eq (R : Value → World → Prop) (i_0 : Int) (i_1 : Int) (i_2 : Int) (i_3 : Int) (w : World) : fnVC Try.prog none ref4_Fault.live Try.f69 R [(.agg #[(.int .u16 i_0), (.int .u8 i_1), (.int .u8 i_2), (.int .u32 i_3)])] w = ref4_Fault.vc R i_0 i_1 i_2 i_3 w := by kernel_rfl
set_option maxHeartbeats 4000000 in
theorem ref4_Fault.ok {R : Value → World → Prop} {i_0 : Int} {i_1 : Int} {i_2 : Int} {i_3 : Int} {w : World} (h : ref4_Fault.vc R i_0 i_1 i_2 i_3 w) : Run Try.prog 69 #[(.agg #[(.int .u16 i_0), (.int .u8 i_1), (.int .u8 i_2), (.int .u32 i_3)])] w R := by
  have h2 := Eq.mpr (ref4_Fault.eq R i_0 i_1 i_2 i_3 w) h
  exact fn_sound Try.mixed Try.func69 (by kernel_rfl) h2

/-! ### riddle/riddleref15.code: function 42 -/
noncomputable def ref15_code.body : Code := bodyOf Try.f42
def ref15_code.live : Nat → List Nat
  | 0 => [0, 3]
  | _ => []
noncomputable def ref15_code.c0 : Code := sub ref15_code.body [1, 0, 1, 0, 0]
def ref15_code.K0 (R : Value → World → Prop) : Ex → St → World → Prop := (blockK 0 (thenK (fun st w => code Try.prog none ref15_code.live 0 (sub ref15_code.body [1, 1]) (retK Try.prog Try.f42 R) st w) (retK Try.prog Try.f42 R)))
def ref15_code.L0 (R : Value → World → Prop) (cA : Option Addr) (cn : Nat) (cc : Nat) (i : Int) (w : World) : Prop :=
  loopVC (fun K => code Try.prog none ref15_code.live 0 ref15_code.c0 K) (ref15_code.live 0) (ref15_code.K0 R) [(.slice cA cn cc), undef, undef, (.int .i64 i), undef, undef, undef, undef, undef, undef, undef, undef, undef, undef, undef, undef, undef, undef, undef, undef, undef, undef, undef, undef, undef, undef, undef, undef, undef, undef, undef, undef, undef, undef, undef] w
def ref15_code.J0 (R : Value → World → Prop) (cA : Option Addr) (cn : Nat) (cc : Nat) (i : Int) (t34 : Bool) (w : World) : Prop :=
  ifP t34
    (R (.bool false) w)
    (ref15_code.L0 R cA cn cc (IntKind.i64.wrap (i + 1)) w)

@[reducible] def ref15_code.B0 (R : Value → World → Prop) (cA : Option Addr) (cn : Nat) (cc : Nat) (i : Int) (w : World) : Prop :=
  ifP (decide ((i : Int) < ((cn : Nat) : Int)))
    (0 ≤ (i : Int) ∧ (i : Int) < ((cn : Nat) : Int) ∧ ∃ t13p : Addr, cA = some t13p ∧ ∃ t15 : Int, w.cell? (t13p.add (Int.toNat i * 4)) = some (.int .u16 t15) ∧ Run Try.prog 56 #[(.int .u16 t15)] w fun v w_2 => ∃ t16 : Int, v = (.int .i64 t16) ∧ ifP (decide ((t16 : Int) < 0)) (ref15_code.J0 R cA cn cc i true w_2) (ifP ((t16 : Int) == 5) (ref15_code.J0 R cA cn cc i true w_2) (ifP ((t16 : Int) == 6) (ref15_code.J0 R cA cn cc i true w_2) (0 ≤ (i : Int) ∧ (i : Int) < ((cn : Nat) : Int) ∧ ∃ t30p : Addr, cA = some t30p ∧ ∃ t31_0 : Int, w_2.cell? (t30p.add (Int.toNat i * 4)) = some (.int .u16 t31_0) ∧ ∃ t31_1 : Int, w_2.cell? ((t30p.add (Int.toNat i * 4)).add 1) = some (.int .u8 t31_1) ∧ ∃ t31_2 : Int, w_2.cell? ((t30p.add (Int.toNat i * 4)).add 2) = some (.int .u8 t31_2) ∧ ∃ t31_3 : Int, w_2.cell? ((t30p.add (Int.toNat i * 4)).add 3) = some (.int .u32 t31_3) ∧ Run Try.prog 69 #[(.agg #[(.int .u16 t31_0), (.int .u8 t31_1), (.int .u8 t31_2), (.int .u32 t31_3)])] w_2 fun v_2 w_3 => ∃ t32 : Int, v_2 = (.int .i64 t32) ∧ ref15_code.J0 R cA cn cc i ((t32 : Int) != 0) w_3))))
    (R (.bool true) w)

@[reducible] def ref15_code.vc (R : Value → World → Prop) (cA : Option Addr) (cn : Nat) (cc : Nat) (w : World) : Prop :=
  ref15_code.L0 R cA cn cc 0 w

theorem ref15_code.B0_eq (R : Value → World → Prop) (cA : Option Addr) (cn : Nat) (cc : Nat) (i : Int) (w : World) (ts : Nat → Value) :
    code Try.prog none ref15_code.live 0 ref15_code.c0 (thenK (fun st w => loopVC (fun K => code Try.prog none ref15_code.live 0 ref15_code.c0 K) (ref15_code.live 0) (ref15_code.K0 R) (clearFrom (ref15_code.live 0) 0 st) w) (ref15_code.K0 R)) (mergeFrom (ref15_code.live 0) ts 0 (clearFrom (ref15_code.live 0) 0 [(.slice cA cn cc), undef, undef, (.int .i64 i), undef, undef, undef, undef, undef, undef, undef, undef, undef, undef, undef, undef, undef, undef, undef, undef, undef, undef, undef, undef, undef, undef, undef, undef, undef, undef, undef, undef, undef, undef, undef])) w = ref15_code.B0 R cA cn cc i w := by kernel_rfl
theorem ref15_code.L0_step {R : Value → World → Prop} {cA : Option Addr} {cn : Nat} {cc : Nat} {i : Int} {w : World} (h : ref15_code.B0 R cA cn cc i w) : ref15_code.L0 R cA cn cc i w :=
  loop_step (live := ref15_code.live) (b := 0) (x := ref15_code.c0) fun ts => Eq.mpr (ref15_code.B0_eq R cA cn cc i w ts) h
theorem ref15_code.eq (R : Value → World → Prop) (cA : Option Addr) (cn : Nat) (cc : Nat) (w : World) : fnVC Try.prog none ref15_code.live Try.f42 R [(.slice cA cn cc)] w = ref15_code.vc R cA cn cc w := by kernel_rfl
set_option maxHeartbeats 4000000 in
theorem ref15_code.ok {R : Value → World → Prop} {cA : Option Addr} {cn : Nat} {cc : Nat} {w : World} (h : ref15_code.vc R cA cn cc w) : Run Try.prog 42 #[(.slice cA cn cc)] w R := by
  have h2 := Eq.mpr (ref15_code.eq R cA cn cc w) h
  exact fn_sound Try.mixed Try.func42 (by kernel_rfl) h2

/-! ### riddle/riddleref2.Return: function 57 -/
noncomputable def ref2_Return.body : Code := bodyOf Try.f57
def ref2_Return.live : Nat → List Nat
  | _ => []
def ref2_Return.J0 (R : Value → World → Prop) (t2 : Bool) (w : World) : Prop :=
  R (.bool t2) w

@[reducible] def ref2_Return.vc (R : Value → World → Prop) (code_ : Int) (w : World) : Prop :=
  ifP ((code_ : Int) == 6) (ref2_Return.J0 R true w) (ref2_Return.J0 R ((code_ : Int) == 22) w)

theorem ref2_Return.eq (R : Value → World → Prop) (code_ : Int) (w : World) : fnVC Try.prog none ref2_Return.live Try.f57 R [(.int .u16 code_)] w = ref2_Return.vc R code_ w := by kernel_rfl
set_option maxHeartbeats 4000000 in
theorem ref2_Return.ok {R : Value → World → Prop} {code_ : Int} {w : World} (h : ref2_Return.vc R code_ w) : Run Try.prog 57 #[(.int .u16 code_)] w R := by
  have h2 := Eq.mpr (ref2_Return.eq R code_ w) h
  exact fn_sound Try.mixed Try.func57 (by kernel_rfl) h2

/-! ### riddle/riddleref2.ByX: function 76 -/
noncomputable def ref2_ByX.body : Code := bodyOf Try.f76
def ref2_ByX.live : Nat → List Nat
  | _ => []
def ref2_ByX.J0 (R : Value → World → Prop) (t2 : Bool) (w : World) : Prop :=
  R (.bool t2) w

@[reducible] def ref2_ByX.vc (R : Value → World → Prop) (code_ : Int) (w : World) : Prop :=
  Run Try.prog 71 #[(.int .u16 code_)] w fun v w_2 => ∃ t4 : Bool, v = (.bool t4) ∧ ifP t4 (ref2_ByX.J0 R ((andI .u16 code_ 8 : Int) != 0) w_2) (Run Try.prog 114 #[(.int .u16 code_)] w_2 fun v_2 w_3 => ∃ t7 : Bool, v_2 = (.bool t7) ∧ ifP t7 (ref2_ByX.J0 R ((andI .u16 code_ 8 : Int) != 0) w_3) (ref2_ByX.J0 R false w_3))

theorem ref2_ByX.eq (R : Value → World → Prop) (code_ : Int) (w : World) : fnVC Try.prog none ref2_ByX.live Try.f76 R [(.int .u16 code_)] w = ref2_ByX.vc R code_ w := by kernel_rfl
set_option maxHeartbeats 4000000 in
theorem ref2_ByX.ok {R : Value → World → Prop} {code_ : Int} {w : World} (h : ref2_ByX.vc R code_ w) : Run Try.prog 76 #[(.int .u16 code_)] w R := by
  have h2 := Eq.mpr (ref2_ByX.eq R code_ w) h
  exact fn_sound Try.mixed Try.func76 (by kernel_rfl) h2

/-! ### riddle/riddleref2.Load: function 111 -/
noncomputable def ref2_Load.body : Code := bodyOf Try.f111
def ref2_Load.live : Nat → List Nat
  | _ => []
def ref2_Load.J0 (R : Value → World → Prop) (t4 : Bool) (w : World) : Prop :=
  ifP t4
    (R (.bool true) w)
    (R (.bool false) w)

@[reducible] def ref2_Load.vc (R : Value → World → Prop) (code_ : Int) (w : World) : Prop :=
  ifP ((code_ : Int) == 32)
    (ref2_Load.J0 R ((code_ : Int) == 32) w)
    (ifP ((code_ : Int) == 40)
    (ref2_Load.J0 R ((code_ : Int) == 40) w)
    (ifP ((code_ : Int) == 48)
    (ref2_Load.J0 R ((code_ : Int) == 48) w)
    (ifP ((code_ : Int) == 64)
    (ref2_Load.J0 R ((code_ : Int) == 64) w)
    (ifP ((code_ : Int) == 72)
    (ref2_Load.J0 R ((code_ : Int) == 72) w)
    (ifP ((code_ : Int) == 80)
    (ref2_Load.J0 R ((code_ : Int) == 80) w)
    (ref2_Load.J0 R ((code_ : Int) == 177) w))))))

theorem ref2_Load.eq (R : Value → World → Prop) (code_ : Int) (w : World) : fnVC Try.prog none ref2_Load.live Try.f111 R [(.int .u16 code_)] w = ref2_Load.vc R code_ w := by kernel_rfl
set_option maxHeartbeats 4000000 in
theorem ref2_Load.ok {R : Value → World → Prop} {code_ : Int} {w : World} (h : ref2_Load.vc R code_ w) : Run Try.prog 111 #[(.int .u16 code_)] w R := by
  have h2 := Eq.mpr (ref2_Load.eq R code_ w) h
  exact fn_sound Try.mixed Try.func111 (by kernel_rfl) h2

/-! ### riddle/riddleref2.Uses: function 70 -/
noncomputable def ref2_Uses.body : Code := bodyOf Try.f70
def ref2_Uses.live : Nat → List Nat
  | _ => []
def ref2_Uses.J2 (R : Value → World → Prop) (t2 : Bool) (t3 : Bool) (t4 : Bool) (w : World) : Prop :=
  R (.tuple #[(.bool t2), (.bool t3), (.bool t4)]) w

def ref2_Uses.J1 (R : Value → World → Prop) (code_ : Int) (k : Bool) (w : World) : Prop :=
  Run Try.prog 71 #[(.int .u16 code_)] w fun v w_2 => ∃ t22 : Bool, v = (.bool t22) ∧ Run Try.prog 111 #[(.int .u16 code_)] w_2 fun v_2 w_3 => ∃ t24 : Bool, v_2 = (.bool t24) ∧ ifP t24 (ref2_Uses.J2 R k t22 true w_3) (ifP ((code_ : Int) == 60) (ref2_Uses.J2 R k t22 true w_3) (ref2_Uses.J2 R k t22 ((code_ : Int) == 156) w_3))

def ref2_Uses.J0 (R : Value → World → Prop) (code_ : Int) (k : Bool) (t13 : Bool) (w : World) : Prop :=
  ifP t13
    (ref2_Uses.J1 R code_ false w)
    (ref2_Uses.J1 R code_ k w)

@[reducible] def ref2_Uses.vc (R : Value → World → Prop) (code_ : Int) (w : World) : Prop :=
  Run Try.prog 99 #[(.int .u16 code_)] w fun v w_2 => ∃ t7 : Bool, v = (.bool t7) ∧ ifP (!t7)
    (R (.tuple #[(.bool false), (.bool false), (.bool false)]) w_2)
    (Run Try.prog 76 #[(.int .u16 code_)] w_2 fun v_2 w_3 => ∃ t10 : Bool, v_2 = (.bool t10) ∧ ifP ((code_ : Int) == 128)
    (ref2_Uses.J0 R code_ (!t10) ((code_ : Int) == 128) w_3)
    (ifP ((code_ : Int) == 129)
    (ref2_Uses.J0 R code_ (!t10) ((code_ : Int) == 129) w_3)
    (ifP ((code_ : Int) == 132)
    (ref2_Uses.J0 R code_ (!t10) ((code_ : Int) == 132) w_3)
    (ifP ((code_ : Int) == 22)
    (ref2_Uses.J0 R code_ (!t10) ((code_ : Int) == 22) w_3)
    (ifP ((code_ : Int) == 7)
    (ref2_Uses.J0 R code_ (!t10) ((code_ : Int) == 7) w_3)
    (ref2_Uses.J0 R code_ (!t10) ((code_ : Int) == 135) w_3))))))

theorem ref2_Uses.eq (R : Value → World → Prop) (code_ : Int) (w : World) : fnVC Try.prog none ref2_Uses.live Try.f70 R [(.int .u16 code_)] w = ref2_Uses.vc R code_ w := by kernel_rfl
set_option maxHeartbeats 4000000 in
theorem ref2_Uses.ok {R : Value → World → Prop} {code_ : Int} {w : World} (h : ref2_Uses.vc R code_ w) : Run Try.prog 70 #[(.int .u16 code_)] w R := by
  have h2 := Eq.mpr (ref2_Uses.eq R code_ w) h
  exact fn_sound Try.mixed Try.func70 (by kernel_rfl) h2

/-! ### riddle/riddleref15.end: function 43 -/
noncomputable def ref15_end.body : Code := bodyOf Try.f43
def ref15_end.live : Nat → List Nat
  | _ => []
def ref15_end.J1 (R : Value → World → Prop) (t2 : Bool) (w : World) : Prop :=
  R (.bool t2) w

def ref15_end.J2 (R : Value → World → Prop) (t2 : Bool) (w : World) : Prop :=
  R (.bool t2) w

def ref15_end.J0 (R : Value → World → Prop) (b : Addr) (t33 : Bool) (w : World) : Prop :=
  ifP t33
    (R (.bool false) w)
    (∃ t35 : Int, w.cell? (b.add 1) = some (.int .i64 t35) ∧ ifP ((t35 : Int) == 1)
    (∃ t40 : Int, w.cell? (b.add 2) = some (.int .u16 t40) ∧ Run Try.prog 57 #[(.int .u16 t40)] w fun v w_2 => ∃ t41 : Bool, v = (.bool t41) ∧ ifP t41 (∃ t44 : Int, w_2.cell? (b.add 6) = some (.int .i64 t44) ∧ ifP ((t44 : Int) == 0) (∃ t49 : Int, w_2.cell? (b.add 7) = some (.int .i64 t49) ∧ ref15_end.J1 R ((t49 : Int) == 0) w_2) (ref15_end.J1 R false w_2)) (ref15_end.J1 R false w_2))
    (ifP ((t35 : Int) == 2)
    (∃ t55_0 : Int, w.cell? (b.add 2) = some (.int .u16 t55_0) ∧ ∃ t55_1 : Int, w.cell? ((b.add 2).add 1) = some (.int .u8 t55_1) ∧ ∃ t55_2 : Int, w.cell? ((b.add 2).add 2) = some (.int .u8 t55_2) ∧ ∃ t55_3 : Int, w.cell? ((b.add 2).add 3) = some (.int .u32 t55_3) ∧ ∃ (v_2 : Value) (w_3 : World), (eqSem .eql 47 (.tmp 55) (.tmp 56) (.agg #[(.int .u16 t55_0), (.int .u8 t55_1), (.int .u8 t55_2), (.int .u32 t55_3)]) (.agg #[(.int .u16 0), (.int .u8 0), (.int .u8 0), (.int .u32 0)])).run Try.prog w = .ok v_2 w_3 ∧ ∃ t57 : Bool, v_2 = (.bool t57) ∧ ifP t57 (∃ t60 : Int, w_3.cell? (b.add 7) = some (.int .i64 t60) ∧ ref15_end.J2 R ((t60 : Int) == 0) w_3) (ref15_end.J2 R false w_3))
    (ifP ((t35 : Int) == 3)
    (∃ t67 : Int, w.cell? (b.add 2) = some (.int .u16 t67) ∧ Run Try.prog 71 #[(.int .u16 t67)] w fun v_3 w_4 => ∃ t68 : Bool, v_3 = (.bool t68) ∧ R (.bool t68) w_4)
    (R (.bool false) w))))

@[reducible] def ref15_end.vc (R : Value → World → Prop) (b_0A : Option Addr) (b_0n : Nat) (b_0c : Nat) (b_1 : Int) (b_2 : Int) (b_3 : Int) (b_4 : Int) (b_5 : Int) (b_6 : Int) (b_7 : Int) (w : World) : Prop :=
  letW (w.alloc (.cells #[(.slice b_0A b_0n b_0c), (.int .i64 b_1), (.int .u16 b_2), (.int .u8 b_3), (.int .u8 b_4), (.int .u32 b_5), (.int .i64 b_6), (.int .i64 b_7)] 49)) fun w_2 => ∃ t9 : Int, w_2.cell? ((newA w).add 2) = some (.int .u16 t9) ∧ Run Try.prog 70 #[(.int .u16 t9)] w_2 fun v w_3 => ∃ t100 : Bool, ∃ t101 : Bool, ∃ t102 : Bool, v = (.tuple #[(.bool t100), (.bool t101), (.bool t102)]) ∧ ∃ t16 : Int, w_3.cell? (((newA w).add 2).add 1) = some (.int .u8 t16) ∧ ifP ((t16 : Int) != 0) (ref15_end.J0 R (newA w) true w_3) (∃ t21 : Int, w_3.cell? (((newA w).add 2).add 2) = some (.int .u8 t21) ∧ ifP ((t21 : Int) != 0) (ref15_end.J0 R (newA w) true w_3) (ifP (!t100) (∃ t30 : Int, w_3.cell? (((newA w).add 2).add 3) = some (.int .u32 t30) ∧ ref15_end.J0 R (newA w) ((t30 : Int) != 0) w_3) (ref15_end.J0 R (newA w) false w_3)))

theorem ref15_end.eq (R : Value → World → Prop) (b_0A : Option Addr) (b_0n : Nat) (b_0c : Nat) (b_1 : Int) (b_2 : Int) (b_3 : Int) (b_4 : Int) (b_5 : Int) (b_6 : Int) (b_7 : Int) (w : World) : fnVC Try.prog none ref15_end.live Try.f43 R [(.agg #[(.slice b_0A b_0n b_0c), (.int .i64 b_1), (.int .u16 b_2), (.int .u8 b_3), (.int .u8 b_4), (.int .u32 b_5), (.int .i64 b_6), (.int .i64 b_7)])] w = ref15_end.vc R b_0A b_0n b_0c b_1 b_2 b_3 b_4 b_5 b_6 b_7 w := by kernel_rfl
set_option maxHeartbeats 4000000 in
theorem ref15_end.ok {R : Value → World → Prop} {b_0A : Option Addr} {b_0n : Nat} {b_0c : Nat} {b_1 : Int} {b_2 : Int} {b_3 : Int} {b_4 : Int} {b_5 : Int} {b_6 : Int} {b_7 : Int} {w : World} (h : ref15_end.vc R b_0A b_0n b_0c b_1 b_2 b_3 b_4 b_5 b_6 b_7 w) : Run Try.prog 43 #[(.agg #[(.slice b_0A b_0n b_0c), (.int .i64 b_1), (.int .u16 b_2), (.int .u8 b_3), (.int .u8 b_4), (.int .u32 b_5), (.int .i64 b_6), (.int .i64 b_7)])] w R := by
  have h2 := Eq.mpr (ref15_end.eq R b_0A b_0n b_0c b_1 b_2 b_3 b_4 b_5 b_6 b_7 w) h
  exact fn_sound Try.mixed Try.func43 (by kernel_rfl) h2

/-! ### riddle/riddleref15.goals: function 44 -/
noncomputable def ref15_goals.body : Code := bodyOf Try.f44
def ref15_goals.live : Nat → List Nat
  | _ => []
def ref15_goals.J1 (R : Value → World → Prop) (t6 : Bool) (w : World) : Prop :=
  R (.bool t6) w

def ref15_goals.J0 (R : Value → World → Prop) (at_ : Int) (many : Int) (b : Addr) (t21 : Bool) (w : World) : Prop :=
  ifP t21
    (R (.bool false) w)
    (∃ t23 : Int, w.cell? (b.add 1) = some (.int .i64 t23) ∧ ifP ((t23 : Int) != 3) (ref15_goals.J1 R true w) (∃ t27 : Int, w.cell? (b.add 7) = some (.int .i64 t27) ∧ ifP (decide ((t27 : Int) > at_)) (∃ t32 : Int, w.cell? (b.add 7) = some (.int .i64 t32) ∧ ref15_goals.J1 R (decide ((t32 : Int) < many)) w) (ref15_goals.J1 R false w)))

@[reducible] def ref15_goals.vc (R : Value → World → Prop) (b_0A : Option Addr) (b_0n : Nat) (b_0c : Nat) (b_1 : Int) (b_2 : Int) (b_3 : Int) (b_4 : Int) (b_5 : Int) (b_6 : Int) (b_7 : Int) (at_ : Int) (many : Int) (w : World) : Prop :=
  letW (w.alloc (.cells #[(.slice b_0A b_0n b_0c), (.int .i64 b_1), (.int .u16 b_2), (.int .u8 b_3), (.int .u8 b_4), (.int .u32 b_5), (.int .i64 b_6), (.int .i64 b_7)] 49)) fun w_2 => ∃ t8 : Int, w_2.cell? ((newA w).add 1) = some (.int .i64 t8) ∧ ifP ((t8 : Int) != 1) (∃ t12 : Int, w_2.cell? ((newA w).add 6) = some (.int .i64 t12) ∧ ifP (decide ((t12 : Int) ≤ at_)) (ref15_goals.J0 R at_ many (newA w) true w_2) (∃ t17 : Int, w_2.cell? ((newA w).add 6) = some (.int .i64 t17) ∧ ref15_goals.J0 R at_ many (newA w) (decide ((t17 : Int) ≥ many)) w_2)) (ref15_goals.J0 R at_ many (newA w) false w_2)

theorem ref15_goals.eq (R : Value → World → Prop) (b_0A : Option Addr) (b_0n : Nat) (b_0c : Nat) (b_1 : Int) (b_2 : Int) (b_3 : Int) (b_4 : Int) (b_5 : Int) (b_6 : Int) (b_7 : Int) (at_ : Int) (many : Int) (w : World) : fnVC Try.prog none ref15_goals.live Try.f44 R [(.agg #[(.slice b_0A b_0n b_0c), (.int .i64 b_1), (.int .u16 b_2), (.int .u8 b_3), (.int .u8 b_4), (.int .u32 b_5), (.int .i64 b_6), (.int .i64 b_7)]), (.int .i64 at_), (.int .i64 many)] w = ref15_goals.vc R b_0A b_0n b_0c b_1 b_2 b_3 b_4 b_5 b_6 b_7 at_ many w := by kernel_rfl
set_option maxHeartbeats 4000000 in
theorem ref15_goals.ok {R : Value → World → Prop} {b_0A : Option Addr} {b_0n : Nat} {b_0c : Nat} {b_1 : Int} {b_2 : Int} {b_3 : Int} {b_4 : Int} {b_5 : Int} {b_6 : Int} {b_7 : Int} {at_ : Int} {many : Int} {w : World} (h : ref15_goals.vc R b_0A b_0n b_0c b_1 b_2 b_3 b_4 b_5 b_6 b_7 at_ many w) : Run Try.prog 44 #[(.agg #[(.slice b_0A b_0n b_0c), (.int .i64 b_1), (.int .u16 b_2), (.int .u8 b_3), (.int .u8 b_4), (.int .u32 b_5), (.int .i64 b_6), (.int .i64 b_7)]), (.int .i64 at_), (.int .i64 many)] w R := by
  have h2 := Eq.mpr (ref15_goals.eq R b_0A b_0n b_0c b_1 b_2 b_3 b_4 b_5 b_6 b_7 at_ many w) h
  exact fn_sound Try.mixed Try.func44 (by kernel_rfl) h2

/-! ### riddle/riddleref15.Check: function 10 -/
noncomputable def ref15_Check.body : Code := bodyOf Try.f10
def ref15_Check.live : Nat → List Nat
  | 0 => [0, 4, 5]
  | _ => []
noncomputable def ref15_Check.c0 : Code := sub ref15_Check.body [1, 1, 1, 1, 0, 1, 0, 0]
def ref15_Check.K0 (R : Value → World → Prop) : Ex → St → World → Prop := (blockK 0 (thenK (fun st w => code Try.prog none ref15_Check.live 0 (sub ref15_Check.body [1, 1, 1, 1, 1]) (retK Try.prog Try.f10 R) st w) (retK Try.prog Try.f10 R)))
def ref15_Check.L0 (R : Value → World → Prop) (gA : Option Addr) (gn : Nat) (gc : Nat) (left : Int) (i : Int) (w : World) : Prop :=
  loopVC (fun K => code Try.prog none ref15_Check.live 0 ref15_Check.c0 K) (ref15_Check.live 0) (ref15_Check.K0 R) [(.slice gA gn gc), undef, undef, undef, (.int .i64 left), (.int .i64 i), undef, undef, undef, undef, undef, undef, undef, undef, undef, undef, undef, undef, undef, undef, undef, undef, undef, undef, undef, undef, undef, undef, undef, undef, undef, undef, undef, undef, undef, undef, undef, undef, undef, undef, undef, undef, undef, undef, undef, undef, undef, undef, undef, undef, undef, undef, undef, undef, undef, undef, undef, undef, undef, undef, undef, undef, undef] w
@[reducible] def ref15_Check.B0 (R : Value → World → Prop) (gA : Option Addr) (gn : Nat) (gc : Nat) (left : Int) (i : Int) (w : World) : Prop :=
  ifP (decide ((i : Int) < ((gn : Nat) : Int)))
    (0 ≤ (i : Int) ∧ (i : Int) < ((gn : Nat) : Int) ∧ ∃ t20p : Addr, gA = some t20p ∧ ∃ (t22A : Option Addr) (t22n t22c : Nat), w.cell? (t20p.add (Int.toNat i * 8)) = some (.slice t22A t22n t22c) ∧ ifP (decide ((((t22n : Nat) : Int) : Int) > left))
    (R (.tuple #[(.int .i64 i), (.int .i64 151)]) w)
    (0 ≤ (i : Int) ∧ (i : Int) < ((gn : Nat) : Int) ∧ ∃ t30p : Addr, gA = some t30p ∧ ∃ (t32A : Option Addr) (t32n t32c : Nat), w.cell? (t30p.add (Int.toNat i * 8)) = some (.slice t32A t32n t32c) ∧ 0 ≤ (i : Int) ∧ (i : Int) < ((gn : Nat) : Int) ∧ ∃ t38p : Addr, gA = some t38p ∧ ∃ (t40A : Option Addr) (t40n t40c : Nat), w.cell? (t38p.add (Int.toNat i * 8)) = some (.slice t40A t40n t40c) ∧ Run Try.prog 42 #[(.slice t40A t40n t40c)] w fun v w_2 => ∃ t41 : Bool, v = (.bool t41) ∧ ifP (!t41)
    (R (.tuple #[(.int .i64 i), (.int .i64 152)]) w_2)
    (0 ≤ (i : Int) ∧ (i : Int) < ((gn : Nat) : Int) ∧ ∃ t47p : Addr, gA = some t47p ∧ ∃ (t48_0A : Option Addr) (t48_0n t48_0c : Nat), w_2.cell? (t47p.add (Int.toNat i * 8)) = some (.slice t48_0A t48_0n t48_0c) ∧ ∃ t48_1 : Int, w_2.cell? ((t47p.add (Int.toNat i * 8)).add 1) = some (.int .i64 t48_1) ∧ ∃ t48_2 : Int, w_2.cell? ((t47p.add (Int.toNat i * 8)).add 2) = some (.int .u16 t48_2) ∧ ∃ t48_3 : Int, w_2.cell? ((t47p.add (Int.toNat i * 8)).add 3) = some (.int .u8 t48_3) ∧ ∃ t48_4 : Int, w_2.cell? ((t47p.add (Int.toNat i * 8)).add 4) = some (.int .u8 t48_4) ∧ ∃ t48_5 : Int, w_2.cell? ((t47p.add (Int.toNat i * 8)).add 5) = some (.int .u32 t48_5) ∧ ∃ t48_6 : Int, w_2.cell? ((t47p.add (Int.toNat i * 8)).add 6) = some (.int .i64 t48_6) ∧ ∃ t48_7 : Int, w_2.cell? ((t47p.add (Int.toNat i * 8)).add 7) = some (.int .i64 t48_7) ∧ Run Try.prog 43 #[(.agg #[(.slice t48_0A t48_0n t48_0c), (.int .i64 t48_1), (.int .u16 t48_2), (.int .u8 t48_3), (.int .u8 t48_4), (.int .u32 t48_5), (.int .i64 t48_6), (.int .i64 t48_7)])] w_2 fun v_2 w_3 => ∃ t49 : Bool, v_2 = (.bool t49) ∧ ifP (!t49)
    (R (.tuple #[(.int .i64 i), (.int .i64 153)]) w_3)
    (0 ≤ (i : Int) ∧ (i : Int) < ((gn : Nat) : Int) ∧ ∃ t55p : Addr, gA = some t55p ∧ ∃ (t56_0A : Option Addr) (t56_0n t56_0c : Nat), w_3.cell? (t55p.add (Int.toNat i * 8)) = some (.slice t56_0A t56_0n t56_0c) ∧ ∃ t56_1 : Int, w_3.cell? ((t55p.add (Int.toNat i * 8)).add 1) = some (.int .i64 t56_1) ∧ ∃ t56_2 : Int, w_3.cell? ((t55p.add (Int.toNat i * 8)).add 2) = some (.int .u16 t56_2) ∧ ∃ t56_3 : Int, w_3.cell? ((t55p.add (Int.toNat i * 8)).add 3) = some (.int .u8 t56_3) ∧ ∃ t56_4 : Int, w_3.cell? ((t55p.add (Int.toNat i * 8)).add 4) = some (.int .u8 t56_4) ∧ ∃ t56_5 : Int, w_3.cell? ((t55p.add (Int.toNat i * 8)).add 5) = some (.int .u32 t56_5) ∧ ∃ t56_6 : Int, w_3.cell? ((t55p.add (Int.toNat i * 8)).add 6) = some (.int .i64 t56_6) ∧ ∃ t56_7 : Int, w_3.cell? ((t55p.add (Int.toNat i * 8)).add 7) = some (.int .i64 t56_7) ∧ Run Try.prog 44 #[(.agg #[(.slice t56_0A t56_0n t56_0c), (.int .i64 t56_1), (.int .u16 t56_2), (.int .u8 t56_3), (.int .u8 t56_4), (.int .u32 t56_5), (.int .i64 t56_6), (.int .i64 t56_7)]), (.int .i64 i), (.int .i64 ((gn : Nat) : Int))] w_3 fun v_3 w_4 => ∃ t60 : Bool, v_3 = (.bool t60) ∧ ifP (!t60)
    (R (.tuple #[(.int .i64 i), (.int .i64 154)]) w_4)
    (ref15_Check.L0 R gA gn gc (IntKind.i64.wrap (left - ((t32n : Nat) : Int))) (IntKind.i64.wrap (i + 1)) w_4)))))
    (R (.tuple #[(.int .i64 0), (.int .i64 0)]) w)

@[reducible] def ref15_Check.vc (R : Value → World → Prop) (gA : Option Addr) (gn : Nat) (gc : Nat) (w : World) : Prop :=
  ifP ((((gn : Nat) : Int) : Int) == 0)
    (R (.tuple #[(.int .i64 0), (.int .i64 150)]) w)
    (ifP (decide ((((gn : Nat) : Int) : Int) > 4096))
    (R (.tuple #[(.int .i64 4096), (.int .i64 151)]) w)
    (ref15_Check.L0 R gA gn gc 4096 0 w))

theorem ref15_Check.B0_eq (R : Value → World → Prop) (gA : Option Addr) (gn : Nat) (gc : Nat) (left : Int) (i : Int) (w : World) (ts : Nat → Value) :
    code Try.prog none ref15_Check.live 0 ref15_Check.c0 (thenK (fun st w => loopVC (fun K => code Try.prog none ref15_Check.live 0 ref15_Check.c0 K) (ref15_Check.live 0) (ref15_Check.K0 R) (clearFrom (ref15_Check.live 0) 0 st) w) (ref15_Check.K0 R)) (mergeFrom (ref15_Check.live 0) ts 0 (clearFrom (ref15_Check.live 0) 0 [(.slice gA gn gc), undef, undef, undef, (.int .i64 left), (.int .i64 i), undef, undef, undef, undef, undef, undef, undef, undef, undef, undef, undef, undef, undef, undef, undef, undef, undef, undef, undef, undef, undef, undef, undef, undef, undef, undef, undef, undef, undef, undef, undef, undef, undef, undef, undef, undef, undef, undef, undef, undef, undef, undef, undef, undef, undef, undef, undef, undef, undef, undef, undef, undef, undef, undef, undef, undef, undef])) w = ref15_Check.B0 R gA gn gc left i w := by kernel_rfl
theorem ref15_Check.L0_step {R : Value → World → Prop} {gA : Option Addr} {gn : Nat} {gc : Nat} {left : Int} {i : Int} {w : World} (h : ref15_Check.B0 R gA gn gc left i w) : ref15_Check.L0 R gA gn gc left i w :=
  loop_step (live := ref15_Check.live) (b := 0) (x := ref15_Check.c0) fun ts => Eq.mpr (ref15_Check.B0_eq R gA gn gc left i w ts) h
theorem ref15_Check.eq (R : Value → World → Prop) (gA : Option Addr) (gn : Nat) (gc : Nat) (w : World) : fnVC Try.prog none ref15_Check.live Try.f10 R [(.slice gA gn gc)] w = ref15_Check.vc R gA gn gc w := by kernel_rfl
set_option maxHeartbeats 4000000 in
theorem ref15_Check.ok {R : Value → World → Prop} {gA : Option Addr} {gn : Nat} {gc : Nat} {w : World} (h : ref15_Check.vc R gA gn gc w) : Run Try.prog 10 #[(.slice gA gn gc)] w R := by
  have h2 := Eq.mpr (ref15_Check.eq R gA gn gc w) h
  exact fn_sound Try.mixed Try.func10 (by kernel_rfl) h2

/-! ### riddle/riddlelaw0.CopyInsns: function 23 -/
noncomputable def law0_CopyInsns.body : Code := bodyOf Try.f23
def law0_CopyInsns.live : Nat → List Nat
  | _ => []
@[reducible] def law0_CopyInsns.vc (R : Value → World → Prop) (aA : Option Addr) (an : Nat) (ac : Nat) (w : World) : Prop :=
  letW (w.alloc (.cells #[] 47)) fun w_2 => ∃ (v : Value) (w_3 : World), (Builtin.append_ #[39, 39] 39 #[(.slice (some (newA w)) 0 0), (.slice aA an ac)]).run Try.prog w_2 = .ok v w_3 ∧ ∃ (t5A : Option Addr) (t5n t5c : Nat), v = (.slice t5A t5n t5c) ∧ R (.slice t5A t5n t5c) w_3

theorem law0_CopyInsns.eq (R : Value → World → Prop) (aA : Option Addr) (an : Nat) (ac : Nat) (w : World) : fnVC Try.prog none law0_CopyInsns.live Try.f23 R [(.slice aA an ac)] w = law0_CopyInsns.vc R aA an ac w := by kernel_rfl
set_option maxHeartbeats 4000000 in
theorem law0_CopyInsns.ok {R : Value → World → Prop} {aA : Option Addr} {an : Nat} {ac : Nat} {w : World} (h : law0_CopyInsns.vc R aA an ac w) : Run Try.prog 23 #[(.slice aA an ac)] w R := by
  have h2 := Eq.mpr (law0_CopyInsns.eq R aA an ac w) h
  exact fn_sound Try.mixed Try.func23 (by kernel_rfl) h2

/-! ### riddle/riddlelaw0.LendInsns: function 20 -/
noncomputable def law0_LendInsns.body : Code := bodyOf Try.f20
def law0_LendInsns.live : Nat → List Nat
  | _ => []
@[reducible] def law0_LendInsns.vc (R : Value → World → Prop) (aA : Option Addr) (an : Nat) (ac : Nat) (w : World) : Prop :=
  Run Try.prog 23 #[(.slice aA an ac)] w fun v w_2 => ∃ (t5A : Option Addr) (t5n t5c : Nat), v = (.slice t5A t5n t5c) ∧ letW (w_2.alloc (.cells #[(.int .u16 7), (.int .u8 0), (.int .u8 0), (.int .u32 77), (.int .u16 7), (.int .u8 0), (.int .u8 0), (.int .u32 77), (.int .u16 7), (.int .u8 0), (.int .u8 0), (.int .u32 77)] 47)) fun w_3 => ∃ (v_2 : Value) (w_4 : World), (Builtin.append_ #[39, 39] 39 #[(.slice t5A t5n t5c), (.slice (some (newA w_2)) 3 3)]).run Try.prog w_3 = .ok v_2 w_4 ∧ ∃ (t10A : Option Addr) (t10n t10c : Nat), v_2 = (.slice t10A t10n t10c) ∧ (0 : Int) ≤ 0 ∧ (0 : Int) ≤ ((an : Nat) : Int) ∧ (((an : Nat) : Int) : Int) ≤ ((t10c : Nat) : Int) ∧ R (.slice (subA t10A t10c 0 4) ((Int.toNat ((an : Nat) : Int)) - 0) (t10c - 0)) w_4

theorem law0_LendInsns.eq (R : Value → World → Prop) (aA : Option Addr) (an : Nat) (ac : Nat) (w : World) : fnVC Try.prog none law0_LendInsns.live Try.f20 R [(.slice aA an ac)] w = law0_LendInsns.vc R aA an ac w := by kernel_rfl
set_option maxHeartbeats 4000000 in
theorem law0_LendInsns.ok {R : Value → World → Prop} {aA : Option Addr} {an : Nat} {ac : Nat} {w : World} (h : law0_LendInsns.vc R aA an ac w) : Run Try.prog 20 #[(.slice aA an ac)] w R := by
  have h2 := Eq.mpr (law0_LendInsns.eq R aA an ac w) h
  exact fn_sound Try.mixed Try.func20 (by kernel_rfl) h2

/-! ### riddle/riddlelaw0.LendBlocks: function 11 -/
noncomputable def law0_LendBlocks.body : Code := bodyOf Try.f11
def law0_LendBlocks.live : Nat → List Nat
  | 0 => [0, 3, 4]
  | _ => []
noncomputable def law0_LendBlocks.c0 : Code := sub law0_LendBlocks.body [1, 1, 0, 1, 0, 0]
def law0_LendBlocks.K0 (R : Value → World → Prop) : Ex → St → World → Prop := (blockK 0 (thenK (fun st w => code Try.prog none law0_LendBlocks.live 0 (sub law0_LendBlocks.body [1, 1, 1]) (retK Try.prog Try.f11 R) st w) (retK Try.prog Try.f11 R)))
def law0_LendBlocks.L0 (R : Value → World → Prop) (aA : Option Addr) (an : Nat) (ac : Nat) (outA : Option Addr) (outn : Nat) (outc : Nat) (i : Int) (w : World) : Prop :=
  loopVC (fun K => code Try.prog none law0_LendBlocks.live 0 law0_LendBlocks.c0 K) (law0_LendBlocks.live 0) (law0_LendBlocks.K0 R) [(.slice aA an ac), undef, undef, (.slice outA outn outc), (.int .i64 i), undef, undef, undef, undef, undef, undef, undef, undef, undef, undef, undef, undef, undef, undef, undef, undef, undef, undef, undef, undef, undef, undef, undef, undef, undef, undef, undef, undef, undef, undef, undef] w
@[reducible] def law0_LendBlocks.B0 (R : Value → World → Prop) (aA : Option Addr) (an : Nat) (ac : Nat) (outA : Option Addr) (outn : Nat) (outc : Nat) (i : Int) (w : World) : Prop :=
  ifP (decide ((i : Int) < ((an : Nat) : Int)))
    (0 ≤ (i : Int) ∧ (i : Int) < ((an : Nat) : Int) ∧ ∃ t14p : Addr, aA = some t14p ∧ ∃ (t15_0A : Option Addr) (t15_0n t15_0c : Nat), w.cell? (t14p.add (Int.toNat i * 8)) = some (.slice t15_0A t15_0n t15_0c) ∧ ∃ t15_1 : Int, w.cell? ((t14p.add (Int.toNat i * 8)).add 1) = some (.int .i64 t15_1) ∧ ∃ t15_2 : Int, w.cell? ((t14p.add (Int.toNat i * 8)).add 2) = some (.int .u16 t15_2) ∧ ∃ t15_3 : Int, w.cell? ((t14p.add (Int.toNat i * 8)).add 3) = some (.int .u8 t15_3) ∧ ∃ t15_4 : Int, w.cell? ((t14p.add (Int.toNat i * 8)).add 4) = some (.int .u8 t15_4) ∧ ∃ t15_5 : Int, w.cell? ((t14p.add (Int.toNat i * 8)).add 5) = some (.int .u32 t15_5) ∧ ∃ t15_6 : Int, w.cell? ((t14p.add (Int.toNat i * 8)).add 6) = some (.int .i64 t15_6) ∧ ∃ t15_7 : Int, w.cell? ((t14p.add (Int.toNat i * 8)).add 7) = some (.int .i64 t15_7) ∧ letW (w.alloc (.cells #[(.slice none 0 0), (.int .i64 0), (.int .u16 0), (.int .u8 0), (.int .u8 0), (.int .u32 0), (.int .i64 0), (.int .i64 0)] 49)) fun w_2 => storeRow (newA w) 0 [(.slice t15_0A t15_0n t15_0c), (.int .i64 t15_1), (.int .u16 t15_2), (.int .u8 t15_3), (.int .u8 t15_4), (.int .u32 t15_5), (.int .i64 t15_6), (.int .i64 t15_7)] w_2 fun w_3 => 0 ≤ (i : Int) ∧ (i : Int) < ((an : Nat) : Int) ∧ ∃ t18p : Addr, aA = some t18p ∧ ∃ (t20A : Option Addr) (t20n t20c : Nat), w_3.cell? (t18p.add (Int.toNat i * 8)) = some (.slice t20A t20n t20c) ∧ Run Try.prog 20 #[(.slice t20A t20n t20c)] w_3 fun v w_4 => ∃ (t21A : Option Addr) (t21n t21c : Nat), v = (.slice t21A t21n t21c) ∧ (∃ u : Value, w_4.cell? (newA w) = some u) ∧ w_4.frozen? (newA w) = false ∧ letW (w_4.setCell (newA w) (.slice t21A t21n t21c)) fun w_5 => ∃ (t24_0A : Option Addr) (t24_0n t24_0c : Nat), w_5.cell? (newA w) = some (.slice t24_0A t24_0n t24_0c) ∧ ∃ t24_1 : Int, w_5.cell? ((newA w).add 1) = some (.int .i64 t24_1) ∧ ∃ t24_2 : Int, w_5.cell? ((newA w).add 2) = some (.int .u16 t24_2) ∧ ∃ t24_3 : Int, w_5.cell? ((newA w).add 3) = some (.int .u8 t24_3) ∧ ∃ t24_4 : Int, w_5.cell? ((newA w).add 4) = some (.int .u8 t24_4) ∧ ∃ t24_5 : Int, w_5.cell? ((newA w).add 5) = some (.int .u32 t24_5) ∧ ∃ t24_6 : Int, w_5.cell? ((newA w).add 6) = some (.int .i64 t24_6) ∧ ∃ t24_7 : Int, w_5.cell? ((newA w).add 7) = some (.int .i64 t24_7) ∧ letW (w_5.alloc (.cells #[(.slice t24_0A t24_0n t24_0c), (.int .i64 t24_1), (.int .u16 t24_2), (.int .u8 t24_3), (.int .u8 t24_4), (.int .u32 t24_5), (.int .i64 t24_6), (.int .i64 t24_7)] 49)) fun w_6 => ∃ (v_2 : Value) (w_7 : World), (Builtin.append_ #[22, 22] 22 #[(.slice outA outn outc), (.slice (some (newA w_5)) 1 1)]).run Try.prog w_6 = .ok v_2 w_7 ∧ ∃ (t26A : Option Addr) (t26n t26c : Nat), v_2 = (.slice t26A t26n t26c) ∧ law0_LendBlocks.L0 R aA an ac t26A t26n t26c (IntKind.i64.wrap (i + 1)) w_7)
    (letW (w.alloc (.cells #[(.slice none 0 0), (.int .i64 77), (.int .u16 0), (.int .u8 0), (.int .u8 0), (.int .u32 0), (.int .i64 0), (.int .i64 0), (.slice none 0 0), (.int .i64 77), (.int .u16 0), (.int .u8 0), (.int .u8 0), (.int .u32 0), (.int .i64 0), (.int .i64 0)] 49)) fun w_8 => ∃ (v_3 : Value) (w_9 : World), (Builtin.append_ #[22, 22] 22 #[(.slice outA outn outc), (.slice (some (newA w)) 2 2)]).run Try.prog w_8 = .ok v_3 w_9 ∧ ∃ (t31A : Option Addr) (t31n t31c : Nat), v_3 = (.slice t31A t31n t31c) ∧ (0 : Int) ≤ 0 ∧ (0 : Int) ≤ ((an : Nat) : Int) ∧ (((an : Nat) : Int) : Int) ≤ ((t31c : Nat) : Int) ∧ R (.slice (subA t31A t31c 0 8) ((Int.toNat ((an : Nat) : Int)) - 0) (t31c - 0)) w_9)

@[reducible] def law0_LendBlocks.vc (R : Value → World → Prop) (aA : Option Addr) (an : Nat) (ac : Nat) (w : World) : Prop :=
  law0_LendBlocks.L0 R aA an ac none 0 0 0 w

theorem law0_LendBlocks.B0_eq (R : Value → World → Prop) (aA : Option Addr) (an : Nat) (ac : Nat) (outA : Option Addr) (outn : Nat) (outc : Nat) (i : Int) (w : World) (ts : Nat → Value) :
    code Try.prog none law0_LendBlocks.live 0 law0_LendBlocks.c0 (thenK (fun st w => loopVC (fun K => code Try.prog none law0_LendBlocks.live 0 law0_LendBlocks.c0 K) (law0_LendBlocks.live 0) (law0_LendBlocks.K0 R) (clearFrom (law0_LendBlocks.live 0) 0 st) w) (law0_LendBlocks.K0 R)) (mergeFrom (law0_LendBlocks.live 0) ts 0 (clearFrom (law0_LendBlocks.live 0) 0 [(.slice aA an ac), undef, undef, (.slice outA outn outc), (.int .i64 i), undef, undef, undef, undef, undef, undef, undef, undef, undef, undef, undef, undef, undef, undef, undef, undef, undef, undef, undef, undef, undef, undef, undef, undef, undef, undef, undef, undef, undef, undef, undef])) w = law0_LendBlocks.B0 R aA an ac outA outn outc i w := by kernel_rfl
theorem law0_LendBlocks.L0_step {R : Value → World → Prop} {aA : Option Addr} {an : Nat} {ac : Nat} {outA : Option Addr} {outn : Nat} {outc : Nat} {i : Int} {w : World} (h : law0_LendBlocks.B0 R aA an ac outA outn outc i w) : law0_LendBlocks.L0 R aA an ac outA outn outc i w :=
  loop_step (live := law0_LendBlocks.live) (b := 0) (x := law0_LendBlocks.c0) fun ts => Eq.mpr (law0_LendBlocks.B0_eq R aA an ac outA outn outc i w ts) h
theorem law0_LendBlocks.eq (R : Value → World → Prop) (aA : Option Addr) (an : Nat) (ac : Nat) (w : World) : fnVC Try.prog none law0_LendBlocks.live Try.f11 R [(.slice aA an ac)] w = law0_LendBlocks.vc R aA an ac w := by kernel_rfl
set_option maxHeartbeats 4000000 in
theorem law0_LendBlocks.ok {R : Value → World → Prop} {aA : Option Addr} {an : Nat} {ac : Nat} {w : World} (h : law0_LendBlocks.vc R aA an ac w) : Run Try.prog 11 #[(.slice aA an ac)] w R := by
  have h2 := Eq.mpr (law0_LendBlocks.eq R aA an ac w) h
  exact fn_sound Try.mixed Try.func11 (by kernel_rfl) h2

/-! ### riddle/graph.goals: function 62 -/
noncomputable def graph_goals.body : Code := bodyOf Try.f62
def graph_goals.live : Nat → List Nat
  | _ => []
@[reducible] def graph_goals.vc (R : Value → World → Prop) (b_0A : Option Addr) (b_0n : Nat) (b_0c : Nat) (b_1 : Int) (b_2 : Int) (b_3 : Int) (b_4 : Int) (b_5 : Int) (b_6 : Int) (b_7 : Int) (w : World) : Prop :=
  letW (w.alloc (.cells #[(.slice b_0A b_0n b_0c), (.int .i64 b_1), (.int .u16 b_2), (.int .u8 b_3), (.int .u8 b_4), (.int .u32 b_5), (.int .i64 b_6), (.int .i64 b_7)] 49)) fun w_2 => ∃ t4 : Int, w_2.cell? ((newA w).add 1) = some (.int .i64 t4) ∧ ifP ((t4 : Int) == 2)
    (∃ t8 : Int, w_2.cell? ((newA w).add 6) = some (.int .i64 t8) ∧ letW (w_2.alloc (.cells #[(.int .i64 t8)] 3)) fun w_3 => R (.slice (some (newA w_2)) 1 1) w_3)
    (ifP ((t4 : Int) == 3)
    (∃ t13 : Int, w_2.cell? ((newA w).add 6) = some (.int .i64 t13) ∧ ∃ t15 : Int, w_2.cell? ((newA w).add 7) = some (.int .i64 t15) ∧ letW (w_2.alloc (.cells #[(.int .i64 t13), (.int .i64 t15)] 3)) fun w_4 => R (.slice (some (newA w_2)) 2 2) w_4)
    (R (.slice none 0 0) w_2))

theorem graph_goals.eq (R : Value → World → Prop) (b_0A : Option Addr) (b_0n : Nat) (b_0c : Nat) (b_1 : Int) (b_2 : Int) (b_3 : Int) (b_4 : Int) (b_5 : Int) (b_6 : Int) (b_7 : Int) (w : World) : fnVC Try.prog none graph_goals.live Try.f62 R [(.agg #[(.slice b_0A b_0n b_0c), (.int .i64 b_1), (.int .u16 b_2), (.int .u8 b_3), (.int .u8 b_4), (.int .u32 b_5), (.int .i64 b_6), (.int .i64 b_7)])] w = graph_goals.vc R b_0A b_0n b_0c b_1 b_2 b_3 b_4 b_5 b_6 b_7 w := by kernel_rfl
set_option maxHeartbeats 4000000 in
theorem graph_goals.ok {R : Value → World → Prop} {b_0A : Option Addr} {b_0n : Nat} {b_0c : Nat} {b_1 : Int} {b_2 : Int} {b_3 : Int} {b_4 : Int} {b_5 : Int} {b_6 : Int} {b_7 : Int} {w : World} (h : graph_goals.vc R b_0A b_0n b_0c b_1 b_2 b_3 b_4 b_5 b_6 b_7 w) : Run Try.prog 62 #[(.agg #[(.slice b_0A b_0n b_0c), (.int .i64 b_1), (.int .u16 b_2), (.int .u8 b_3), (.int .u8 b_4), (.int .u32 b_5), (.int .i64 b_6), (.int .i64 b_7)])] w R := by
  have h2 := Eq.mpr (graph_goals.eq R b_0A b_0n b_0c b_1 b_2 b_3 b_4 b_5 b_6 b_7 w) h
  exact fn_sound Try.mixed Try.func62 (by kernel_rfl) h2

/-! ### riddle/insn.test: function 122 -/
noncomputable def insn_test.body : Code := bodyOf Try.f122
def insn_test.live : Nat → List Nat
  | _ => []
def insn_test.J1 (R : Value → World → Prop) (w : World) : Prop :=
  R (.bool true) w

def insn_test.J2 (R : Value → World → Prop) (t9 : Bool) (w : World) : Prop :=
  ifP t9
    (insn_test.J1 R w)
    (R (.bool false) w)

def insn_test.J0 (R : Value → World → Prop) (t3 : Int) (t4 : Bool) (w : World) : Prop :=
  ifP t4
    (insn_test.J1 R w)
    (ifP ((t3 : Int) == 29)
    (insn_test.J2 R ((t3 : Int) == 29) w)
    (ifP ((t3 : Int) == 45)
    (insn_test.J2 R ((t3 : Int) == 45) w)
    (ifP ((t3 : Int) == 61)
    (insn_test.J2 R ((t3 : Int) == 61) w)
    (insn_test.J2 R ((t3 : Int) == 77) w))))

@[reducible] def insn_test.vc (R : Value → World → Prop) (code_ : Int) (w : World) : Prop :=
  ifP ((code_ : Int) == 21)
    (insn_test.J0 R code_ ((code_ : Int) == 21) w)
    (ifP ((code_ : Int) == 37)
    (insn_test.J0 R code_ ((code_ : Int) == 37) w)
    (ifP ((code_ : Int) == 53)
    (insn_test.J0 R code_ ((code_ : Int) == 53) w)
    (insn_test.J0 R code_ ((code_ : Int) == 69) w)))

theorem insn_test.eq (R : Value → World → Prop) (code_ : Int) (w : World) : fnVC Try.prog none insn_test.live Try.f122 R [(.int .u16 code_)] w = insn_test.vc R code_ w := by kernel_rfl
set_option maxHeartbeats 4000000 in
theorem insn_test.ok {R : Value → World → Prop} {code_ : Int} {w : World} (h : insn_test.vc R code_ w) : Run Try.prog 122 #[(.int .u16 code_)] w R := by
  have h2 := Eq.mpr (insn_test.eq R code_ w) h
  exact fn_sound Try.mixed Try.func122 (by kernel_rfl) h2

/-! ### riddle/insn.alu: function 124 -/
noncomputable def insn_alu.body : Code := bodyOf Try.f124
def insn_alu.live : Nat → List Nat
  | _ => []
def insn_alu.J1 (R : Value → World → Prop) (w : World) : Prop :=
  R (.bool true) w

def insn_alu.J2 (R : Value → World → Prop) (t3 : Int) (t15 : Bool) (w : World) : Prop :=
  ifP t15
    (insn_alu.J1 R w)
    (ifP ((t3 : Int) == 132)
    (insn_alu.J1 R w)
    (R (.bool false) w))

def insn_alu.J0 (R : Value → World → Prop) (t3 : Int) (t4 : Bool) (w : World) : Prop :=
  ifP t4
    (insn_alu.J1 R w)
    (ifP ((t3 : Int) == 12)
    (insn_alu.J2 R t3 ((t3 : Int) == 12) w)
    (ifP ((t3 : Int) == 28)
    (insn_alu.J2 R t3 ((t3 : Int) == 28) w)
    (ifP ((t3 : Int) == 44)
    (insn_alu.J2 R t3 ((t3 : Int) == 44) w)
    (ifP ((t3 : Int) == 60)
    (insn_alu.J2 R t3 ((t3 : Int) == 60) w)
    (ifP ((t3 : Int) == 76)
    (insn_alu.J2 R t3 ((t3 : Int) == 76) w)
    (ifP ((t3 : Int) == 92)
    (insn_alu.J2 R t3 ((t3 : Int) == 92) w)
    (ifP ((t3 : Int) == 108)
    (insn_alu.J2 R t3 ((t3 : Int) == 108) w)
    (ifP ((t3 : Int) == 124)
    (insn_alu.J2 R t3 ((t3 : Int) == 124) w)
    (ifP ((t3 : Int) == 156)
    (insn_alu.J2 R t3 ((t3 : Int) == 156) w)
    (insn_alu.J2 R t3 ((t3 : Int) == 172) w))))))))))

@[reducible] def insn_alu.vc (R : Value → World → Prop) (code_ : Int) (w : World) : Prop :=
  ifP ((code_ : Int) == 4)
    (insn_alu.J0 R code_ ((code_ : Int) == 4) w)
    (ifP ((code_ : Int) == 20)
    (insn_alu.J0 R code_ ((code_ : Int) == 20) w)
    (ifP ((code_ : Int) == 36)
    (insn_alu.J0 R code_ ((code_ : Int) == 36) w)
    (ifP ((code_ : Int) == 52)
    (insn_alu.J0 R code_ ((code_ : Int) == 52) w)
    (ifP ((code_ : Int) == 68)
    (insn_alu.J0 R code_ ((code_ : Int) == 68) w)
    (ifP ((code_ : Int) == 84)
    (insn_alu.J0 R code_ ((code_ : Int) == 84) w)
    (ifP ((code_ : Int) == 100)
    (insn_alu.J0 R code_ ((code_ : Int) == 100) w)
    (ifP ((code_ : Int) == 116)
    (insn_alu.J0 R code_ ((code_ : Int) == 116) w)
    (ifP ((code_ : Int) == 148)
    (insn_alu.J0 R code_ ((code_ : Int) == 148) w)
    (insn_alu.J0 R code_ ((code_ : Int) == 164) w)))))))))

theorem insn_alu.eq (R : Value → World → Prop) (code_ : Int) (w : World) : fnVC Try.prog none insn_alu.live Try.f124 R [(.int .u16 code_)] w = insn_alu.vc R code_ w := by kernel_rfl
set_option maxHeartbeats 4000000 in
theorem insn_alu.ok {R : Value → World → Prop} {code_ : Int} {w : World} (h : insn_alu.vc R code_ w) : Run Try.prog 124 #[(.int .u16 code_)] w R := by
  have h2 := Eq.mpr (insn_alu.eq R code_ w) h
  exact fn_sound Try.mixed Try.func124 (by kernel_rfl) h2

/-! ### riddle/insn.Known: function 103 -/
noncomputable def insn_Known.body : Code := bodyOf Try.f103
def insn_Known.live : Nat → List Nat
  | _ => []
def insn_Known.J1 (R : Value → World → Prop) (w : World) : Prop :=
  R (.bool true) w

def insn_Known.J4 (R : Value → World → Prop) (t2 : Bool) (w : World) : Prop :=
  R (.bool t2) w

def insn_Known.J3 (R : Value → World → Prop) (code_ : Int) (t19 : Bool) (w : World) : Prop :=
  ifP t19
    (insn_Known.J1 R w)
    (Run Try.prog 124 #[(.int .u16 code_)] w fun v w_2 => ∃ t28 : Bool, v = (.bool t28) ∧ ifP t28 (insn_Known.J4 R true w_2) (Run Try.prog 122 #[(.int .u16 code_)] w_2 fun v_2 w_3 => ∃ t31 : Bool, v_2 = (.bool t31) ∧ insn_Known.J4 R t31 w_3))

def insn_Known.J2 (R : Value → World → Prop) (code_ : Int) (t3 : Int) (t14 : Bool) (w : World) : Prop :=
  ifP t14
    (insn_Known.J1 R w)
    (ifP ((t3 : Int) == 2)
    (insn_Known.J3 R code_ ((t3 : Int) == 2) w)
    (ifP ((t3 : Int) == 3)
    (insn_Known.J3 R code_ ((t3 : Int) == 3) w)
    (ifP ((t3 : Int) == 6)
    (insn_Known.J3 R code_ ((t3 : Int) == 6) w)
    (ifP ((t3 : Int) == 22)
    (insn_Known.J3 R code_ ((t3 : Int) == 22) w)
    (ifP ((t3 : Int) == 7)
    (insn_Known.J3 R code_ ((t3 : Int) == 7) w)
    (ifP ((t3 : Int) == 135)
    (insn_Known.J3 R code_ ((t3 : Int) == 135) w)
    (insn_Known.J3 R code_ ((t3 : Int) == 5) w)))))))

def insn_Known.J0 (R : Value → World → Prop) (code_ : Int) (t3 : Int) (t4 : Bool) (w : World) : Prop :=
  ifP t4
    (insn_Known.J1 R w)
    (ifP ((t3 : Int) == 1)
    (insn_Known.J2 R code_ t3 ((t3 : Int) == 1) w)
    (ifP ((t3 : Int) == 97)
    (insn_Known.J2 R code_ t3 ((t3 : Int) == 97) w)
    (ifP ((t3 : Int) == 129)
    (insn_Known.J2 R code_ t3 ((t3 : Int) == 129) w)
    (insn_Known.J2 R code_ t3 ((t3 : Int) == 177) w))))

@[reducible] def insn_Known.vc (R : Value → World → Prop) (code_ : Int) (w : World) : Prop :=
  ifP ((code_ : Int) == 0)
    (insn_Known.J0 R code_ code_ ((code_ : Int) == 0) w)
    (ifP ((code_ : Int) == 32)
    (insn_Known.J0 R code_ code_ ((code_ : Int) == 32) w)
    (ifP ((code_ : Int) == 40)
    (insn_Known.J0 R code_ code_ ((code_ : Int) == 40) w)
    (ifP ((code_ : Int) == 48)
    (insn_Known.J0 R code_ code_ ((code_ : Int) == 48) w)
    (ifP ((code_ : Int) == 64)
    (insn_Known.J0 R code_ code_ ((code_ : Int) == 64) w)
    (ifP ((code_ : Int) == 72)
    (insn_Known.J0 R code_ code_ ((code_ : Int) == 72) w)
    (ifP ((code_ : Int) == 80)
    (insn_Known.J0 R code_ code_ ((code_ : Int) == 80) w)
    (ifP ((code_ : Int) == 96)
    (insn_Known.J0 R code_ code_ ((code_ : Int) == 96) w)
    (insn_Known.J0 R code_ code_ ((code_ : Int) == 128) w))))))))

theorem insn_Known.eq (R : Value → World → Prop) (code_ : Int) (w : World) : fnVC Try.prog none insn_Known.live Try.f103 R [(.int .u16 code_)] w = insn_Known.vc R code_ w := by kernel_rfl
set_option maxHeartbeats 4000000 in
theorem insn_Known.ok {R : Value → World → Prop} {code_ : Int} {w : World} (h : insn_Known.vc R code_ w) : Run Try.prog 103 #[(.int .u16 code_)] w R := by
  have h2 := Eq.mpr (insn_Known.eq R code_ w) h
  exact fn_sound Try.mixed Try.func103 (by kernel_rfl) h2

/-! ### riddle/insn.Class: function 64 -/
noncomputable def insn_Class.body : Code := bodyOf Try.f64
def insn_Class.live : Nat → List Nat
  | _ => []
@[reducible] def insn_Class.vc (R : Value → World → Prop) (code_ : Int) (w : World) : Prop :=
  Run Try.prog 103 #[(.int .u16 code_)] w fun v w_2 => ∃ t4 : Bool, v = (.bool t4) ∧ ifP (!t4)
    (R (.int .i64 (-1)) w_2)
    (R (.int .i64 (IntKind.i64.wrap (andI .u16 code_ 7))) w_2)

theorem insn_Class.eq (R : Value → World → Prop) (code_ : Int) (w : World) : fnVC Try.prog none insn_Class.live Try.f64 R [(.int .u16 code_)] w = insn_Class.vc R code_ w := by kernel_rfl
set_option maxHeartbeats 4000000 in
theorem insn_Class.ok {R : Value → World → Prop} {code_ : Int} {w : World} (h : insn_Class.vc R code_ w) : Run Try.prog 64 #[(.int .u16 code_)] w R := by
  have h2 := Eq.mpr (insn_Class.eq R code_ w) h
  exact fn_sound Try.mixed Try.func64 (by kernel_rfl) h2

/-! ### riddle/graph.straight: function 72 -/
noncomputable def graph_straight.body : Code := bodyOf Try.f72
def graph_straight.live : Nat → List Nat
  | _ => []
def graph_straight.J3 (R : Value → World → Prop) (i : Addr) (t26 : Bool) (w : World) : Prop :=
  ifP t26
    (∃ t30 : Int, w.cell? (i.add 3) = some (.int .u32 t30) ∧ R (.bool (decide ((t30 : Int) ≤ 31))) w)
    (R (.bool true) w)

def graph_straight.J2 (R : Value → World → Prop) (i : Addr) (t11 : Int) (t20 : Bool) (w : World) : Prop :=
  ifP t20
    (∃ t24 : Int, w.cell? (i.add 3) = some (.int .u32 t24) ∧ R (.bool ((t24 : Int) != 0)) w)
    (ifP ((t11 : Int) == 100)
    (graph_straight.J3 R i ((t11 : Int) == 100) w)
    (graph_straight.J3 R i ((t11 : Int) == 116) w))

def graph_straight.J1 (R : Value → World → Prop) (i : Addr) (t11 : Int) (t12 : Bool) (w : World) : Prop :=
  ifP t12
    (∃ t18 : Int, w.cell? (i.add 3) = some (.int .u32 t18) ∧ R (.bool (decide ((t18 : Int) < 16))) w)
    (ifP ((t11 : Int) == 52)
    (graph_straight.J2 R i t11 ((t11 : Int) == 52) w)
    (graph_straight.J2 R i t11 ((t11 : Int) == 148) w))

def graph_straight.J0 (R : Value → World → Prop) (i : Addr) (t6 : Bool) (w : World) : Prop :=
  ifP t6
    (R (.bool false) w)
    (∃ t11 : Int, w.cell? i = some (.int .u16 t11) ∧ ifP ((t11 : Int) == 2)
    (graph_straight.J1 R i t11 ((t11 : Int) == 2) w)
    (ifP ((t11 : Int) == 3)
    (graph_straight.J1 R i t11 ((t11 : Int) == 3) w)
    (ifP ((t11 : Int) == 96)
    (graph_straight.J1 R i t11 ((t11 : Int) == 96) w)
    (graph_straight.J1 R i t11 ((t11 : Int) == 97) w))))

@[reducible] def graph_straight.vc (R : Value → World → Prop) (i_0 : Int) (i_1 : Int) (i_2 : Int) (i_3 : Int) (w : World) : Prop :=
  letW (w.alloc (.cells #[(.int .u16 i_0), (.int .u8 i_1), (.int .u8 i_2), (.int .u32 i_3)] 47)) fun w_2 => ∃ t4 : Int, w_2.cell? (newA w) = some (.int .u16 t4) ∧ Run Try.prog 64 #[(.int .u16 t4)] w_2 fun v w_3 => ∃ t5 : Int, v = (.int .i64 t5) ∧ ifP ((t5 : Int) == (-1))
    (graph_straight.J0 R (newA w) ((t5 : Int) == (-1)) w_3)
    (ifP ((t5 : Int) == 5)
    (graph_straight.J0 R (newA w) ((t5 : Int) == 5) w_3)
    (graph_straight.J0 R (newA w) ((t5 : Int) == 6) w_3))

theorem graph_straight.eq (R : Value → World → Prop) (i_0 : Int) (i_1 : Int) (i_2 : Int) (i_3 : Int) (w : World) : fnVC Try.prog none graph_straight.live Try.f72 R [(.agg #[(.int .u16 i_0), (.int .u8 i_1), (.int .u8 i_2), (.int .u32 i_3)])] w = graph_straight.vc R i_0 i_1 i_2 i_3 w := by kernel_rfl
set_option maxHeartbeats 4000000 in
theorem graph_straight.ok {R : Value → World → Prop} {i_0 : Int} {i_1 : Int} {i_2 : Int} {i_3 : Int} {w : World} (h : graph_straight.vc R i_0 i_1 i_2 i_3 w) : Run Try.prog 72 #[(.agg #[(.int .u16 i_0), (.int .u8 i_1), (.int .u8 i_2), (.int .u32 i_3)])] w R := by
  have h2 := Eq.mpr (graph_straight.eq R i_0 i_1 i_2 i_3 w) h
  exact fn_sound Try.mixed Try.func72 (by kernel_rfl) h2

/-! ### riddle/insn.looksAtK: function 121 -/
noncomputable def insn_looksAtK.body : Code := bodyOf Try.f121
def insn_looksAtK.live : Nat → List Nat
  | _ => []
def insn_looksAtK.J1 (R : Value → World → Prop) (t2 : Bool) (w : World) : Prop :=
  R (.bool t2) w

def insn_looksAtK.J0 (R : Value → World → Prop) (code_ : Int) (t4 : Bool) (w : World) : Prop :=
  ifP t4
    (R (.bool false) w)
    (Run Try.prog 124 #[(.int .u16 code_)] w fun v w_2 => ∃ t12 : Bool, v = (.bool t12) ∧ ifP (!t12) (Run Try.prog 122 #[(.int .u16 code_)] w_2 fun v_2 w_3 => ∃ t16 : Bool, v_2 = (.bool t16) ∧ ifP (!t16) (insn_looksAtK.J1 R true w_3) (insn_looksAtK.J1 R ((andI .u16 code_ 8 : Int) == 0) w_3)) (insn_looksAtK.J1 R ((andI .u16 code_ 8 : Int) == 0) w_2))

@[reducible] def insn_looksAtK.vc (R : Value → World → Prop) (code_ : Int) (w : World) : Prop :=
  ifP ((code_ : Int) == 128)
    (insn_looksAtK.J0 R code_ ((code_ : Int) == 128) w)
    (ifP ((code_ : Int) == 129)
    (insn_looksAtK.J0 R code_ ((code_ : Int) == 129) w)
    (ifP ((code_ : Int) == 132)
    (insn_looksAtK.J0 R code_ ((code_ : Int) == 132) w)
    (ifP ((code_ : Int) == 22)
    (insn_looksAtK.J0 R code_ ((code_ : Int) == 22) w)
    (ifP ((code_ : Int) == 7)
    (insn_looksAtK.J0 R code_ ((code_ : Int) == 7) w)
    (insn_looksAtK.J0 R code_ ((code_ : Int) == 135) w)))))

theorem insn_looksAtK.eq (R : Value → World → Prop) (code_ : Int) (w : World) : fnVC Try.prog none insn_looksAtK.live Try.f121 R [(.int .u16 code_)] w = insn_looksAtK.vc R code_ w := by kernel_rfl
set_option maxHeartbeats 4000000 in
theorem insn_looksAtK.ok {R : Value → World → Prop} {code_ : Int} {w : World} (h : insn_looksAtK.vc R code_ w) : Run Try.prog 121 #[(.int .u16 code_)] w R := by
  have h2 := Eq.mpr (insn_looksAtK.eq R code_ w) h
  exact fn_sound Try.mixed Try.func121 (by kernel_rfl) h2

/-! ### riddle/insn.mayFault: function 123 -/
noncomputable def insn_mayFault.body : Code := bodyOf Try.f123
def insn_mayFault.live : Nat → List Nat
  | _ => []
def insn_mayFault.J0 (R : Value → World → Prop) (t4 : Bool) (w : World) : Prop :=
  ifP t4
    (R (.bool true) w)
    (R (.bool false) w)

@[reducible] def insn_mayFault.vc (R : Value → World → Prop) (code_ : Int) (w : World) : Prop :=
  ifP ((code_ : Int) == 32)
    (insn_mayFault.J0 R ((code_ : Int) == 32) w)
    (ifP ((code_ : Int) == 40)
    (insn_mayFault.J0 R ((code_ : Int) == 40) w)
    (ifP ((code_ : Int) == 48)
    (insn_mayFault.J0 R ((code_ : Int) == 48) w)
    (ifP ((code_ : Int) == 64)
    (insn_mayFault.J0 R ((code_ : Int) == 64) w)
    (ifP ((code_ : Int) == 72)
    (insn_mayFault.J0 R ((code_ : Int) == 72) w)
    (ifP ((code_ : Int) == 80)
    (insn_mayFault.J0 R ((code_ : Int) == 80) w)
    (ifP ((code_ : Int) == 177)
    (insn_mayFault.J0 R ((code_ : Int) == 177) w)
    (ifP ((code_ : Int) == 60)
    (insn_mayFault.J0 R ((code_ : Int) == 60) w)
    (insn_mayFault.J0 R ((code_ : Int) == 156) w))))))))

theorem insn_mayFault.eq (R : Value → World → Prop) (code_ : Int) (w : World) : fnVC Try.prog none insn_mayFault.live Try.f123 R [(.int .u16 code_)] w = insn_mayFault.vc R code_ w := by kernel_rfl
set_option maxHeartbeats 4000000 in
theorem insn_mayFault.ok {R : Value → World → Prop} {code_ : Int} {w : World} (h : insn_mayFault.vc R code_ w) : Run Try.prog 123 #[(.int .u16 code_)] w R := by
  have h2 := Eq.mpr (insn_mayFault.eq R code_ w) h
  exact fn_sound Try.mixed Try.func123 (by kernel_rfl) h2

/-! ### riddle/insn.Uses: function 100 -/
noncomputable def insn_Uses.body : Code := bodyOf Try.f100
def insn_Uses.live : Nat → List Nat
  | _ => []
@[reducible] def insn_Uses.vc (R : Value → World → Prop) (code_ : Int) (w : World) : Prop :=
  Run Try.prog 103 #[(.int .u16 code_)] w fun v w_2 => ∃ t6 : Bool, v = (.bool t6) ∧ ifP (!t6)
    (R (.tuple #[(.bool false), (.bool false), (.bool false)]) w_2)
    (Run Try.prog 121 #[(.int .u16 code_)] w_2 fun v_2 w_3 => ∃ t9 : Bool, v_2 = (.bool t9) ∧ Run Try.prog 122 #[(.int .u16 code_)] w_3 fun v_3 w_4 => ∃ t11 : Bool, v_3 = (.bool t11) ∧ Run Try.prog 123 #[(.int .u16 code_)] w_4 fun v_4 w_5 => ∃ t13 : Bool, v_4 = (.bool t13) ∧ R (.tuple #[(.bool t9), (.bool t11), (.bool t13)]) w_5)

theorem insn_Uses.eq (R : Value → World → Prop) (code_ : Int) (w : World) : fnVC Try.prog none insn_Uses.live Try.f100 R [(.int .u16 code_)] w = insn_Uses.vc R code_ w := by kernel_rfl
set_option maxHeartbeats 4000000 in
theorem insn_Uses.ok {R : Value → World → Prop} {code_ : Int} {w : World} (h : insn_Uses.vc R code_ w) : Run Try.prog 100 #[(.int .u16 code_)] w R := by
  have h2 := Eq.mpr (insn_Uses.eq R code_ w) h
  exact fn_sound Try.mixed Try.func100 (by kernel_rfl) h2

/-! ### riddle/graph.bare: function 112 -/
noncomputable def graph_bare.body : Code := bodyOf Try.f112
def graph_bare.live : Nat → List Nat
  | _ => []
def graph_bare.J0 (R : Value → World → Prop) (t2 : Bool) (w : World) : Prop :=
  R (.bool t2) w

@[reducible] def graph_bare.vc (R : Value → World → Prop) (i_0 : Int) (i_1 : Int) (i_2 : Int) (i_3 : Int) (w : World) : Prop :=
  letW (w.alloc (.cells #[(.int .u16 i_0), (.int .u8 i_1), (.int .u8 i_2), (.int .u32 i_3)] 47)) fun w_2 => ∃ t8 : Int, w_2.cell? (newA w) = some (.int .u16 t8) ∧ Run Try.prog 100 #[(.int .u16 t8)] w_2 fun v w_3 => ∃ t90 : Bool, ∃ t91 : Bool, ∃ t92 : Bool, v = (.tuple #[(.bool t90), (.bool t91), (.bool t92)]) ∧ ∃ t14 : Int, w_3.cell? ((newA w).add 1) = some (.int .u8 t14) ∧ ifP ((t14 : Int) == 0) (∃ t18 : Int, w_3.cell? ((newA w).add 2) = some (.int .u8 t18) ∧ ifP ((t18 : Int) == 0) (ifP t90 (graph_bare.J0 R true w_3) (∃ t25 : Int, w_3.cell? ((newA w).add 3) = some (.int .u32 t25) ∧ graph_bare.J0 R ((t25 : Int) == 0) w_3)) (graph_bare.J0 R false w_3)) (graph_bare.J0 R false w_3)

theorem graph_bare.eq (R : Value → World → Prop) (i_0 : Int) (i_1 : Int) (i_2 : Int) (i_3 : Int) (w : World) : fnVC Try.prog none graph_bare.live Try.f112 R [(.agg #[(.int .u16 i_0), (.int .u8 i_1), (.int .u8 i_2), (.int .u32 i_3)])] w = graph_bare.vc R i_0 i_1 i_2 i_3 w := by kernel_rfl
set_option maxHeartbeats 4000000 in
theorem graph_bare.ok {R : Value → World → Prop} {i_0 : Int} {i_1 : Int} {i_2 : Int} {i_3 : Int} {w : World} (h : graph_bare.vc R i_0 i_1 i_2 i_3 w) : Run Try.prog 112 #[(.agg #[(.int .u16 i_0), (.int .u8 i_1), (.int .u8 i_2), (.int .u32 i_3)])] w R := by
  have h2 := Eq.mpr (graph_bare.eq R i_0 i_1 i_2 i_3 w) h
  exact fn_sound Try.mixed Try.func112 (by kernel_rfl) h2

/-! ### riddle/graph.ended: function 73 -/
noncomputable def graph_ended.body : Code := bodyOf Try.f73
def graph_ended.live : Nat → List Nat
  | _ => []
def graph_ended.J0 (R : Value → World → Prop) (t2 : Bool) (w : World) : Prop :=
  R (.bool t2) w

def graph_ended.J1 (R : Value → World → Prop) (t2 : Bool) (w : World) : Prop :=
  R (.bool t2) w

def graph_ended.J2 (R : Value → World → Prop) (t2 : Bool) (w : World) : Prop :=
  R (.bool t2) w

@[reducible] def graph_ended.vc (R : Value → World → Prop) (b_0A : Option Addr) (b_0n : Nat) (b_0c : Nat) (b_1 : Int) (b_2 : Int) (b_3 : Int) (b_4 : Int) (b_5 : Int) (b_6 : Int) (b_7 : Int) (w : World) : Prop :=
  letW (w.alloc (.cells #[(.slice b_0A b_0n b_0c), (.int .i64 b_1), (.int .u16 b_2), (.int .u8 b_3), (.int .u8 b_4), (.int .u32 b_5), (.int .i64 b_6), (.int .i64 b_7)] 49)) fun w_2 => ∃ t4 : Int, w_2.cell? ((newA w).add 1) = some (.int .i64 t4) ∧ ifP ((t4 : Int) == 1)
    (∃ t9 : Int, w_2.cell? ((newA w).add 2) = some (.int .u16 t9) ∧ Run Try.prog 64 #[(.int .u16 t9)] w_2 fun v w_3 => ∃ t10 : Int, v = (.int .i64 t10) ∧ ifP ((t10 : Int) == 6) (∃ t14_0 : Int, w_3.cell? ((newA w).add 2) = some (.int .u16 t14_0) ∧ ∃ t14_1 : Int, w_3.cell? (((newA w).add 2).add 1) = some (.int .u8 t14_1) ∧ ∃ t14_2 : Int, w_3.cell? (((newA w).add 2).add 2) = some (.int .u8 t14_2) ∧ ∃ t14_3 : Int, w_3.cell? (((newA w).add 2).add 3) = some (.int .u32 t14_3) ∧ Run Try.prog 112 #[(.agg #[(.int .u16 t14_0), (.int .u8 t14_1), (.int .u8 t14_2), (.int .u32 t14_3)])] w_3 fun v_2 w_4 => ∃ t15 : Bool, v_2 = (.bool t15) ∧ ifP t15 (∃ t19 : Int, w_4.cell? ((newA w).add 6) = some (.int .i64 t19) ∧ ifP ((t19 : Int) == 0) (∃ t24 : Int, w_4.cell? ((newA w).add 7) = some (.int .i64 t24) ∧ graph_ended.J0 R ((t24 : Int) == 0) w_4) (graph_ended.J0 R false w_4)) (graph_ended.J0 R false w_4)) (graph_ended.J0 R false w_3))
    (ifP ((t4 : Int) == 2)
    (∃ t30_0 : Int, w_2.cell? ((newA w).add 2) = some (.int .u16 t30_0) ∧ ∃ t30_1 : Int, w_2.cell? (((newA w).add 2).add 1) = some (.int .u8 t30_1) ∧ ∃ t30_2 : Int, w_2.cell? (((newA w).add 2).add 2) = some (.int .u8 t30_2) ∧ ∃ t30_3 : Int, w_2.cell? (((newA w).add 2).add 3) = some (.int .u32 t30_3) ∧ ∃ (v_3 : Value) (w_5 : World), (eqSem .eql 47 (.tmp 30) (.tmp 31) (.agg #[(.int .u16 t30_0), (.int .u8 t30_1), (.int .u8 t30_2), (.int .u32 t30_3)]) (.agg #[(.int .u16 0), (.int .u8 0), (.int .u8 0), (.int .u32 0)])).run Try.prog w_2 = .ok v_3 w_5 ∧ ∃ t32 : Bool, v_3 = (.bool t32) ∧ ifP t32 (∃ t35 : Int, w_5.cell? ((newA w).add 7) = some (.int .i64 t35) ∧ graph_ended.J1 R ((t35 : Int) == 0) w_5) (graph_ended.J1 R false w_5))
    (ifP ((t4 : Int) == 3)
    (∃ t42 : Int, w_2.cell? ((newA w).add 2) = some (.int .u16 t42) ∧ Run Try.prog 64 #[(.int .u16 t42)] w_2 fun v_4 w_6 => ∃ t43 : Int, v_4 = (.int .i64 t43) ∧ ifP ((t43 : Int) == 5) (∃ t48 : Int, w_6.cell? ((newA w).add 2) = some (.int .u16 t48) ∧ ifP ((t48 : Int) != 5) (∃ t53_0 : Int, w_6.cell? ((newA w).add 2) = some (.int .u16 t53_0) ∧ ∃ t53_1 : Int, w_6.cell? (((newA w).add 2).add 1) = some (.int .u8 t53_1) ∧ ∃ t53_2 : Int, w_6.cell? (((newA w).add 2).add 2) = some (.int .u8 t53_2) ∧ ∃ t53_3 : Int, w_6.cell? (((newA w).add 2).add 3) = some (.int .u32 t53_3) ∧ Run Try.prog 112 #[(.agg #[(.int .u16 t53_0), (.int .u8 t53_1), (.int .u8 t53_2), (.int .u32 t53_3)])] w_6 fun v_5 w_7 => ∃ t54 : Bool, v_5 = (.bool t54) ∧ graph_ended.J2 R t54 w_7) (graph_ended.J2 R false w_6)) (graph_ended.J2 R false w_6))
    (R (.bool false) w_2)))

theorem graph_ended.eq (R : Value → World → Prop) (b_0A : Option Addr) (b_0n : Nat) (b_0c : Nat) (b_1 : Int) (b_2 : Int) (b_3 : Int) (b_4 : Int) (b_5 : Int) (b_6 : Int) (b_7 : Int) (w : World) : fnVC Try.prog none graph_ended.live Try.f73 R [(.agg #[(.slice b_0A b_0n b_0c), (.int .i64 b_1), (.int .u16 b_2), (.int .u8 b_3), (.int .u8 b_4), (.int .u32 b_5), (.int .i64 b_6), (.int .i64 b_7)])] w = graph_ended.vc R b_0A b_0n b_0c b_1 b_2 b_3 b_4 b_5 b_6 b_7 w := by kernel_rfl
set_option maxHeartbeats 4000000 in
theorem graph_ended.ok {R : Value → World → Prop} {b_0A : Option Addr} {b_0n : Nat} {b_0c : Nat} {b_1 : Int} {b_2 : Int} {b_3 : Int} {b_4 : Int} {b_5 : Int} {b_6 : Int} {b_7 : Int} {w : World} (h : graph_ended.vc R b_0A b_0n b_0c b_1 b_2 b_3 b_4 b_5 b_6 b_7 w) : Run Try.prog 73 #[(.agg #[(.slice b_0A b_0n b_0c), (.int .i64 b_1), (.int .u16 b_2), (.int .u8 b_3), (.int .u8 b_4), (.int .u32 b_5), (.int .i64 b_6), (.int .i64 b_7)])] w R := by
  have h2 := Eq.mpr (graph_ended.eq R b_0A b_0n b_0c b_1 b_2 b_3 b_4 b_5 b_6 b_7 w) h
  exact fn_sound Try.mixed Try.func73 (by kernel_rfl) h2

/-! ### riddle/graph.one: function 45 -/
noncomputable def graph_one.body : Code := bodyOf Try.f45
def graph_one.live : Nat → List Nat
  | 0 => [1, 3, 4, 16, 17, 18]
  | 2 => [1, 3, 30, 31, 32]
  | _ => []
noncomputable def graph_one.c0 : Code := sub graph_one.body [1, 1, 0, 1, 0, 0]
noncomputable def graph_one.c2 : Code := sub graph_one.body [1, 1, 1, 1, 0, 1, 0, 0]
def graph_one.K0 (R : Value → World → Prop) : Ex → St → World → Prop := (blockK 0 (thenK (fun st w => code Try.prog none graph_one.live 0 (sub graph_one.body [1, 1, 1]) (retK Try.prog Try.f45 R) st w) (retK Try.prog Try.f45 R)))
def graph_one.L0 (R : Value → World → Prop) (at_ : Int) (n : Int) (b : Addr) (t16A : Option Addr) (t16n : Nat) (t16c : Nat) (t17 : Int) (t18 : Int) (w : World) : Prop :=
  loopVC (fun K => code Try.prog none graph_one.live 0 graph_one.c0 K) (graph_one.live 0) (graph_one.K0 R) [undef, (.int .i64 at_), undef, (.int .i64 n), (.pointer (some b)), undef, undef, undef, undef, undef, undef, undef, undef, undef, undef, undef, (.slice t16A t16n t16c), (.int .i64 t17), (.int .i64 t18), undef, undef, undef, undef, undef, undef, undef, undef, undef, undef, undef, undef, undef, undef, undef, undef, undef, undef, undef, undef, undef, undef, undef, undef, undef, undef] w
def graph_one.K2 (R : Value → World → Prop) : Ex → St → World → Prop := (blockK 2 (thenK (fun st w => code Try.prog none graph_one.live 0 (sub graph_one.body [1, 1, 1, 1, 1]) (retK Try.prog Try.f45 R) st w) (retK Try.prog Try.f45 R)))
def graph_one.L2 (R : Value → World → Prop) (at_ : Int) (n : Int) (t30A : Option Addr) (t30n : Nat) (t30c : Nat) (t31 : Int) (t32 : Int) (w : World) : Prop :=
  loopVC (fun K => code Try.prog none graph_one.live 2 graph_one.c2 K) (graph_one.live 2) (graph_one.K2 R) [undef, (.int .i64 at_), undef, (.int .i64 n), undef, undef, undef, undef, undef, undef, undef, undef, undef, undef, undef, undef, undef, undef, undef, undef, undef, undef, undef, undef, undef, undef, undef, undef, undef, undef, (.slice t30A t30n t30c), (.int .i64 t31), (.int .i64 t32), undef, undef, undef, undef, undef, undef, undef, undef, undef, undef, undef, undef] w
def graph_one.J0 (R : Value → World → Prop) (at_ : Int) (n : Int) (t30A : Option Addr) (t30n : Nat) (t30c : Nat) (t31 : Int) (t32 : Int) (t43 : Bool) (w : World) : Prop :=
  ifP t43
    (R (.int .i64 154) w)
    (graph_one.L2 R at_ n t30A t30n t30c t31 (IntKind.i64.wrap (t32 + 1)) w)

@[reducible] def graph_one.B2 (R : Value → World → Prop) (at_ : Int) (n : Int) (t30A : Option Addr) (t30n : Nat) (t30c : Nat) (t31 : Int) (t32 : Int) (w : World) : Prop :=
  ifP (decide ((t32 : Int) < t31))
    (0 ≤ (t32 : Int) ∧ (t32 : Int) < ((t30n : Nat) : Int) ∧ ∃ t34p : Addr, t30A = some t34p ∧ ∃ t35 : Int, w.cell? (t34p.add (Int.toNat t32 * 1)) = some (.int .i64 t35) ∧ ifP (decide ((t35 : Int) ≤ at_)) (graph_one.J0 R at_ n t30A t30n t30c t31 t32 true w) (graph_one.J0 R at_ n t30A t30n t30c t31 t32 (decide ((t35 : Int) ≥ n)) w))
    (R (.int .i64 0) w)

@[reducible] def graph_one.B0 (R : Value → World → Prop) (at_ : Int) (n : Int) (b : Addr) (t16A : Option Addr) (t16n : Nat) (t16c : Nat) (t17 : Int) (t18 : Int) (w : World) : Prop :=
  ifP (decide ((t18 : Int) < t17))
    (0 ≤ (t18 : Int) ∧ (t18 : Int) < ((t16n : Nat) : Int) ∧ ∃ t20p : Addr, t16A = some t20p ∧ ∃ t21_0 : Int, w.cell? (t20p.add (Int.toNat t18 * 4)) = some (.int .u16 t21_0) ∧ ∃ t21_1 : Int, w.cell? ((t20p.add (Int.toNat t18 * 4)).add 1) = some (.int .u8 t21_1) ∧ ∃ t21_2 : Int, w.cell? ((t20p.add (Int.toNat t18 * 4)).add 2) = some (.int .u8 t21_2) ∧ ∃ t21_3 : Int, w.cell? ((t20p.add (Int.toNat t18 * 4)).add 3) = some (.int .u32 t21_3) ∧ letW (w.alloc (.cells #[(.int .u16 0), (.int .u8 0), (.int .u8 0), (.int .u32 0)] 47)) fun w_2 => storeRow (newA w) 0 [(.int .u16 t21_0), (.int .u8 t21_1), (.int .u8 t21_2), (.int .u32 t21_3)] w_2 fun w_3 => ∃ t22_0 : Int, w_3.cell? (newA w) = some (.int .u16 t22_0) ∧ ∃ t22_1 : Int, w_3.cell? ((newA w).add 1) = some (.int .u8 t22_1) ∧ ∃ t22_2 : Int, w_3.cell? ((newA w).add 2) = some (.int .u8 t22_2) ∧ ∃ t22_3 : Int, w_3.cell? ((newA w).add 3) = some (.int .u32 t22_3) ∧ Run Try.prog 72 #[(.agg #[(.int .u16 t22_0), (.int .u8 t22_1), (.int .u8 t22_2), (.int .u32 t22_3)])] w_3 fun v w_4 => ∃ t23 : Bool, v = (.bool t23) ∧ ifP (!t23)
    (R (.int .i64 152) w_4)
    (graph_one.L0 R at_ n b t16A t16n t16c t17 (IntKind.i64.wrap (t18 + 1)) w_4))
    (∃ (t26_0A : Option Addr) (t26_0n t26_0c : Nat), w.cell? b = some (.slice t26_0A t26_0n t26_0c) ∧ ∃ t26_1 : Int, w.cell? (b.add 1) = some (.int .i64 t26_1) ∧ ∃ t26_2 : Int, w.cell? (b.add 2) = some (.int .u16 t26_2) ∧ ∃ t26_3 : Int, w.cell? (b.add 3) = some (.int .u8 t26_3) ∧ ∃ t26_4 : Int, w.cell? (b.add 4) = some (.int .u8 t26_4) ∧ ∃ t26_5 : Int, w.cell? (b.add 5) = some (.int .u32 t26_5) ∧ ∃ t26_6 : Int, w.cell? (b.add 6) = some (.int .i64 t26_6) ∧ ∃ t26_7 : Int, w.cell? (b.add 7) = some (.int .i64 t26_7) ∧ Run Try.prog 73 #[(.agg #[(.slice t26_0A t26_0n t26_0c), (.int .i64 t26_1), (.int .u16 t26_2), (.int .u8 t26_3), (.int .u8 t26_4), (.int .u32 t26_5), (.int .i64 t26_6), (.int .i64 t26_7)])] w fun v_2 w_5 => ∃ t27 : Bool, v_2 = (.bool t27) ∧ ifP (!t27)
    (R (.int .i64 153) w_5)
    (∃ (t29_0A : Option Addr) (t29_0n t29_0c : Nat), w_5.cell? b = some (.slice t29_0A t29_0n t29_0c) ∧ ∃ t29_1 : Int, w_5.cell? (b.add 1) = some (.int .i64 t29_1) ∧ ∃ t29_2 : Int, w_5.cell? (b.add 2) = some (.int .u16 t29_2) ∧ ∃ t29_3 : Int, w_5.cell? (b.add 3) = some (.int .u8 t29_3) ∧ ∃ t29_4 : Int, w_5.cell? (b.add 4) = some (.int .u8 t29_4) ∧ ∃ t29_5 : Int, w_5.cell? (b.add 5) = some (.int .u32 t29_5) ∧ ∃ t29_6 : Int, w_5.cell? (b.add 6) = some (.int .i64 t29_6) ∧ ∃ t29_7 : Int, w_5.cell? (b.add 7) = some (.int .i64 t29_7) ∧ Run Try.prog 62 #[(.agg #[(.slice t29_0A t29_0n t29_0c), (.int .i64 t29_1), (.int .u16 t29_2), (.int .u8 t29_3), (.int .u8 t29_4), (.int .u32 t29_5), (.int .i64 t29_6), (.int .i64 t29_7)])] w_5 fun v_3 w_6 => ∃ (t30A : Option Addr) (t30n t30c : Nat), v_3 = (.slice t30A t30n t30c) ∧ graph_one.L2 R at_ n t30A t30n t30c ((t30n : Nat) : Int) 0 w_6))

@[reducible] def graph_one.vc (R : Value → World → Prop) (b_0A : Option Addr) (b_0n : Nat) (b_0c : Nat) (b_1 : Int) (b_2 : Int) (b_3 : Int) (b_4 : Int) (b_5 : Int) (b_6 : Int) (b_7 : Int) (at_ : Int) (all : Int) (n : Int) (w : World) : Prop :=
  letW (w.alloc (.cells #[(.slice b_0A b_0n b_0c), (.int .i64 b_1), (.int .u16 b_2), (.int .u8 b_3), (.int .u8 b_4), (.int .u32 b_5), (.int .i64 b_6), (.int .i64 b_7)] 49)) fun w_2 => ifP (decide ((all : Int) > 4096))
    (R (.int .i64 151) w_2)
    (∃ (t16A : Option Addr) (t16n t16c : Nat), w_2.cell? (newA w) = some (.slice t16A t16n t16c) ∧ graph_one.L0 R at_ n (newA w) t16A t16n t16c ((t16n : Nat) : Int) 0 w_2)

theorem graph_one.B0_eq (R : Value → World → Prop) (at_ : Int) (n : Int) (b : Addr) (t16A : Option Addr) (t16n : Nat) (t16c : Nat) (t17 : Int) (t18 : Int) (w : World) (ts : Nat → Value) :
    code Try.prog none graph_one.live 0 graph_one.c0 (thenK (fun st w => loopVC (fun K => code Try.prog none graph_one.live 0 graph_one.c0 K) (graph_one.live 0) (graph_one.K0 R) (clearFrom (graph_one.live 0) 0 st) w) (graph_one.K0 R)) (mergeFrom (graph_one.live 0) ts 0 (clearFrom (graph_one.live 0) 0 [undef, (.int .i64 at_), undef, (.int .i64 n), (.pointer (some b)), undef, undef, undef, undef, undef, undef, undef, undef, undef, undef, undef, (.slice t16A t16n t16c), (.int .i64 t17), (.int .i64 t18), undef, undef, undef, undef, undef, undef, undef, undef, undef, undef, undef, undef, undef, undef, undef, undef, undef, undef, undef, undef, undef, undef, undef, undef, undef, undef])) w = graph_one.B0 R at_ n b t16A t16n t16c t17 t18 w := by kernel_rfl
theorem graph_one.L0_step {R : Value → World → Prop} {at_ : Int} {n : Int} {b : Addr} {t16A : Option Addr} {t16n : Nat} {t16c : Nat} {t17 : Int} {t18 : Int} {w : World} (h : graph_one.B0 R at_ n b t16A t16n t16c t17 t18 w) : graph_one.L0 R at_ n b t16A t16n t16c t17 t18 w :=
  loop_step (live := graph_one.live) (b := 0) (x := graph_one.c0) fun ts => Eq.mpr (graph_one.B0_eq R at_ n b t16A t16n t16c t17 t18 w ts) h
theorem graph_one.B2_eq (R : Value → World → Prop) (at_ : Int) (n : Int) (t30A : Option Addr) (t30n : Nat) (t30c : Nat) (t31 : Int) (t32 : Int) (w : World) (ts : Nat → Value) :
    code Try.prog none graph_one.live 2 graph_one.c2 (thenK (fun st w => loopVC (fun K => code Try.prog none graph_one.live 2 graph_one.c2 K) (graph_one.live 2) (graph_one.K2 R) (clearFrom (graph_one.live 2) 0 st) w) (graph_one.K2 R)) (mergeFrom (graph_one.live 2) ts 0 (clearFrom (graph_one.live 2) 0 [undef, (.int .i64 at_), undef, (.int .i64 n), undef, undef, undef, undef, undef, undef, undef, undef, undef, undef, undef, undef, undef, undef, undef, undef, undef, undef, undef, undef, undef, undef, undef, undef, undef, undef, (.slice t30A t30n t30c), (.int .i64 t31), (.int .i64 t32), undef, undef, undef, undef, undef, undef, undef, undef, undef, undef, undef, undef])) w = graph_one.B2 R at_ n t30A t30n t30c t31 t32 w := by kernel_rfl
theorem graph_one.L2_step {R : Value → World → Prop} {at_ : Int} {n : Int} {t30A : Option Addr} {t30n : Nat} {t30c : Nat} {t31 : Int} {t32 : Int} {w : World} (h : graph_one.B2 R at_ n t30A t30n t30c t31 t32 w) : graph_one.L2 R at_ n t30A t30n t30c t31 t32 w :=
  loop_step (live := graph_one.live) (b := 2) (x := graph_one.c2) fun ts => Eq.mpr (graph_one.B2_eq R at_ n t30A t30n t30c t31 t32 w ts) h
theorem graph_one.eq (R : Value → World → Prop) (b_0A : Option Addr) (b_0n : Nat) (b_0c : Nat) (b_1 : Int) (b_2 : Int) (b_3 : Int) (b_4 : Int) (b_5 : Int) (b_6 : Int) (b_7 : Int) (at_ : Int) (all : Int) (n : Int) (w : World) : fnVC Try.prog none graph_one.live Try.f45 R [(.agg #[(.slice b_0A b_0n b_0c), (.int .i64 b_1), (.int .u16 b_2), (.int .u8 b_3), (.int .u8 b_4), (.int .u32 b_5), (.int .i64 b_6), (.int .i64 b_7)]), (.int .i64 at_), (.int .i64 all), (.int .i64 n)] w = graph_one.vc R b_0A b_0n b_0c b_1 b_2 b_3 b_4 b_5 b_6 b_7 at_ all n w := by kernel_rfl
set_option maxHeartbeats 4000000 in
theorem graph_one.ok {R : Value → World → Prop} {b_0A : Option Addr} {b_0n : Nat} {b_0c : Nat} {b_1 : Int} {b_2 : Int} {b_3 : Int} {b_4 : Int} {b_5 : Int} {b_6 : Int} {b_7 : Int} {at_ : Int} {all : Int} {n : Int} {w : World} (h : graph_one.vc R b_0A b_0n b_0c b_1 b_2 b_3 b_4 b_5 b_6 b_7 at_ all n w) : Run Try.prog 45 #[(.agg #[(.slice b_0A b_0n b_0c), (.int .i64 b_1), (.int .u16 b_2), (.int .u8 b_3), (.int .u8 b_4), (.int .u32 b_5), (.int .i64 b_6), (.int .i64 b_7)]), (.int .i64 at_), (.int .i64 all), (.int .i64 n)] w R := by
  have h2 := Eq.mpr (graph_one.eq R b_0A b_0n b_0c b_1 b_2 b_3 b_4 b_5 b_6 b_7 at_ all n w) h
  exact fn_sound Try.mixed Try.func45 (by kernel_rfl) h2

/-! ### riddle/graph.Check: function 12 -/
noncomputable def graph_Check.body : Code := bodyOf Try.f12
def graph_Check.live : Nat → List Nat
  | 0 => [0, 4, 14, 15, 16]
  | _ => []
noncomputable def graph_Check.c0 : Code := sub graph_Check.body [1, 1, 1, 1, 0, 1, 0, 0]
def graph_Check.K0 (R : Value → World → Prop) : Ex → St → World → Prop := (blockK 0 (thenK (fun st w => code Try.prog none graph_Check.live 0 (sub graph_Check.body [1, 1, 1, 1, 1]) (retK Try.prog Try.f12 R) st w) (retK Try.prog Try.f12 R)))
def graph_Check.L0 (R : Value → World → Prop) (gA : Option Addr) (gn : Nat) (gc : Nat) (all : Int) (t14A : Option Addr) (t14n : Nat) (t14c : Nat) (t15 : Int) (t16 : Int) (w : World) : Prop :=
  loopVC (fun K => code Try.prog none graph_Check.live 0 graph_Check.c0 K) (graph_Check.live 0) (graph_Check.K0 R) [(.slice gA gn gc), undef, undef, undef, (.int .i64 all), undef, undef, undef, undef, undef, undef, undef, undef, undef, (.slice t14A t14n t14c), (.int .i64 t15), (.int .i64 t16), undef, undef, undef, undef, undef, undef, undef, undef, undef, undef, undef, undef, undef, undef, undef, undef, undef, undef, undef, undef] w
@[reducible] def graph_Check.B0 (R : Value → World → Prop) (gA : Option Addr) (gn : Nat) (gc : Nat) (all : Int) (t14A : Option Addr) (t14n : Nat) (t14c : Nat) (t15 : Int) (t16 : Int) (w : World) : Prop :=
  ifP (decide ((t16 : Int) < t15))
    (0 ≤ (t16 : Int) ∧ (t16 : Int) < ((t14n : Nat) : Int) ∧ ∃ t19p : Addr, t14A = some t19p ∧ ∃ (t20_0A : Option Addr) (t20_0n t20_0c : Nat), w.cell? (t19p.add (Int.toNat t16 * 8)) = some (.slice t20_0A t20_0n t20_0c) ∧ ∃ t20_1 : Int, w.cell? ((t19p.add (Int.toNat t16 * 8)).add 1) = some (.int .i64 t20_1) ∧ ∃ t20_2 : Int, w.cell? ((t19p.add (Int.toNat t16 * 8)).add 2) = some (.int .u16 t20_2) ∧ ∃ t20_3 : Int, w.cell? ((t19p.add (Int.toNat t16 * 8)).add 3) = some (.int .u8 t20_3) ∧ ∃ t20_4 : Int, w.cell? ((t19p.add (Int.toNat t16 * 8)).add 4) = some (.int .u8 t20_4) ∧ ∃ t20_5 : Int, w.cell? ((t19p.add (Int.toNat t16 * 8)).add 5) = some (.int .u32 t20_5) ∧ ∃ t20_6 : Int, w.cell? ((t19p.add (Int.toNat t16 * 8)).add 6) = some (.int .i64 t20_6) ∧ ∃ t20_7 : Int, w.cell? ((t19p.add (Int.toNat t16 * 8)).add 7) = some (.int .i64 t20_7) ∧ letW (w.alloc (.cells #[(.slice none 0 0), (.int .i64 0), (.int .u16 0), (.int .u8 0), (.int .u8 0), (.int .u32 0), (.int .i64 0), (.int .i64 0)] 49)) fun w_2 => storeRow (newA w) 0 [(.slice t20_0A t20_0n t20_0c), (.int .i64 t20_1), (.int .u16 t20_2), (.int .u8 t20_3), (.int .u8 t20_4), (.int .u32 t20_5), (.int .i64 t20_6), (.int .i64 t20_7)] w_2 fun w_3 => ∃ (t23A : Option Addr) (t23n t23c : Nat), w_3.cell? (newA w) = some (.slice t23A t23n t23c) ∧ ∃ (t26_0A : Option Addr) (t26_0n t26_0c : Nat), w_3.cell? (newA w) = some (.slice t26_0A t26_0n t26_0c) ∧ ∃ t26_1 : Int, w_3.cell? ((newA w).add 1) = some (.int .i64 t26_1) ∧ ∃ t26_2 : Int, w_3.cell? ((newA w).add 2) = some (.int .u16 t26_2) ∧ ∃ t26_3 : Int, w_3.cell? ((newA w).add 3) = some (.int .u8 t26_3) ∧ ∃ t26_4 : Int, w_3.cell? ((newA w).add 4) = some (.int .u8 t26_4) ∧ ∃ t26_5 : Int, w_3.cell? ((newA w).add 5) = some (.int .u32 t26_5) ∧ ∃ t26_6 : Int, w_3.cell? ((newA w).add 6) = some (.int .i64 t26_6) ∧ ∃ t26_7 : Int, w_3.cell? ((newA w).add 7) = some (.int .i64 t26_7) ∧ Run Try.prog 45 #[(.agg #[(.slice t26_0A t26_0n t26_0c), (.int .i64 t26_1), (.int .u16 t26_2), (.int .u8 t26_3), (.int .u8 t26_4), (.int .u32 t26_5), (.int .i64 t26_6), (.int .i64 t26_7)]), (.int .i64 t16), (.int .i64 (IntKind.i64.wrap (all + ((t23n : Nat) : Int)))), (.int .i64 ((gn : Nat) : Int))] w_3 fun v w_4 => ∃ t31 : Int, v = (.int .i64 t31) ∧ ifP ((t31 : Int) != 0)
    (R (.tuple #[(.int .i64 t16), (.int .i64 t31)]) w_4)
    (graph_Check.L0 R gA gn gc (IntKind.i64.wrap (all + ((t23n : Nat) : Int))) t14A t14n t14c t15 (IntKind.i64.wrap (t16 + 1)) w_4))
    (R (.tuple #[(.int .i64 0), (.int .i64 0)]) w)

@[reducible] def graph_Check.vc (R : Value → World → Prop) (gA : Option Addr) (gn : Nat) (gc : Nat) (w : World) : Prop :=
  ifP ((((gn : Nat) : Int) : Int) == 0)
    (R (.tuple #[(.int .i64 0), (.int .i64 150)]) w)
    (ifP (decide ((((gn : Nat) : Int) : Int) > 4096))
    (R (.tuple #[(.int .i64 4096), (.int .i64 151)]) w)
    (graph_Check.L0 R gA gn gc 0 gA gn gc ((gn : Nat) : Int) 0 w))

theorem graph_Check.B0_eq (R : Value → World → Prop) (gA : Option Addr) (gn : Nat) (gc : Nat) (all : Int) (t14A : Option Addr) (t14n : Nat) (t14c : Nat) (t15 : Int) (t16 : Int) (w : World) (ts : Nat → Value) :
    code Try.prog none graph_Check.live 0 graph_Check.c0 (thenK (fun st w => loopVC (fun K => code Try.prog none graph_Check.live 0 graph_Check.c0 K) (graph_Check.live 0) (graph_Check.K0 R) (clearFrom (graph_Check.live 0) 0 st) w) (graph_Check.K0 R)) (mergeFrom (graph_Check.live 0) ts 0 (clearFrom (graph_Check.live 0) 0 [(.slice gA gn gc), undef, undef, undef, (.int .i64 all), undef, undef, undef, undef, undef, undef, undef, undef, undef, (.slice t14A t14n t14c), (.int .i64 t15), (.int .i64 t16), undef, undef, undef, undef, undef, undef, undef, undef, undef, undef, undef, undef, undef, undef, undef, undef, undef, undef, undef, undef])) w = graph_Check.B0 R gA gn gc all t14A t14n t14c t15 t16 w := by kernel_rfl
theorem graph_Check.L0_step {R : Value → World → Prop} {gA : Option Addr} {gn : Nat} {gc : Nat} {all : Int} {t14A : Option Addr} {t14n : Nat} {t14c : Nat} {t15 : Int} {t16 : Int} {w : World} (h : graph_Check.B0 R gA gn gc all t14A t14n t14c t15 t16 w) : graph_Check.L0 R gA gn gc all t14A t14n t14c t15 t16 w :=
  loop_step (live := graph_Check.live) (b := 0) (x := graph_Check.c0) fun ts => Eq.mpr (graph_Check.B0_eq R gA gn gc all t14A t14n t14c t15 t16 w ts) h
theorem graph_Check.eq (R : Value → World → Prop) (gA : Option Addr) (gn : Nat) (gc : Nat) (w : World) : fnVC Try.prog none graph_Check.live Try.f12 R [(.slice gA gn gc)] w = graph_Check.vc R gA gn gc w := by kernel_rfl
set_option maxHeartbeats 4000000 in
theorem graph_Check.ok {R : Value → World → Prop} {gA : Option Addr} {gn : Nat} {gc : Nat} {w : World} (h : graph_Check.vc R gA gn gc w) : Run Try.prog 12 #[(.slice gA gn gc)] w R := by
  have h2 := Eq.mpr (graph_Check.eq R gA gn gc w) h
  exact fn_sound Try.mixed Try.func12 (by kernel_rfl) h2

/-! ### riddle/riddlelaw0.SpoilInsns: function 25 -/
noncomputable def law0_SpoilInsns.body : Code := bodyOf Try.f25
def law0_SpoilInsns.live : Nat → List Nat
  | 0 => [0, 2, 3]
  | 2 => [0, 4]
  | _ => []
noncomputable def law0_SpoilInsns.c0 : Code := sub law0_SpoilInsns.body [1, 0, 1, 0, 0]
noncomputable def law0_SpoilInsns.c2 : Code := sub law0_SpoilInsns.body [1, 1, 1, 0, 0]
def law0_SpoilInsns.K0 (R : Value → World → Prop) : Ex → St → World → Prop := (blockK 0 (thenK (fun st w => code Try.prog none law0_SpoilInsns.live 0 (sub law0_SpoilInsns.body [1, 1]) (retK Try.prog Try.f25 R) st w) (retK Try.prog Try.f25 R)))
def law0_SpoilInsns.L0 (R : Value → World → Prop) (aA : Option Addr) (an : Nat) (ac : Nat) (fullA : Option Addr) (fulln : Nat) (fullc : Nat) (i : Int) (w : World) : Prop :=
  loopVC (fun K => code Try.prog none law0_SpoilInsns.live 0 law0_SpoilInsns.c0 K) (law0_SpoilInsns.live 0) (law0_SpoilInsns.K0 R) [(.slice aA an ac), undef, (.slice fullA fulln fullc), (.int .i64 i), undef, undef, undef, undef, undef, undef, undef, undef, undef, undef, undef, undef, undef, undef, undef, undef, undef, undef, undef, undef, undef, undef, undef, undef, undef] w
def law0_SpoilInsns.K2 (R : Value → World → Prop) : Ex → St → World → Prop := (blockK 2 (retK Try.prog Try.f25 R))
def law0_SpoilInsns.L2 (R : Value → World → Prop) (aA : Option Addr) (an : Nat) (ac : Nat) (i : Int) (w : World) : Prop :=
  loopVC (fun K => code Try.prog none law0_SpoilInsns.live 2 law0_SpoilInsns.c2 K) (law0_SpoilInsns.live 2) (law0_SpoilInsns.K2 R) [(.slice aA an ac), undef, undef, undef, (.int .i64 i), undef, undef, undef, undef, undef, undef, undef, undef, undef, undef, undef, undef, undef, undef, undef, undef, undef, undef, undef, undef, undef, undef, undef, undef] w
@[reducible] def law0_SpoilInsns.B2 (R : Value → World → Prop) (aA : Option Addr) (an : Nat) (ac : Nat) (i : Int) (w : World) : Prop :=
  ifP (decide ((i : Int) < ((an : Nat) : Int)))
    (0 ≤ (i : Int) ∧ (i : Int) < ((an : Nat) : Int) ∧ ∃ t28p : Addr, aA = some t28p ∧ storeRow (t28p.add (Int.toNat i * 4)) 0 [(.int .u16 7), (.int .u8 0), (.int .u8 0), (.int .u32 77)] w fun w_2 => law0_SpoilInsns.L2 R aA an ac (IntKind.i64.wrap (i + 1)) w_2)
    (R (.tuple #[]) w)

@[reducible] def law0_SpoilInsns.B0 (R : Value → World → Prop) (aA : Option Addr) (an : Nat) (ac : Nat) (fullA : Option Addr) (fulln : Nat) (fullc : Nat) (i : Int) (w : World) : Prop :=
  ifP (decide ((i : Int) < ((fulln : Nat) : Int)))
    (0 ≤ (i : Int) ∧ (i : Int) < ((fulln : Nat) : Int) ∧ ∃ t18p : Addr, fullA = some t18p ∧ storeRow (t18p.add (Int.toNat i * 4)) 0 [(.int .u16 7), (.int .u8 0), (.int .u8 0), (.int .u32 77)] w fun w_2 => law0_SpoilInsns.L0 R aA an ac fullA fulln fullc (IntKind.i64.wrap (i + 1)) w_2)
    (law0_SpoilInsns.L2 R aA an ac 0 w)

@[reducible] def law0_SpoilInsns.vc (R : Value → World → Prop) (aA : Option Addr) (an : Nat) (ac : Nat) (w : World) : Prop :=
  letW (w.alloc (.cells #[(.int .u16 7), (.int .u8 0), (.int .u8 0), (.int .u32 77)] 47)) fun w_2 => ∃ (v : Value) (w_3 : World), (Builtin.append_ #[39, 39] 39 #[(.slice aA an ac), (.slice (some (newA w)) 1 1)]).run Try.prog w_2 = .ok v w_3 ∧ ∃ (t8A : Option Addr) (t8n t8c : Nat), v = (.slice t8A t8n t8c) ∧ law0_SpoilInsns.L0 R aA an ac t8A t8n t8c 0 w_3

theorem law0_SpoilInsns.B0_eq (R : Value → World → Prop) (aA : Option Addr) (an : Nat) (ac : Nat) (fullA : Option Addr) (fulln : Nat) (fullc : Nat) (i : Int) (w : World) (ts : Nat → Value) :
    code Try.prog none law0_SpoilInsns.live 0 law0_SpoilInsns.c0 (thenK (fun st w => loopVC (fun K => code Try.prog none law0_SpoilInsns.live 0 law0_SpoilInsns.c0 K) (law0_SpoilInsns.live 0) (law0_SpoilInsns.K0 R) (clearFrom (law0_SpoilInsns.live 0) 0 st) w) (law0_SpoilInsns.K0 R)) (mergeFrom (law0_SpoilInsns.live 0) ts 0 (clearFrom (law0_SpoilInsns.live 0) 0 [(.slice aA an ac), undef, (.slice fullA fulln fullc), (.int .i64 i), undef, undef, undef, undef, undef, undef, undef, undef, undef, undef, undef, undef, undef, undef, undef, undef, undef, undef, undef, undef, undef, undef, undef, undef, undef])) w = law0_SpoilInsns.B0 R aA an ac fullA fulln fullc i w := by kernel_rfl
theorem law0_SpoilInsns.L0_step {R : Value → World → Prop} {aA : Option Addr} {an : Nat} {ac : Nat} {fullA : Option Addr} {fulln : Nat} {fullc : Nat} {i : Int} {w : World} (h : law0_SpoilInsns.B0 R aA an ac fullA fulln fullc i w) : law0_SpoilInsns.L0 R aA an ac fullA fulln fullc i w :=
  loop_step (live := law0_SpoilInsns.live) (b := 0) (x := law0_SpoilInsns.c0) fun ts => Eq.mpr (law0_SpoilInsns.B0_eq R aA an ac fullA fulln fullc i w ts) h
theorem law0_SpoilInsns.B2_eq (R : Value → World → Prop) (aA : Option Addr) (an : Nat) (ac : Nat) (i : Int) (w : World) (ts : Nat → Value) :
    code Try.prog none law0_SpoilInsns.live 2 law0_SpoilInsns.c2 (thenK (fun st w => loopVC (fun K => code Try.prog none law0_SpoilInsns.live 2 law0_SpoilInsns.c2 K) (law0_SpoilInsns.live 2) (law0_SpoilInsns.K2 R) (clearFrom (law0_SpoilInsns.live 2) 0 st) w) (law0_SpoilInsns.K2 R)) (mergeFrom (law0_SpoilInsns.live 2) ts 0 (clearFrom (law0_SpoilInsns.live 2) 0 [(.slice aA an ac), undef, undef, undef, (.int .i64 i), undef, undef, undef, undef, undef, undef, undef, undef, undef, undef, undef, undef, undef, undef, undef, undef, undef, undef, undef, undef, undef, undef, undef, undef])) w = law0_SpoilInsns.B2 R aA an ac i w := by kernel_rfl
theorem law0_SpoilInsns.L2_step {R : Value → World → Prop} {aA : Option Addr} {an : Nat} {ac : Nat} {i : Int} {w : World} (h : law0_SpoilInsns.B2 R aA an ac i w) : law0_SpoilInsns.L2 R aA an ac i w :=
  loop_step (live := law0_SpoilInsns.live) (b := 2) (x := law0_SpoilInsns.c2) fun ts => Eq.mpr (law0_SpoilInsns.B2_eq R aA an ac i w ts) h
theorem law0_SpoilInsns.eq (R : Value → World → Prop) (aA : Option Addr) (an : Nat) (ac : Nat) (w : World) : fnVC Try.prog none law0_SpoilInsns.live Try.f25 R [(.slice aA an ac)] w = law0_SpoilInsns.vc R aA an ac w := by kernel_rfl
set_option maxHeartbeats 4000000 in
theorem law0_SpoilInsns.ok {R : Value → World → Prop} {aA : Option Addr} {an : Nat} {ac : Nat} {w : World} (h : law0_SpoilInsns.vc R aA an ac w) : Run Try.prog 25 #[(.slice aA an ac)] w R := by
  have h2 := Eq.mpr (law0_SpoilInsns.eq R aA an ac w) h
  exact fn_sound Try.mixed Try.func25 (by kernel_rfl) h2

/-! ### riddle/riddlelaw0.SameInsns: function 26 -/
noncomputable def law0_SameInsns.body : Code := bodyOf Try.f26
def law0_SameInsns.live : Nat → List Nat
  | 0 => [0, 1, 5]
  | _ => []
noncomputable def law0_SameInsns.c0 : Code := sub law0_SameInsns.body [1, 1, 0, 1, 0, 0]
def law0_SameInsns.K0 (R : Value → World → Prop) : Ex → St → World → Prop := (blockK 0 (thenK (fun st w => code Try.prog none law0_SameInsns.live 0 (sub law0_SameInsns.body [1, 1, 1]) (retK Try.prog Try.f26 R) st w) (retK Try.prog Try.f26 R)))
def law0_SameInsns.L0 (R : Value → World → Prop) (aA : Option Addr) (an : Nat) (ac : Nat) (bA : Option Addr) (bn : Nat) (bc : Nat) (i : Int) (w : World) : Prop :=
  loopVC (fun K => code Try.prog none law0_SameInsns.live 0 law0_SameInsns.c0 K) (law0_SameInsns.live 0) (law0_SameInsns.K0 R) [(.slice aA an ac), (.slice bA bn bc), undef, undef, undef, (.int .i64 i), undef, undef, undef, undef, undef, undef, undef, undef, undef, undef, undef, undef, undef, undef, undef, undef, undef, undef, undef, undef] w
@[reducible] def law0_SameInsns.B0 (R : Value → World → Prop) (aA : Option Addr) (an : Nat) (ac : Nat) (bA : Option Addr) (bn : Nat) (bc : Nat) (i : Int) (w : World) : Prop :=
  ifP (decide ((i : Int) < ((an : Nat) : Int)))
    (∃ S_ : World → Prop, S_ w.drew ∧ letW w.drew fun w_2 => 0 ≤ (i : Int) ∧ (i : Int) < ((an : Nat) : Int) ∧ ∃ t19p : Addr, aA = some t19p ∧ ∃ t20_0 : Int, (∀ u : World, S_ u → u.cell? (t19p.add (Int.toNat i * 4)) = some (.int .u16 t20_0)) ∧ ∃ t20_1 : Int, (∀ u_2 : World, S_ u_2 → u_2.cell? ((t19p.add (Int.toNat i * 4)).add 1) = some (.int .u8 t20_1)) ∧ ∃ t20_2 : Int, (∀ u_3 : World, S_ u_3 → u_3.cell? ((t19p.add (Int.toNat i * 4)).add 2) = some (.int .u8 t20_2)) ∧ ∃ t20_3 : Int, (∀ u_4 : World, S_ u_4 → u_4.cell? ((t19p.add (Int.toNat i * 4)).add 3) = some (.int .u32 t20_3)) ∧ 0 ≤ (i : Int) ∧ (i : Int) < ((bn : Nat) : Int) ∧ ∃ t23p : Addr, bA = some t23p ∧ ∃ t24_0 : Int, (∀ u_5 : World, S_ u_5 → u_5.cell? (t23p.add (Int.toNat i * 4)) = some (.int .u16 t24_0)) ∧ ∃ t24_1 : Int, (∀ u_6 : World, S_ u_6 → u_6.cell? ((t23p.add (Int.toNat i * 4)).add 1) = some (.int .u8 t24_1)) ∧ ∃ t24_2 : Int, (∀ u_7 : World, S_ u_7 → u_7.cell? ((t23p.add (Int.toNat i * 4)).add 2) = some (.int .u8 t24_2)) ∧ ∃ t24_3 : Int, (∀ u_8 : World, S_ u_8 → u_8.cell? ((t23p.add (Int.toNat i * 4)).add 3) = some (.int .u32 t24_3)) ∧ ∃ (v : Value) (w_3 : World), (eqSem .neq 47 (.tmp 20) (.tmp 24) (.agg #[(.int .u16 t20_0), (.int .u8 t20_1), (.int .u8 t20_2), (.int .u32 t20_3)]) (.agg #[(.int .u16 t24_0), (.int .u8 t24_1), (.int .u8 t24_2), (.int .u32 t24_3)])).run Try.prog w_2 = .ok v w_3 ∧ ∃ t25 : Bool, v = (.bool t25) ∧ ifP t25
    (R (.bool false) w_3)
    (law0_SameInsns.L0 R aA an ac bA bn bc (IntKind.i64.wrap (i + 1)) w_3))
    (R (.bool true) w)

@[reducible] def law0_SameInsns.vc (R : Value → World → Prop) (aA : Option Addr) (an : Nat) (ac : Nat) (bA : Option Addr) (bn : Nat) (bc : Nat) (w : World) : Prop :=
  ifP ((((an : Nat) : Int) : Int) != ((bn : Nat) : Int))
    (R (.bool false) w)
    (law0_SameInsns.L0 R aA an ac bA bn bc 0 w)

theorem law0_SameInsns.B0_eq (R : Value → World → Prop) (aA : Option Addr) (an : Nat) (ac : Nat) (bA : Option Addr) (bn : Nat) (bc : Nat) (i : Int) (w : World) (ts : Nat → Value) :
    code Try.prog none law0_SameInsns.live 0 law0_SameInsns.c0 (thenK (fun st w => loopVC (fun K => code Try.prog none law0_SameInsns.live 0 law0_SameInsns.c0 K) (law0_SameInsns.live 0) (law0_SameInsns.K0 R) (clearFrom (law0_SameInsns.live 0) 0 st) w) (law0_SameInsns.K0 R)) (mergeFrom (law0_SameInsns.live 0) ts 0 (clearFrom (law0_SameInsns.live 0) 0 [(.slice aA an ac), (.slice bA bn bc), undef, undef, undef, (.int .i64 i), undef, undef, undef, undef, undef, undef, undef, undef, undef, undef, undef, undef, undef, undef, undef, undef, undef, undef, undef, undef])) w = law0_SameInsns.B0 R aA an ac bA bn bc i w := by kernel_rfl
theorem law0_SameInsns.L0_step {R : Value → World → Prop} {aA : Option Addr} {an : Nat} {ac : Nat} {bA : Option Addr} {bn : Nat} {bc : Nat} {i : Int} {w : World} (h : law0_SameInsns.B0 R aA an ac bA bn bc i w) : law0_SameInsns.L0 R aA an ac bA bn bc i w :=
  loop_step (live := law0_SameInsns.live) (b := 0) (x := law0_SameInsns.c0) fun ts => Eq.mpr (law0_SameInsns.B0_eq R aA an ac bA bn bc i w ts) h
theorem law0_SameInsns.eq (R : Value → World → Prop) (aA : Option Addr) (an : Nat) (ac : Nat) (bA : Option Addr) (bn : Nat) (bc : Nat) (w : World) : fnVC Try.prog none law0_SameInsns.live Try.f26 R [(.slice aA an ac), (.slice bA bn bc)] w = law0_SameInsns.vc R aA an ac bA bn bc w := by kernel_rfl
set_option maxHeartbeats 4000000 in
theorem law0_SameInsns.ok {R : Value → World → Prop} {aA : Option Addr} {an : Nat} {ac : Nat} {bA : Option Addr} {bn : Nat} {bc : Nat} {w : World} (h : law0_SameInsns.vc R aA an ac bA bn bc w) : Run Try.prog 26 #[(.slice aA an ac), (.slice bA bn bc)] w R := by
  have h2 := Eq.mpr (law0_SameInsns.eq R aA an ac bA bn bc w) h
  exact fn_sound Try.mixed Try.func26 (by kernel_rfl) h2

/-! ### riddle/riddlelaw0.KeptInsns: function 22 -/
noncomputable def law0_KeptInsns.body : Code := bodyOf Try.f22
def law0_KeptInsns.live : Nat → List Nat
  | _ => []
def law0_KeptInsns.J0 (R : Value → World → Prop) (fullA : Option Addr) (fulln : Nat) (fullc : Nat) (ok_ : Bool) (w : World) : Prop :=
  Run Try.prog 25 #[(.slice fullA fulln fullc)] w fun v w_2 => v = (.tuple #[]) ∧ R (.bool ok_) w_2

@[reducible] def law0_KeptInsns.vc (R : Value → World → Prop) (lentA : Option Addr) (lentn : Nat) (lentc : Nat) (aA : Option Addr) (an : Nat) (ac : Nat) (w : World) : Prop :=
  (0 : Int) ≤ 0 ∧ (0 : Int) ≤ IntKind.i64.wrap (((lentn : Nat) : Int) + 3) ∧ (IntKind.i64.wrap (((lentn : Nat) : Int) + 3) : Int) ≤ ((lentc : Nat) : Int) ∧ Run Try.prog 26 #[(.slice lentA lentn lentc), (.slice aA an ac)] w fun v w_2 => ∃ t14 : Bool, v = (.bool t14) ∧ ifP t14 ((0 : Int) ≤ ((an : Nat) : Int) ∧ (((an : Nat) : Int) : Int) ≤ (((Int.toNat (IntKind.i64.wrap (((lentn : Nat) : Int) + 3))) - 0 : Nat) : Int) ∧ ((((Int.toNat (IntKind.i64.wrap (((lentn : Nat) : Int) + 3))) - 0 : Nat) : Int) : Int) ≤ ((lentc - 0 : Nat) : Int) ∧ letW (w_2.alloc (.cells #[(.int .u16 7), (.int .u8 0), (.int .u8 0), (.int .u32 77), (.int .u16 7), (.int .u8 0), (.int .u8 0), (.int .u32 77), (.int .u16 7), (.int .u8 0), (.int .u8 0), (.int .u32 77)] 47)) fun w_3 => Run Try.prog 26 #[(.slice (subA (subA lentA lentc 0 4) (lentc - 0) (Int.toNat ((an : Nat) : Int)) 4) (((Int.toNat (IntKind.i64.wrap (((lentn : Nat) : Int) + 3))) - 0) - (Int.toNat ((an : Nat) : Int))) ((lentc - 0) - (Int.toNat ((an : Nat) : Int)))), (.slice (some (newA w_2)) 3 3)] w_3 fun v_2 w_4 => ∃ t24 : Bool, v_2 = (.bool t24) ∧ law0_KeptInsns.J0 R (subA lentA lentc 0 4) ((Int.toNat (IntKind.i64.wrap (((lentn : Nat) : Int) + 3))) - 0) (lentc - 0) t24 w_4) (law0_KeptInsns.J0 R (subA lentA lentc 0 4) ((Int.toNat (IntKind.i64.wrap (((lentn : Nat) : Int) + 3))) - 0) (lentc - 0) false w_2)

theorem law0_KeptInsns.eq (R : Value → World → Prop) (lentA : Option Addr) (lentn : Nat) (lentc : Nat) (aA : Option Addr) (an : Nat) (ac : Nat) (w : World) : fnVC Try.prog none law0_KeptInsns.live Try.f22 R [(.slice lentA lentn lentc), (.slice aA an ac)] w = law0_KeptInsns.vc R lentA lentn lentc aA an ac w := by kernel_rfl
set_option maxHeartbeats 4000000 in
theorem law0_KeptInsns.ok {R : Value → World → Prop} {lentA : Option Addr} {lentn : Nat} {lentc : Nat} {aA : Option Addr} {an : Nat} {ac : Nat} {w : World} (h : law0_KeptInsns.vc R lentA lentn lentc aA an ac w) : Run Try.prog 22 #[(.slice lentA lentn lentc), (.slice aA an ac)] w R := by
  have h2 := Eq.mpr (law0_KeptInsns.eq R lentA lentn lentc aA an ac w) h
  exact fn_sound Try.mixed Try.func22 (by kernel_rfl) h2

/-! ### riddle/riddlelaw0.SameBlocks: function 24 -/
noncomputable def law0_SameBlocks.body : Code := bodyOf Try.f24
def law0_SameBlocks.live : Nat → List Nat
  | 0 => [0, 1, 5]
  | _ => []
noncomputable def law0_SameBlocks.c0 : Code := sub law0_SameBlocks.body [1, 1, 0, 1, 0, 0]
def law0_SameBlocks.K0 (R : Value → World → Prop) : Ex → St → World → Prop := (blockK 0 (thenK (fun st w => code Try.prog none law0_SameBlocks.live 0 (sub law0_SameBlocks.body [1, 1, 1]) (retK Try.prog Try.f24 R) st w) (retK Try.prog Try.f24 R)))
def law0_SameBlocks.L0 (R : Value → World → Prop) (aA : Option Addr) (an : Nat) (ac : Nat) (bA : Option Addr) (bn : Nat) (bc : Nat) (i : Int) (w : World) : Prop :=
  loopVC (fun K => code Try.prog none law0_SameBlocks.live 0 law0_SameBlocks.c0 K) (law0_SameBlocks.live 0) (law0_SameBlocks.K0 R) [(.slice aA an ac), (.slice bA bn bc), undef, undef, undef, (.int .i64 i), undef, undef, undef, undef, undef, undef, undef, undef, undef, undef, undef, undef, undef, undef, undef, undef, undef, undef, undef, undef, undef, undef, undef, undef, undef, undef, undef, undef, undef, undef, undef, undef, undef, undef, undef, undef, undef, undef, undef, undef, undef, undef, undef, undef, undef, undef, undef, undef, undef, undef, undef, undef, undef, undef, undef, undef, undef, undef, undef, undef, undef, undef, undef, undef, undef, undef, undef, undef, undef, undef, undef, undef, undef, undef, undef] w
def law0_SameBlocks.J0 (R : Value → World → Prop) (aA : Option Addr) (an : Nat) (ac : Nat) (bA : Option Addr) (bn : Nat) (bc : Nat) (i : Int) (t80 : Bool) (w : World) : Prop :=
  ifP t80
    (R (.bool false) w)
    (law0_SameBlocks.L0 R aA an ac bA bn bc (IntKind.i64.wrap (i + 1)) w)

@[reducible] def law0_SameBlocks.B0 (R : Value → World → Prop) (aA : Option Addr) (an : Nat) (ac : Nat) (bA : Option Addr) (bn : Nat) (bc : Nat) (i : Int) (w : World) : Prop :=
  ifP (decide ((i : Int) < ((an : Nat) : Int)))
    (∃ S_ : World → Prop, S_ w.drew ∧ letW w.drew fun w_2 => 0 ≤ (i : Int) ∧ (i : Int) < ((an : Nat) : Int) ∧ ∃ t19p : Addr, aA = some t19p ∧ ∃ t21 : Int, (∀ u : World, S_ u → u.cell? ((t19p.add (Int.toNat i * 8)).add 1) = some (.int .i64 t21)) ∧ 0 ≤ (i : Int) ∧ (i : Int) < ((bn : Nat) : Int) ∧ ∃ t24p : Addr, bA = some t24p ∧ ∃ t26 : Int, (∀ u_2 : World, S_ u_2 → u_2.cell? ((t24p.add (Int.toNat i * 8)).add 1) = some (.int .i64 t26)) ∧ ifP ((t21 : Int) != t26) (law0_SameBlocks.J0 R aA an ac bA bn bc i true w_2) (0 ≤ (i : Int) ∧ (i : Int) < ((an : Nat) : Int) ∧ ∃ t31p : Addr, aA = some t31p ∧ ∃ t33_0 : Int, (∀ u_3 : World, S_ u_3 → u_3.cell? ((t31p.add (Int.toNat i * 8)).add 2) = some (.int .u16 t33_0)) ∧ ∃ t33_1 : Int, (∀ u_4 : World, S_ u_4 → u_4.cell? (((t31p.add (Int.toNat i * 8)).add 2).add 1) = some (.int .u8 t33_1)) ∧ ∃ t33_2 : Int, (∀ u_5 : World, S_ u_5 → u_5.cell? (((t31p.add (Int.toNat i * 8)).add 2).add 2) = some (.int .u8 t33_2)) ∧ ∃ t33_3 : Int, (∀ u_6 : World, S_ u_6 → u_6.cell? (((t31p.add (Int.toNat i * 8)).add 2).add 3) = some (.int .u32 t33_3)) ∧ 0 ≤ (i : Int) ∧ (i : Int) < ((bn : Nat) : Int) ∧ ∃ t36p : Addr, bA = some t36p ∧ ∃ t38_0 : Int, (∀ u_7 : World, S_ u_7 → u_7.cell? ((t36p.add (Int.toNat i * 8)).add 2) = some (.int .u16 t38_0)) ∧ ∃ t38_1 : Int, (∀ u_8 : World, S_ u_8 → u_8.cell? (((t36p.add (Int.toNat i * 8)).add 2).add 1) = some (.int .u8 t38_1)) ∧ ∃ t38_2 : Int, (∀ u_9 : World, S_ u_9 → u_9.cell? (((t36p.add (Int.toNat i * 8)).add 2).add 2) = some (.int .u8 t38_2)) ∧ ∃ t38_3 : Int, (∀ u_10 : World, S_ u_10 → u_10.cell? (((t36p.add (Int.toNat i * 8)).add 2).add 3) = some (.int .u32 t38_3)) ∧ ∃ (v : Value) (w_3 : World), (eqSem .neq 47 (.tmp 33) (.tmp 38) (.agg #[(.int .u16 t33_0), (.int .u8 t33_1), (.int .u8 t33_2), (.int .u32 t33_3)]) (.agg #[(.int .u16 t38_0), (.int .u8 t38_1), (.int .u8 t38_2), (.int .u32 t38_3)])).run Try.prog w_2 = .ok v w_3 ∧ ∃ t39 : Bool, v = (.bool t39) ∧ S_ w_3 ∧ ifP t39 (law0_SameBlocks.J0 R aA an ac bA bn bc i true w_3) (0 ≤ (i : Int) ∧ (i : Int) < ((an : Nat) : Int) ∧ ∃ t44p : Addr, aA = some t44p ∧ ∃ t46 : Int, (∀ u_11 : World, S_ u_11 → u_11.cell? ((t44p.add (Int.toNat i * 8)).add 6) = some (.int .i64 t46)) ∧ 0 ≤ (i : Int) ∧ (i : Int) < ((bn : Nat) : Int) ∧ ∃ t49p : Addr, bA = some t49p ∧ ∃ t51 : Int, (∀ u_12 : World, S_ u_12 → u_12.cell? ((t49p.add (Int.toNat i * 8)).add 6) = some (.int .i64 t51)) ∧ ifP ((t46 : Int) != t51) (law0_SameBlocks.J0 R aA an ac bA bn bc i true w_3) (0 ≤ (i : Int) ∧ (i : Int) < ((an : Nat) : Int) ∧ ∃ t57p : Addr, aA = some t57p ∧ ∃ t59 : Int, (∀ u_13 : World, S_ u_13 → u_13.cell? ((t57p.add (Int.toNat i * 8)).add 7) = some (.int .i64 t59)) ∧ 0 ≤ (i : Int) ∧ (i : Int) < ((bn : Nat) : Int) ∧ ∃ t62p : Addr, bA = some t62p ∧ ∃ t64 : Int, (∀ u_14 : World, S_ u_14 → u_14.cell? ((t62p.add (Int.toNat i * 8)).add 7) = some (.int .i64 t64)) ∧ ifP ((t59 : Int) != t64) (law0_SameBlocks.J0 R aA an ac bA bn bc i true w_3) (0 ≤ (i : Int) ∧ (i : Int) < ((an : Nat) : Int) ∧ ∃ t70p : Addr, aA = some t70p ∧ ∃ (t72A : Option Addr) (t72n t72c : Nat), (∀ u_15 : World, S_ u_15 → u_15.cell? (t70p.add (Int.toNat i * 8)) = some (.slice t72A t72n t72c)) ∧ 0 ≤ (i : Int) ∧ (i : Int) < ((bn : Nat) : Int) ∧ ∃ t75p : Addr, bA = some t75p ∧ ∃ (t77A : Option Addr) (t77n t77c : Nat), (∀ u_16 : World, S_ u_16 → u_16.cell? (t75p.add (Int.toNat i * 8)) = some (.slice t77A t77n t77c)) ∧ Run Try.prog 26 #[(.slice t72A t72n t72c), (.slice t77A t77n t77c)] w_3 fun v_2 w_4 => ∃ t78 : Bool, v_2 = (.bool t78) ∧ law0_SameBlocks.J0 R aA an ac bA bn bc i (!t78) w_4)))))
    (R (.bool true) w)

@[reducible] def law0_SameBlocks.vc (R : Value → World → Prop) (aA : Option Addr) (an : Nat) (ac : Nat) (bA : Option Addr) (bn : Nat) (bc : Nat) (w : World) : Prop :=
  ifP ((((an : Nat) : Int) : Int) != ((bn : Nat) : Int))
    (R (.bool false) w)
    (law0_SameBlocks.L0 R aA an ac bA bn bc 0 w)

theorem law0_SameBlocks.B0_eq (R : Value → World → Prop) (aA : Option Addr) (an : Nat) (ac : Nat) (bA : Option Addr) (bn : Nat) (bc : Nat) (i : Int) (w : World) (ts : Nat → Value) :
    code Try.prog none law0_SameBlocks.live 0 law0_SameBlocks.c0 (thenK (fun st w => loopVC (fun K => code Try.prog none law0_SameBlocks.live 0 law0_SameBlocks.c0 K) (law0_SameBlocks.live 0) (law0_SameBlocks.K0 R) (clearFrom (law0_SameBlocks.live 0) 0 st) w) (law0_SameBlocks.K0 R)) (mergeFrom (law0_SameBlocks.live 0) ts 0 (clearFrom (law0_SameBlocks.live 0) 0 [(.slice aA an ac), (.slice bA bn bc), undef, undef, undef, (.int .i64 i), undef, undef, undef, undef, undef, undef, undef, undef, undef, undef, undef, undef, undef, undef, undef, undef, undef, undef, undef, undef, undef, undef, undef, undef, undef, undef, undef, undef, undef, undef, undef, undef, undef, undef, undef, undef, undef, undef, undef, undef, undef, undef, undef, undef, undef, undef, undef, undef, undef, undef, undef, undef, undef, undef, undef, undef, undef, undef, undef, undef, undef, undef, undef, undef, undef, undef, undef, undef, undef, undef, undef, undef, undef, undef, undef])) w = law0_SameBlocks.B0 R aA an ac bA bn bc i w := by kernel_rfl
theorem law0_SameBlocks.L0_step {R : Value → World → Prop} {aA : Option Addr} {an : Nat} {ac : Nat} {bA : Option Addr} {bn : Nat} {bc : Nat} {i : Int} {w : World} (h : law0_SameBlocks.B0 R aA an ac bA bn bc i w) : law0_SameBlocks.L0 R aA an ac bA bn bc i w :=
  loop_step (live := law0_SameBlocks.live) (b := 0) (x := law0_SameBlocks.c0) fun ts => Eq.mpr (law0_SameBlocks.B0_eq R aA an ac bA bn bc i w ts) h
theorem law0_SameBlocks.eq (R : Value → World → Prop) (aA : Option Addr) (an : Nat) (ac : Nat) (bA : Option Addr) (bn : Nat) (bc : Nat) (w : World) : fnVC Try.prog none law0_SameBlocks.live Try.f24 R [(.slice aA an ac), (.slice bA bn bc)] w = law0_SameBlocks.vc R aA an ac bA bn bc w := by kernel_rfl
set_option maxHeartbeats 4000000 in
theorem law0_SameBlocks.ok {R : Value → World → Prop} {aA : Option Addr} {an : Nat} {ac : Nat} {bA : Option Addr} {bn : Nat} {bc : Nat} {w : World} (h : law0_SameBlocks.vc R aA an ac bA bn bc w) : Run Try.prog 24 #[(.slice aA an ac), (.slice bA bn bc)] w R := by
  have h2 := Eq.mpr (law0_SameBlocks.eq R aA an ac bA bn bc w) h
  exact fn_sound Try.mixed Try.func24 (by kernel_rfl) h2

/-! ### riddle/riddlelaw0.KeptBlocks: function 13 -/
noncomputable def law0_KeptBlocks.body : Code := bodyOf Try.f13
def law0_KeptBlocks.live : Nat → List Nat
  | 0 => [0, 1, 5, 6, 7]
  | 2 => [5, 6, 8]
  | _ => []
noncomputable def law0_KeptBlocks.c0 : Code := sub law0_KeptBlocks.body [1, 1, 1, 0, 1, 0, 0]
noncomputable def law0_KeptBlocks.c2 : Code := sub law0_KeptBlocks.body [1, 1, 1, 1, 0, 1, 0, 0]
def law0_KeptBlocks.K0 (R : Value → World → Prop) : Ex → St → World → Prop := (blockK 0 (thenK (fun st w => code Try.prog none law0_KeptBlocks.live 0 (sub law0_KeptBlocks.body [1, 1, 1, 1]) (retK Try.prog Try.f13 R) st w) (retK Try.prog Try.f13 R)))
def law0_KeptBlocks.L0 (R : Value → World → Prop) (lentA : Option Addr) (lentn : Nat) (lentc : Nat) (aA : Option Addr) (an : Nat) (ac : Nat) (fullA : Option Addr) (fulln : Nat) (fullc : Nat) (ok_ : Bool) (i : Int) (w : World) : Prop :=
  loopVC (fun K => code Try.prog none law0_KeptBlocks.live 0 law0_KeptBlocks.c0 K) (law0_KeptBlocks.live 0) (law0_KeptBlocks.K0 R) [(.slice lentA lentn lentc), (.slice aA an ac), undef, undef, undef, (.slice fullA fulln fullc), (.bool ok_), (.int .i64 i), undef, undef, undef, undef, undef, undef, undef, undef, undef, undef, undef, undef, undef, undef, undef, undef, undef, undef, undef, undef, undef, undef, undef, undef, undef, undef, undef, undef, undef, undef, undef, undef, undef, undef, undef, undef, undef, undef, undef, undef, undef, undef, undef, undef, undef, undef, undef, undef, undef, undef, undef, undef, undef, undef, undef, undef, undef, undef, undef] w
def law0_KeptBlocks.K2 (R : Value → World → Prop) : Ex → St → World → Prop := (blockK 2 (thenK (fun st w => code Try.prog none law0_KeptBlocks.live 0 (sub law0_KeptBlocks.body [1, 1, 1, 1, 1]) (retK Try.prog Try.f13 R) st w) (retK Try.prog Try.f13 R)))
def law0_KeptBlocks.L2 (R : Value → World → Prop) (fullA : Option Addr) (fulln : Nat) (fullc : Nat) (ok_ : Bool) (i : Int) (w : World) : Prop :=
  loopVC (fun K => code Try.prog none law0_KeptBlocks.live 2 law0_KeptBlocks.c2 K) (law0_KeptBlocks.live 2) (law0_KeptBlocks.K2 R) [undef, undef, undef, undef, undef, (.slice fullA fulln fullc), (.bool ok_), undef, (.int .i64 i), undef, undef, undef, undef, undef, undef, undef, undef, undef, undef, undef, undef, undef, undef, undef, undef, undef, undef, undef, undef, undef, undef, undef, undef, undef, undef, undef, undef, undef, undef, undef, undef, undef, undef, undef, undef, undef, undef, undef, undef, undef, undef, undef, undef, undef, undef, undef, undef, undef, undef, undef, undef, undef, undef, undef, undef, undef, undef] w
def law0_KeptBlocks.J1 (R : Value → World → Prop) (lentA : Option Addr) (lentn : Nat) (lentc : Nat) (aA : Option Addr) (an : Nat) (ac : Nat) (fullA : Option Addr) (fulln : Nat) (fullc : Nat) (ok_ : Bool) (i : Int) (w : World) : Prop :=
  law0_KeptBlocks.L0 R lentA lentn lentc aA an ac fullA fulln fullc ok_ (IntKind.i64.wrap (i + 1)) w

@[reducible] def law0_KeptBlocks.B2 (R : Value → World → Prop) (fullA : Option Addr) (fulln : Nat) (fullc : Nat) (ok_ : Bool) (i : Int) (w : World) : Prop :=
  ifP (decide ((i : Int) < ((fulln : Nat) : Int)))
    (0 ≤ (i : Int) ∧ (i : Int) < ((fulln : Nat) : Int) ∧ ∃ t65p : Addr, fullA = some t65p ∧ storeRow (t65p.add (Int.toNat i * 8)) 0 [(.slice none 0 0), (.int .i64 (-7)), (.int .u16 0), (.int .u8 0), (.int .u8 0), (.int .u32 0), (.int .i64 7), (.int .i64 0)] w fun w_2 => law0_KeptBlocks.L2 R fullA fulln fullc ok_ (IntKind.i64.wrap (i + 1)) w_2)
    (R (.bool ok_) w)

@[reducible] def law0_KeptBlocks.B0 (R : Value → World → Prop) (lentA : Option Addr) (lentn : Nat) (lentc : Nat) (aA : Option Addr) (an : Nat) (ac : Nat) (fullA : Option Addr) (fulln : Nat) (fullc : Nat) (ok_ : Bool) (i : Int) (w : World) : Prop :=
  ifP (decide ((i : Int) < ((an : Nat) : Int)))
    (∃ S_ : World → Prop, S_ w.drew ∧ letW w.drew fun w_2 => 0 ≤ (i : Int) ∧ (i : Int) < ((lentn : Nat) : Int) ∧ ∃ t44p : Addr, lentA = some t44p ∧ ∃ (t46A : Option Addr) (t46n t46c : Nat), (∀ u : World, S_ u → u.cell? (t44p.add (Int.toNat i * 8)) = some (.slice t46A t46n t46c)) ∧ 0 ≤ (i : Int) ∧ (i : Int) < ((an : Nat) : Int) ∧ ∃ t49p : Addr, aA = some t49p ∧ ∃ (t51A : Option Addr) (t51n t51c : Nat), (∀ u_2 : World, S_ u_2 → u_2.cell? (t49p.add (Int.toNat i * 8)) = some (.slice t51A t51n t51c)) ∧ Run Try.prog 22 #[(.slice t46A t46n t46c), (.slice t51A t51n t51c)] w_2 fun v w_3 => ∃ t52 : Bool, v = (.bool t52) ∧ ifP t52 (law0_KeptBlocks.J1 R lentA lentn lentc aA an ac fullA fulln fullc ok_ i w_3) (law0_KeptBlocks.J1 R lentA lentn lentc aA an ac fullA fulln fullc false i w_3))
    (law0_KeptBlocks.L2 R fullA fulln fullc ok_ 0 w)

def law0_KeptBlocks.J0 (R : Value → World → Prop) (lentA : Option Addr) (lentn : Nat) (lentc : Nat) (aA : Option Addr) (an : Nat) (ac : Nat) (fullA : Option Addr) (fulln : Nat) (fullc : Nat) (ok_ : Bool) (w : World) : Prop :=
  law0_KeptBlocks.L0 R lentA lentn lentc aA an ac fullA fulln fullc ok_ 0 w

@[reducible] def law0_KeptBlocks.vc (R : Value → World → Prop) (lentA : Option Addr) (lentn : Nat) (lentc : Nat) (aA : Option Addr) (an : Nat) (ac : Nat) (w : World) : Prop :=
  (0 : Int) ≤ 0 ∧ (0 : Int) ≤ IntKind.i64.wrap (((lentn : Nat) : Int) + 2) ∧ (IntKind.i64.wrap (((lentn : Nat) : Int) + 2) : Int) ≤ ((lentc : Nat) : Int) ∧ Run Try.prog 24 #[(.slice lentA lentn lentc), (.slice aA an ac)] w fun v w_2 => ∃ t16 : Bool, v = (.bool t16) ∧ ifP t16 (0 ≤ (((an : Nat) : Int) : Int) ∧ (((an : Nat) : Int) : Int) < (((Int.toNat (IntKind.i64.wrap (((lentn : Nat) : Int) + 2))) - 0 : Nat) : Int) ∧ ∃ t21p : Addr, subA lentA lentc 0 8 = some t21p ∧ ∃ t23 : Int, w_2.cell? ((t21p.add (Int.toNat ((an : Nat) : Int) * 8)).add 1) = some (.int .i64 t23) ∧ ifP ((t23 : Int) == 77) (0 ≤ (IntKind.i64.wrap (((an : Nat) : Int) + 1) : Int) ∧ (IntKind.i64.wrap (((an : Nat) : Int) + 1) : Int) < (((Int.toNat (IntKind.i64.wrap (((lentn : Nat) : Int) + 2))) - 0 : Nat) : Int) ∧ ∃ t31p : Addr, subA lentA lentc 0 8 = some t31p ∧ ∃ t33 : Int, w_2.cell? ((t31p.add (Int.toNat (IntKind.i64.wrap (((an : Nat) : Int) + 1)) * 8)).add 1) = some (.int .i64 t33) ∧ law0_KeptBlocks.J0 R lentA lentn lentc aA an ac (subA lentA lentc 0 8) ((Int.toNat (IntKind.i64.wrap (((lentn : Nat) : Int) + 2))) - 0) (lentc - 0) ((t33 : Int) == 77) w_2) (law0_KeptBlocks.J0 R lentA lentn lentc aA an ac (subA lentA lentc 0 8) ((Int.toNat (IntKind.i64.wrap (((lentn : Nat) : Int) + 2))) - 0) (lentc - 0) false w_2)) (law0_KeptBlocks.J0 R lentA lentn lentc aA an ac (subA lentA lentc 0 8) ((Int.toNat (IntKind.i64.wrap (((lentn : Nat) : Int) + 2))) - 0) (lentc - 0) false w_2)

theorem law0_KeptBlocks.B0_eq (R : Value → World → Prop) (lentA : Option Addr) (lentn : Nat) (lentc : Nat) (aA : Option Addr) (an : Nat) (ac : Nat) (fullA : Option Addr) (fulln : Nat) (fullc : Nat) (ok_ : Bool) (i : Int) (w : World) (ts : Nat → Value) :
    code Try.prog none law0_KeptBlocks.live 0 law0_KeptBlocks.c0 (thenK (fun st w => loopVC (fun K => code Try.prog none law0_KeptBlocks.live 0 law0_KeptBlocks.c0 K) (law0_KeptBlocks.live 0) (law0_KeptBlocks.K0 R) (clearFrom (law0_KeptBlocks.live 0) 0 st) w) (law0_KeptBlocks.K0 R)) (mergeFrom (law0_KeptBlocks.live 0) ts 0 (clearFrom (law0_KeptBlocks.live 0) 0 [(.slice lentA lentn lentc), (.slice aA an ac), undef, undef, undef, (.slice fullA fulln fullc), (.bool ok_), (.int .i64 i), undef, undef, undef, undef, undef, undef, undef, undef, undef, undef, undef, undef, undef, undef, undef, undef, undef, undef, undef, undef, undef, undef, undef, undef, undef, undef, undef, undef, undef, undef, undef, undef, undef, undef, undef, undef, undef, undef, undef, undef, undef, undef, undef, undef, undef, undef, undef, undef, undef, undef, undef, undef, undef, undef, undef, undef, undef, undef, undef])) w = law0_KeptBlocks.B0 R lentA lentn lentc aA an ac fullA fulln fullc ok_ i w := by kernel_rfl
theorem law0_KeptBlocks.L0_step {R : Value → World → Prop} {lentA : Option Addr} {lentn : Nat} {lentc : Nat} {aA : Option Addr} {an : Nat} {ac : Nat} {fullA : Option Addr} {fulln : Nat} {fullc : Nat} {ok_ : Bool} {i : Int} {w : World} (h : law0_KeptBlocks.B0 R lentA lentn lentc aA an ac fullA fulln fullc ok_ i w) : law0_KeptBlocks.L0 R lentA lentn lentc aA an ac fullA fulln fullc ok_ i w :=
  loop_step (live := law0_KeptBlocks.live) (b := 0) (x := law0_KeptBlocks.c0) fun ts => Eq.mpr (law0_KeptBlocks.B0_eq R lentA lentn lentc aA an ac fullA fulln fullc ok_ i w ts) h
theorem law0_KeptBlocks.B2_eq (R : Value → World → Prop) (fullA : Option Addr) (fulln : Nat) (fullc : Nat) (ok_ : Bool) (i : Int) (w : World) (ts : Nat → Value) :
    code Try.prog none law0_KeptBlocks.live 2 law0_KeptBlocks.c2 (thenK (fun st w => loopVC (fun K => code Try.prog none law0_KeptBlocks.live 2 law0_KeptBlocks.c2 K) (law0_KeptBlocks.live 2) (law0_KeptBlocks.K2 R) (clearFrom (law0_KeptBlocks.live 2) 0 st) w) (law0_KeptBlocks.K2 R)) (mergeFrom (law0_KeptBlocks.live 2) ts 0 (clearFrom (law0_KeptBlocks.live 2) 0 [undef, undef, undef, undef, undef, (.slice fullA fulln fullc), (.bool ok_), undef, (.int .i64 i), undef, undef, undef, undef, undef, undef, undef, undef, undef, undef, undef, undef, undef, undef, undef, undef, undef, undef, undef, undef, undef, undef, undef, undef, undef, undef, undef, undef, undef, undef, undef, undef, undef, undef, undef, undef, undef, undef, undef, undef, undef, undef, undef, undef, undef, undef, undef, undef, undef, undef, undef, undef, undef, undef, undef, undef, undef, undef])) w = law0_KeptBlocks.B2 R fullA fulln fullc ok_ i w := by kernel_rfl
theorem law0_KeptBlocks.L2_step {R : Value → World → Prop} {fullA : Option Addr} {fulln : Nat} {fullc : Nat} {ok_ : Bool} {i : Int} {w : World} (h : law0_KeptBlocks.B2 R fullA fulln fullc ok_ i w) : law0_KeptBlocks.L2 R fullA fulln fullc ok_ i w :=
  loop_step (live := law0_KeptBlocks.live) (b := 2) (x := law0_KeptBlocks.c2) fun ts => Eq.mpr (law0_KeptBlocks.B2_eq R fullA fulln fullc ok_ i w ts) h
theorem law0_KeptBlocks.eq (R : Value → World → Prop) (lentA : Option Addr) (lentn : Nat) (lentc : Nat) (aA : Option Addr) (an : Nat) (ac : Nat) (w : World) : fnVC Try.prog none law0_KeptBlocks.live Try.f13 R [(.slice lentA lentn lentc), (.slice aA an ac)] w = law0_KeptBlocks.vc R lentA lentn lentc aA an ac w := by kernel_rfl
set_option maxHeartbeats 4000000 in
theorem law0_KeptBlocks.ok {R : Value → World → Prop} {lentA : Option Addr} {lentn : Nat} {lentc : Nat} {aA : Option Addr} {an : Nat} {ac : Nat} {w : World} (h : law0_KeptBlocks.vc R lentA lentn lentc aA an ac w) : Run Try.prog 13 #[(.slice lentA lentn lentc), (.slice aA an ac)] w R := by
  have h2 := Eq.mpr (law0_KeptBlocks.eq R lentA lentn lentc aA an ac w) h
  exact fn_sound Try.mixed Try.func13 (by kernel_rfl) h2

/-! ### riddle/graph.taken: function 48 -/
noncomputable def graph_taken.body : Code := bodyOf Try.f48
def graph_taken.live : Nat → List Nat
  | _ => []
@[reducible] def graph_taken.vc (R : Value → World → Prop) (gA : Option Addr) (gn : Nat) (gc : Nat) (w : World) : Prop :=
  Run Try.prog 12 #[(.slice gA gn gc)] w fun v w_2 => ∃ t70 : Int, ∃ t71 : Int, v = (.tuple #[(.int .i64 t70), (.int .i64 t71)]) ∧ ifP ((t71 : Int) != 0)
    (R (.int .i64 155) w_2)
    (R (.int .i64 0) w_2)

theorem graph_taken.eq (R : Value → World → Prop) (gA : Option Addr) (gn : Nat) (gc : Nat) (w : World) : fnVC Try.prog none graph_taken.live Try.f48 R [(.slice gA gn gc)] w = graph_taken.vc R gA gn gc w := by kernel_rfl
set_option maxHeartbeats 4000000 in
theorem graph_taken.ok {R : Value → World → Prop} {gA : Option Addr} {gn : Nat} {gc : Nat} {w : World} (h : graph_taken.vc R gA gn gc w) : Run Try.prog 48 #[(.slice gA gn gc)] w R := by
  have h2 := Eq.mpr (graph_taken.eq R gA gn gc w) h
  exact fn_sound Try.mixed Try.func48 (by kernel_rfl) h2

/-! ### (*riddle/machine.Machine).ldImm: function 78 -/
noncomputable def machine_Machine_ldImm.body : Code := bodyOf Try.f78
def machine_Machine_ldImm.live : Nat → List Nat
  | _ => []
@[reducible] def machine_Machine_ldImm.vc (R : Value → World → Prop) (m : Option Addr) (i_0 : Int) (i_1 : Int) (i_2 : Int) (i_3 : Int) (w : World) : Prop :=
  letW (w.alloc (.cells #[(.int .u16 i_0), (.int .u8 i_1), (.int .u8 i_2), (.int .u32 i_3)] 47)) fun w_2 => ∃ t6 : Int, w_2.cell? ((newA w).add 3) = some (.int .u32 t6) ∧ ∃ t7p : Addr, m = some t7p ∧ (∃ u : Value, w_2.cell? t7p = some u) ∧ w_2.frozen? t7p = false ∧ letW (w_2.setCell t7p (.int .u32 t6)) fun w_3 => R (.tuple #[]) w_3

theorem machine_Machine_ldImm.eq (R : Value → World → Prop) (m : Option Addr) (i_0 : Int) (i_1 : Int) (i_2 : Int) (i_3 : Int) (w : World) : fnVC Try.prog none machine_Machine_ldImm.live Try.f78 R [(.pointer m), (.agg #[(.int .u16 i_0), (.int .u8 i_1), (.int .u8 i_2), (.int .u32 i_3)])] w = machine_Machine_ldImm.vc R m i_0 i_1 i_2 i_3 w := by kernel_rfl
set_option maxHeartbeats 4000000 in
theorem machine_Machine_ldImm.ok {R : Value → World → Prop} {m : Option Addr} {i_0 : Int} {i_1 : Int} {i_2 : Int} {i_3 : Int} {w : World} (h : machine_Machine_ldImm.vc R m i_0 i_1 i_2 i_3 w) : Run Try.prog 78 #[(.pointer m), (.agg #[(.int .u16 i_0), (.int .u8 i_1), (.int .u8 i_2), (.int .u32 i_3)])] w R := by
  have h2 := Eq.mpr (machine_Machine_ldImm.eq R m i_0 i_1 i_2 i_3 w) h
  exact fn_sound Try.mixed Try.func78 (by kernel_rfl) h2

/-! ### riddle/word.fits: function 127 -/
noncomputable def word_fits.body : Code := bodyOf Try.f127
def word_fits.live : Nat → List Nat
  | _ => []
def word_fits.J0 (R : Value → World → Prop) (t6 : Bool) (w : World) : Prop :=
  R (.bool t6) w

@[reducible] def word_fits.vc (R : Value → World → Prop) (n : Int) (at_ : Int) (size : Int) (w : World) : Prop :=
  ifP ((size : Int) == 1) (ifP (decide ((at_ : Int) ≥ 0)) (word_fits.J0 R (decide ((at_ : Int) ≤ (IntKind.i64.wrap (n - size)))) w) (word_fits.J0 R false w)) (ifP ((size : Int) == 2) (ifP (decide ((at_ : Int) ≥ 0)) (word_fits.J0 R (decide ((at_ : Int) ≤ (IntKind.i64.wrap (n - size)))) w) (word_fits.J0 R false w)) (ifP ((size : Int) == 4) (ifP (decide ((at_ : Int) ≥ 0)) (word_fits.J0 R (decide ((at_ : Int) ≤ (IntKind.i64.wrap (n - size)))) w) (word_fits.J0 R false w)) (word_fits.J0 R false w)))

theorem word_fits.eq (R : Value → World → Prop) (n : Int) (at_ : Int) (size : Int) (w : World) : fnVC Try.prog none word_fits.live Try.f127 R [(.int .i64 n), (.int .i64 at_), (.int .i64 size)] w = word_fits.vc R n at_ size w := by kernel_rfl
set_option maxHeartbeats 4000000 in
theorem word_fits.ok {R : Value → World → Prop} {n : Int} {at_ : Int} {size : Int} {w : World} (h : word_fits.vc R n at_ size w) : Run Try.prog 127 #[(.int .i64 n), (.int .i64 at_), (.int .i64 size)] w R := by
  have h2 := Eq.mpr (word_fits.eq R n at_ size w) h
  exact fn_sound Try.mixed Try.func127 (by kernel_rfl) h2

/-! ### riddle/word.Get: function 126 -/
noncomputable def word_Get.body : Code := bodyOf Try.f126
def word_Get.live : Nat → List Nat
  | 0 => [8, 22, 23, 24]
  | _ => []
noncomputable def word_Get.c0 : Code := sub word_Get.body [1, 1, 1, 0, 1, 0, 0]
def word_Get.K0 (R : Value → World → Prop) : Ex → St → World → Prop := (blockK 0 (thenK (fun st w => code Try.prog none word_Get.live 0 (sub word_Get.body [1, 1, 1, 1]) (retK Try.prog Try.f126 R) st w) (retK Try.prog Try.f126 R)))
def word_Get.L0 (R : Value → World → Prop) (v : Int) (t22A : Option Addr) (t22n : Nat) (t22c : Nat) (t23 : Int) (t24 : Int) (w : World) : Prop :=
  loopVC (fun K => code Try.prog none word_Get.live 0 word_Get.c0 K) (word_Get.live 0) (word_Get.K0 R) [undef, undef, undef, undef, undef, undef, undef, undef, (.int .u32 v), undef, undef, undef, undef, undef, undef, undef, undef, undef, undef, undef, undef, undef, (.slice t22A t22n t22c), (.int .i64 t23), (.int .i64 t24), undef, undef, undef, undef, undef, undef, undef, undef, undef, undef] w
@[reducible] def word_Get.B0 (R : Value → World → Prop) (v : Int) (t22A : Option Addr) (t22n : Nat) (t22c : Nat) (t23 : Int) (t24 : Int) (w : World) : Prop :=
  ifP (decide ((t24 : Int) < t23))
    (0 ≤ (t24 : Int) ∧ (t24 : Int) < ((t22n : Nat) : Int) ∧ ∃ t26p : Addr, t22A = some t26p ∧ ∃ t27 : Int, w.cell? (t26p.add (Int.toNat t24 * 1)) = some (.int .u8 t27) ∧ word_Get.L0 R (orI .u32 (IntKind.u32.wrap (v * 2 ^ 8)) (IntKind.u32.wrap t27)) t22A t22n t22c t23 (IntKind.i64.wrap (t24 + 1)) w)
    (R (.tuple #[(.int .u32 v), (.bool true)]) w)

@[reducible] def word_Get.vc (R : Value → World → Prop) (bA : Option Addr) (bn : Nat) (bc : Nat) (at_ : Int) (size : Int) (w : World) : Prop :=
  Run Try.prog 127 #[(.int .i64 ((bn : Nat) : Int)), (.int .i64 at_), (.int .i64 size)] w fun v w_2 => ∃ t15 : Bool, v = (.bool t15) ∧ ifP (!t15)
    (R (.tuple #[(.int .u32 0), (.bool false)]) w_2)
    ((0 : Int) ≤ at_ ∧ (at_ : Int) ≤ IntKind.i64.wrap (at_ + size) ∧ (IntKind.i64.wrap (at_ + size) : Int) ≤ ((bc : Nat) : Int) ∧ word_Get.L0 R 0 (subA bA bc (Int.toNat at_) 1) ((Int.toNat (IntKind.i64.wrap (at_ + size))) - (Int.toNat at_)) (bc - (Int.toNat at_)) (((Int.toNat (IntKind.i64.wrap (at_ + size))) - (Int.toNat at_) : Nat) : Int) 0 w_2)

theorem word_Get.B0_eq (R : Value → World → Prop) (v : Int) (t22A : Option Addr) (t22n : Nat) (t22c : Nat) (t23 : Int) (t24 : Int) (w : World) (ts : Nat → Value) :
    code Try.prog none word_Get.live 0 word_Get.c0 (thenK (fun st w => loopVC (fun K => code Try.prog none word_Get.live 0 word_Get.c0 K) (word_Get.live 0) (word_Get.K0 R) (clearFrom (word_Get.live 0) 0 st) w) (word_Get.K0 R)) (mergeFrom (word_Get.live 0) ts 0 (clearFrom (word_Get.live 0) 0 [undef, undef, undef, undef, undef, undef, undef, undef, (.int .u32 v), undef, undef, undef, undef, undef, undef, undef, undef, undef, undef, undef, undef, undef, (.slice t22A t22n t22c), (.int .i64 t23), (.int .i64 t24), undef, undef, undef, undef, undef, undef, undef, undef, undef, undef])) w = word_Get.B0 R v t22A t22n t22c t23 t24 w := by kernel_rfl
theorem word_Get.L0_step {R : Value → World → Prop} {v : Int} {t22A : Option Addr} {t22n : Nat} {t22c : Nat} {t23 : Int} {t24 : Int} {w : World} (h : word_Get.B0 R v t22A t22n t22c t23 t24 w) : word_Get.L0 R v t22A t22n t22c t23 t24 w :=
  loop_step (live := word_Get.live) (b := 0) (x := word_Get.c0) fun ts => Eq.mpr (word_Get.B0_eq R v t22A t22n t22c t23 t24 w ts) h
theorem word_Get.eq (R : Value → World → Prop) (bA : Option Addr) (bn : Nat) (bc : Nat) (at_ : Int) (size : Int) (w : World) : fnVC Try.prog none word_Get.live Try.f126 R [(.slice bA bn bc), (.int .i64 at_), (.int .i64 size)] w = word_Get.vc R bA bn bc at_ size w := by kernel_rfl
set_option maxHeartbeats 4000000 in
theorem word_Get.ok {R : Value → World → Prop} {bA : Option Addr} {bn : Nat} {bc : Nat} {at_ : Int} {size : Int} {w : World} (h : word_Get.vc R bA bn bc at_ size w) : Run Try.prog 126 #[(.slice bA bn bc), (.int .i64 at_), (.int .i64 size)] w R := by
  have h2 := Eq.mpr (word_Get.eq R bA bn bc at_ size w) h
  exact fn_sound Try.mixed Try.func126 (by kernel_rfl) h2

/-! ### (*riddle/machine.Machine).load: function 117 -/
noncomputable def machine_Machine_load.body : Code := bodyOf Try.f117
def machine_Machine_load.live : Nat → List Nat
  | _ => []
def machine_Machine_load.J1 (R : Value → World → Prop) (v : Int) (ok_ : Bool) (w : World) : Prop :=
  R (.tuple #[(.int .u32 v), (.bool ok_)]) w

def machine_Machine_load.J0 (R : Value → World → Prop) (m : Option Addr) (v : Int) (ok_ : Bool) (w : World) : Prop :=
  ifP (!ok_)
    (∃ t32p : Addr, m = some t32p ∧ (∃ u : Value, w.cell? (t32p.add 19) = some u) ∧ w.frozen? (t32p.add 19) = false ∧ letW (w.setCell (t32p.add 19) (.int .i64 1)) fun w_2 => machine_Machine_load.J1 R v ok_ w_2)
    (machine_Machine_load.J1 R v ok_ w)

@[reducible] def machine_Machine_load.vc (R : Value → World → Prop) (m : Option Addr) (at_ : Int) (size : Int) (w : World) : Prop :=
  ∃ t12p : Addr, m = some t12p ∧ ∃ (t14A : Option Addr) (t14n t14c : Nat), w.cell? (t12p.add 18) = some (.slice t14A t14n t14c) ∧ ifP (decide ((at_ : Int) < (IntKind.u64.wrap ((t14n : Nat) : Int))))
    (∃ t20p : Addr, m = some t20p ∧ ∃ (t22A : Option Addr) (t22n t22c : Nat), w.cell? (t20p.add 18) = some (.slice t22A t22n t22c) ∧ Run Try.prog 126 #[(.slice t22A t22n t22c), (.int .i64 (IntKind.i64.wrap at_)), (.int .i64 size)] w fun v w_2 => ∃ t260 : Int, ∃ t261 : Bool, v = (.tuple #[(.int .u32 t260), (.bool t261)]) ∧ machine_Machine_load.J0 R m t260 t261 w_2)
    (machine_Machine_load.J0 R m 0 false w)

theorem machine_Machine_load.eq (R : Value → World → Prop) (m : Option Addr) (at_ : Int) (size : Int) (w : World) : fnVC Try.prog none machine_Machine_load.live Try.f117 R [(.pointer m), (.int .u64 at_), (.int .i64 size)] w = machine_Machine_load.vc R m at_ size w := by kernel_rfl
set_option maxHeartbeats 4000000 in
theorem machine_Machine_load.ok {R : Value → World → Prop} {m : Option Addr} {at_ : Int} {size : Int} {w : World} (h : machine_Machine_load.vc R m at_ size w) : Run Try.prog 117 #[(.pointer m), (.int .u64 at_), (.int .i64 size)] w R := by
  have h2 := Eq.mpr (machine_Machine_load.eq R m at_ size w) h
  exact fn_sound Try.mixed Try.func117 (by kernel_rfl) h2

/-! ### (*riddle/machine.Machine).into: function 116 -/
noncomputable def machine_Machine_into.body : Code := bodyOf Try.f116
def machine_Machine_into.live : Nat → List Nat
  | _ => []
@[reducible] def machine_Machine_into.vc (R : Value → World → Prop) (m : Option Addr) (at_ : Int) (size : Int) (w : World) : Prop :=
  Run Try.prog 117 #[(.pointer m), (.int .u64 at_), (.int .i64 size)] w fun v w_2 => ∃ t120 : Int, ∃ t121 : Bool, v = (.tuple #[(.int .u32 t120), (.bool t121)]) ∧ ifP t121
    (∃ t18p : Addr, m = some t18p ∧ (∃ u : Value, w_2.cell? t18p = some u) ∧ w_2.frozen? t18p = false ∧ letW (w_2.setCell t18p (.int .u32 t120)) fun w_3 => R (.tuple #[]) w_3)
    (R (.tuple #[]) w_2)

theorem machine_Machine_into.eq (R : Value → World → Prop) (m : Option Addr) (at_ : Int) (size : Int) (w : World) : fnVC Try.prog none machine_Machine_into.live Try.f116 R [(.pointer m), (.int .u64 at_), (.int .i64 size)] w = machine_Machine_into.vc R m at_ size w := by kernel_rfl
set_option maxHeartbeats 4000000 in
theorem machine_Machine_into.ok {R : Value → World → Prop} {m : Option Addr} {at_ : Int} {size : Int} {w : World} (h : machine_Machine_into.vc R m at_ size w) : Run Try.prog 116 #[(.pointer m), (.int .u64 at_), (.int .i64 size)] w R := by
  have h2 := Eq.mpr (machine_Machine_into.eq R m at_ size w) h
  exact fn_sound Try.mixed Try.func116 (by kernel_rfl) h2

/-! ### (*riddle/machine.Machine).ldAbsW: function 79 -/
noncomputable def machine_Machine_ldAbsW.body : Code := bodyOf Try.f79
def machine_Machine_ldAbsW.live : Nat → List Nat
  | _ => []
@[reducible] def machine_Machine_ldAbsW.vc (R : Value → World → Prop) (m : Option Addr) (i_0 : Int) (i_1 : Int) (i_2 : Int) (i_3 : Int) (w : World) : Prop :=
  letW (w.alloc (.cells #[(.int .u16 i_0), (.int .u8 i_1), (.int .u8 i_2), (.int .u32 i_3)] 47)) fun w_2 => ∃ t6 : Int, w_2.cell? ((newA w).add 3) = some (.int .u32 t6) ∧ Run Try.prog 116 #[(.pointer m), (.int .u64 (IntKind.u64.wrap t6)), (.int .i64 4)] w_2 fun v w_3 => v = (.tuple #[]) ∧ R (.tuple #[]) w_3

theorem machine_Machine_ldAbsW.eq (R : Value → World → Prop) (m : Option Addr) (i_0 : Int) (i_1 : Int) (i_2 : Int) (i_3 : Int) (w : World) : fnVC Try.prog none machine_Machine_ldAbsW.live Try.f79 R [(.pointer m), (.agg #[(.int .u16 i_0), (.int .u8 i_1), (.int .u8 i_2), (.int .u32 i_3)])] w = machine_Machine_ldAbsW.vc R m i_0 i_1 i_2 i_3 w := by kernel_rfl
set_option maxHeartbeats 4000000 in
theorem machine_Machine_ldAbsW.ok {R : Value → World → Prop} {m : Option Addr} {i_0 : Int} {i_1 : Int} {i_2 : Int} {i_3 : Int} {w : World} (h : machine_Machine_ldAbsW.vc R m i_0 i_1 i_2 i_3 w) : Run Try.prog 79 #[(.pointer m), (.agg #[(.int .u16 i_0), (.int .u8 i_1), (.int .u8 i_2), (.int .u32 i_3)])] w R := by
  have h2 := Eq.mpr (machine_Machine_ldAbsW.eq R m i_0 i_1 i_2 i_3 w) h
  exact fn_sound Try.mixed Try.func79 (by kernel_rfl) h2

/-! ### (*riddle/machine.Machine).ldAbsH: function 80 -/
noncomputable def machine_Machine_ldAbsH.body : Code := bodyOf Try.f80
def machine_Machine_ldAbsH.live : Nat → List Nat
  | _ => []
@[reducible] def machine_Machine_ldAbsH.vc (R : Value → World → Prop) (m : Option Addr) (i_0 : Int) (i_1 : Int) (i_2 : Int) (i_3 : Int) (w : World) : Prop :=
  letW (w.alloc (.cells #[(.int .u16 i_0), (.int .u8 i_1), (.int .u8 i_2), (.int .u32 i_3)] 47)) fun w_2 => ∃ t6 : Int, w_2.cell? ((newA w).add 3) = some (.int .u32 t6) ∧ Run Try.prog 116 #[(.pointer m), (.int .u64 (IntKind.u64.wrap t6)), (.int .i64 2)] w_2 fun v w_3 => v = (.tuple #[]) ∧ R (.tuple #[]) w_3

theorem machine_Machine_ldAbsH.eq (R : Value → World → Prop) (m : Option Addr) (i_0 : Int) (i_1 : Int) (i_2 : Int) (i_3 : Int) (w : World) : fnVC Try.prog none machine_Machine_ldAbsH.live Try.f80 R [(.pointer m), (.agg #[(.int .u16 i_0), (.int .u8 i_1), (.int .u8 i_2), (.int .u32 i_3)])] w = machine_Machine_ldAbsH.vc R m i_0 i_1 i_2 i_3 w := by kernel_rfl
set_option maxHeartbeats 4000000 in
theorem machine_Machine_ldAbsH.ok {R : Value → World → Prop} {m : Option Addr} {i_0 : Int} {i_1 : Int} {i_2 : Int} {i_3 : Int} {w : World} (h : machine_Machine_ldAbsH.vc R m i_0 i_1 i_2 i_3 w) : Run Try.prog 80 #[(.pointer m), (.agg #[(.int .u16 i_0), (.int .u8 i_1), (.int .u8 i_2), (.int .u32 i_3)])] w R := by
  have h2 := Eq.mpr (machine_Machine_ldAbsH.eq R m i_0 i_1 i_2 i_3 w) h
  exact fn_sound Try.mixed Try.func80 (by kernel_rfl) h2

/-! ### (*riddle/machine.Machine).ldAbsB: function 81 -/
noncomputable def machine_Machine_ldAbsB.body : Code := bodyOf Try.f81
def machine_Machine_ldAbsB.live : Nat → List Nat
  | _ => []
@[reducible] def machine_Machine_ldAbsB.vc (R : Value → World → Prop) (m : Option Addr) (i_0 : Int) (i_1 : Int) (i_2 : Int) (i_3 : Int) (w : World) : Prop :=
  letW (w.alloc (.cells #[(.int .u16 i_0), (.int .u8 i_1), (.int .u8 i_2), (.int .u32 i_3)] 47)) fun w_2 => ∃ t6 : Int, w_2.cell? ((newA w).add 3) = some (.int .u32 t6) ∧ Run Try.prog 116 #[(.pointer m), (.int .u64 (IntKind.u64.wrap t6)), (.int .i64 1)] w_2 fun v w_3 => v = (.tuple #[]) ∧ R (.tuple #[]) w_3

theorem machine_Machine_ldAbsB.eq (R : Value → World → Prop) (m : Option Addr) (i_0 : Int) (i_1 : Int) (i_2 : Int) (i_3 : Int) (w : World) : fnVC Try.prog none machine_Machine_ldAbsB.live Try.f81 R [(.pointer m), (.agg #[(.int .u16 i_0), (.int .u8 i_1), (.int .u8 i_2), (.int .u32 i_3)])] w = machine_Machine_ldAbsB.vc R m i_0 i_1 i_2 i_3 w := by kernel_rfl
set_option maxHeartbeats 4000000 in
theorem machine_Machine_ldAbsB.ok {R : Value → World → Prop} {m : Option Addr} {i_0 : Int} {i_1 : Int} {i_2 : Int} {i_3 : Int} {w : World} (h : machine_Machine_ldAbsB.vc R m i_0 i_1 i_2 i_3 w) : Run Try.prog 81 #[(.pointer m), (.agg #[(.int .u16 i_0), (.int .u8 i_1), (.int .u8 i_2), (.int .u32 i_3)])] w R := by
  have h2 := Eq.mpr (machine_Machine_ldAbsB.eq R m i_0 i_1 i_2 i_3 w) h
  exact fn_sound Try.mixed Try.func81 (by kernel_rfl) h2

/-! ### (*riddle/machine.Machine).ldIndW: function 82 -/
noncomputable def machine_Machine_ldIndW.body : Code := bodyOf Try.f82
def machine_Machine_ldIndW.live : Nat → List Nat
  | _ => []
@[reducible] def machine_Machine_ldIndW.vc (R : Value → World → Prop) (m : Option Addr) (i_0 : Int) (i_1 : Int) (i_2 : Int) (i_3 : Int) (w : World) : Prop :=
  letW (w.alloc (.cells #[(.int .u16 i_0), (.int .u8 i_1), (.int .u8 i_2), (.int .u32 i_3)] 47)) fun w_2 => ∃ S_ : World → Prop, S_ w_2.drew ∧ letW w_2.drew fun w_3 => ∃ t6p : Addr, m = some t6p ∧ ∃ t9 : Int, (∀ u : World, S_ u → u.cell? (t6p.add 1) = some (.int .u32 t9)) ∧ ∃ t12 : Int, (∀ u_2 : World, S_ u_2 → u_2.cell? ((newA w).add 3) = some (.int .u32 t12)) ∧ Run Try.prog 116 #[(.pointer m), (.int .u64 (IntKind.u64.wrap ((IntKind.u64.wrap t9) + (IntKind.u64.wrap t12)))), (.int .i64 4)] w_3 fun v w_4 => v = (.tuple #[]) ∧ R (.tuple #[]) w_4

theorem machine_Machine_ldIndW.eq (R : Value → World → Prop) (m : Option Addr) (i_0 : Int) (i_1 : Int) (i_2 : Int) (i_3 : Int) (w : World) : fnVC Try.prog none machine_Machine_ldIndW.live Try.f82 R [(.pointer m), (.agg #[(.int .u16 i_0), (.int .u8 i_1), (.int .u8 i_2), (.int .u32 i_3)])] w = machine_Machine_ldIndW.vc R m i_0 i_1 i_2 i_3 w := by kernel_rfl
set_option maxHeartbeats 4000000 in
theorem machine_Machine_ldIndW.ok {R : Value → World → Prop} {m : Option Addr} {i_0 : Int} {i_1 : Int} {i_2 : Int} {i_3 : Int} {w : World} (h : machine_Machine_ldIndW.vc R m i_0 i_1 i_2 i_3 w) : Run Try.prog 82 #[(.pointer m), (.agg #[(.int .u16 i_0), (.int .u8 i_1), (.int .u8 i_2), (.int .u32 i_3)])] w R := by
  have h2 := Eq.mpr (machine_Machine_ldIndW.eq R m i_0 i_1 i_2 i_3 w) h
  exact fn_sound Try.mixed Try.func82 (by kernel_rfl) h2

/-! ### (*riddle/machine.Machine).ldIndH: function 83 -/
noncomputable def machine_Machine_ldIndH.body : Code := bodyOf Try.f83
def machine_Machine_ldIndH.live : Nat → List Nat
  | _ => []
@[reducible] def machine_Machine_ldIndH.vc (R : Value → World → Prop) (m : Option Addr) (i_0 : Int) (i_1 : Int) (i_2 : Int) (i_3 : Int) (w : World) : Prop :=
  letW (w.alloc (.cells #[(.int .u16 i_0), (.int .u8 i_1), (.int .u8 i_2), (.int .u32 i_3)] 47)) fun w_2 => ∃ S_ : World → Prop, S_ w_2.drew ∧ letW w_2.drew fun w_3 => ∃ t6p : Addr, m = some t6p ∧ ∃ t9 : Int, (∀ u : World, S_ u → u.cell? (t6p.add 1) = some (.int .u32 t9)) ∧ ∃ t12 : Int, (∀ u_2 : World, S_ u_2 → u_2.cell? ((newA w).add 3) = some (.int .u32 t12)) ∧ Run Try.prog 116 #[(.pointer m), (.int .u64 (IntKind.u64.wrap ((IntKind.u64.wrap t9) + (IntKind.u64.wrap t12)))), (.int .i64 2)] w_3 fun v w_4 => v = (.tuple #[]) ∧ R (.tuple #[]) w_4

theorem machine_Machine_ldIndH.eq (R : Value → World → Prop) (m : Option Addr) (i_0 : Int) (i_1 : Int) (i_2 : Int) (i_3 : Int) (w : World) : fnVC Try.prog none machine_Machine_ldIndH.live Try.f83 R [(.pointer m), (.agg #[(.int .u16 i_0), (.int .u8 i_1), (.int .u8 i_2), (.int .u32 i_3)])] w = machine_Machine_ldIndH.vc R m i_0 i_1 i_2 i_3 w := by kernel_rfl
set_option maxHeartbeats 4000000 in
theorem machine_Machine_ldIndH.ok {R : Value → World → Prop} {m : Option Addr} {i_0 : Int} {i_1 : Int} {i_2 : Int} {i_3 : Int} {w : World} (h : machine_Machine_ldIndH.vc R m i_0 i_1 i_2 i_3 w) : Run Try.prog 83 #[(.pointer m), (.agg #[(.int .u16 i_0), (.int .u8 i_1), (.int .u8 i_2), (.int .u32 i_3)])] w R := by
  have h2 := Eq.mpr (machine_Machine_ldIndH.eq R m i_0 i_1 i_2 i_3 w) h
  exact fn_sound Try.mixed Try.func83 (by kernel_rfl) h2

/-! ### (*riddle/machine.Machine).ldIndB: function 84 -/
noncomputable def machine_Machine_ldIndB.body : Code := bodyOf Try.f84
def machine_Machine_ldIndB.live : Nat → List Nat
  | _ => []
@[reducible] def machine_Machine_ldIndB.vc (R : Value → World → Prop) (m : Option Addr) (i_0 : Int) (i_1 : Int) (i_2 : Int) (i_3 : Int) (w : World) : Prop :=
  letW (w.alloc (.cells #[(.int .u16 i_0), (.int .u8 i_1), (.int .u8 i_2), (.int .u32 i_3)] 47)) fun w_2 => ∃ S_ : World → Prop, S_ w_2.drew ∧ letW w_2.drew fun w_3 => ∃ t6p : Addr, m = some t6p ∧ ∃ t9 : Int, (∀ u : World, S_ u → u.cell? (t6p.add 1) = some (.int .u32 t9)) ∧ ∃ t12 : Int, (∀ u_2 : World, S_ u_2 → u_2.cell? ((newA w).add 3) = some (.int .u32 t12)) ∧ Run Try.prog 116 #[(.pointer m), (.int .u64 (IntKind.u64.wrap ((IntKind.u64.wrap t9) + (IntKind.u64.wrap t12)))), (.int .i64 1)] w_3 fun v w_4 => v = (.tuple #[]) ∧ R (.tuple #[]) w_4

theorem machine_Machine_ldIndB.eq (R : Value → World → Prop) (m : Option Addr) (i_0 : Int) (i_1 : Int) (i_2 : Int) (i_3 : Int) (w : World) : fnVC Try.prog none machine_Machine_ldIndB.live Try.f84 R [(.pointer m), (.agg #[(.int .u16 i_0), (.int .u8 i_1), (.int .u8 i_2), (.int .u32 i_3)])] w = machine_Machine_ldIndB.vc R m i_0 i_1 i_2 i_3 w := by kernel_rfl
set_option maxHeartbeats 4000000 in
theorem machine_Machine_ldIndB.ok {R : Value → World → Prop} {m : Option Addr} {i_0 : Int} {i_1 : Int} {i_2 : Int} {i_3 : Int} {w : World} (h : machine_Machine_ldIndB.vc R m i_0 i_1 i_2 i_3 w) : Run Try.prog 84 #[(.pointer m), (.agg #[(.int .u16 i_0), (.int .u8 i_1), (.int .u8 i_2), (.int .u32 i_3)])] w R := by
  have h2 := Eq.mpr (machine_Machine_ldIndB.eq R m i_0 i_1 i_2 i_3 w) h
  exact fn_sound Try.mixed Try.func84 (by kernel_rfl) h2

/-! ### (*riddle/machine.Machine).ldMem: function 85 -/
noncomputable def machine_Machine_ldMem.body : Code := bodyOf Try.f85
def machine_Machine_ldMem.live : Nat → List Nat
  | _ => []
@[reducible] def machine_Machine_ldMem.vc (R : Value → World → Prop) (m : Option Addr) (i_0 : Int) (i_1 : Int) (i_2 : Int) (i_3 : Int) (w : World) : Prop :=
  letW (w.alloc (.cells #[(.int .u16 i_0), (.int .u8 i_1), (.int .u8 i_2), (.int .u32 i_3)] 47)) fun w_2 => ∃ S_ : World → Prop, S_ w_2.drew ∧ letW w_2.drew fun w_3 => ∃ t7 : Int, (∀ u : World, S_ u → u.cell? ((newA w).add 3) = some (.int .u32 t7)) ∧ ∃ t8p : Addr, m = some t8p ∧ 0 ≤ (t7 : Int) ∧ (t7 : Int) < ((16 : Nat) : Int) ∧ ∃ t12 : Int, (∀ u_2 : World, S_ u_2 → u_2.cell? ((t8p.add 2).add (Int.toNat t7 * 1)) = some (.int .u32 t12)) ∧ ∃ t13p : Addr, m = some t13p ∧ (∃ u : Value, w_3.cell? t13p = some u) ∧ w_3.frozen? t13p = false ∧ letW (w_3.setCell t13p (.int .u32 t12)) fun w_4 => R (.tuple #[]) w_4

theorem machine_Machine_ldMem.eq (R : Value → World → Prop) (m : Option Addr) (i_0 : Int) (i_1 : Int) (i_2 : Int) (i_3 : Int) (w : World) : fnVC Try.prog none machine_Machine_ldMem.live Try.f85 R [(.pointer m), (.agg #[(.int .u16 i_0), (.int .u8 i_1), (.int .u8 i_2), (.int .u32 i_3)])] w = machine_Machine_ldMem.vc R m i_0 i_1 i_2 i_3 w := by kernel_rfl
set_option maxHeartbeats 4000000 in
theorem machine_Machine_ldMem.ok {R : Value → World → Prop} {m : Option Addr} {i_0 : Int} {i_1 : Int} {i_2 : Int} {i_3 : Int} {w : World} (h : machine_Machine_ldMem.vc R m i_0 i_1 i_2 i_3 w) : Run Try.prog 85 #[(.pointer m), (.agg #[(.int .u16 i_0), (.int .u8 i_1), (.int .u8 i_2), (.int .u32 i_3)])] w R := by
  have h2 := Eq.mpr (machine_Machine_ldMem.eq R m i_0 i_1 i_2 i_3 w) h
  exact fn_sound Try.mixed Try.func85 (by kernel_rfl) h2

/-! ### (*riddle/machine.Machine).ldLen: function 86 -/
noncomputable def machine_Machine_ldLen.body : Code := bodyOf Try.f86
def machine_Machine_ldLen.live : Nat → List Nat
  | _ => []
@[reducible] def machine_Machine_ldLen.vc (R : Value → World → Prop) (m : Option Addr) (i_0 : Int) (i_1 : Int) (i_2 : Int) (i_3 : Int) (w : World) : Prop :=
  letW (w.alloc (.cells #[(.int .u16 i_0), (.int .u8 i_1), (.int .u8 i_2), (.int .u32 i_3)] 47)) fun w_2 => ∃ t6p : Addr, m = some t6p ∧ ∃ (t8A : Option Addr) (t8n t8c : Nat), w_2.cell? (t6p.add 18) = some (.slice t8A t8n t8c) ∧ ∃ t11p : Addr, m = some t11p ∧ (∃ u : Value, w_2.cell? t11p = some u) ∧ w_2.frozen? t11p = false ∧ letW (w_2.setCell t11p (.int .u32 (IntKind.u32.wrap ((t8n : Nat) : Int)))) fun w_3 => R (.tuple #[]) w_3

theorem machine_Machine_ldLen.eq (R : Value → World → Prop) (m : Option Addr) (i_0 : Int) (i_1 : Int) (i_2 : Int) (i_3 : Int) (w : World) : fnVC Try.prog none machine_Machine_ldLen.live Try.f86 R [(.pointer m), (.agg #[(.int .u16 i_0), (.int .u8 i_1), (.int .u8 i_2), (.int .u32 i_3)])] w = machine_Machine_ldLen.vc R m i_0 i_1 i_2 i_3 w := by kernel_rfl
set_option maxHeartbeats 4000000 in
theorem machine_Machine_ldLen.ok {R : Value → World → Prop} {m : Option Addr} {i_0 : Int} {i_1 : Int} {i_2 : Int} {i_3 : Int} {w : World} (h : machine_Machine_ldLen.vc R m i_0 i_1 i_2 i_3 w) : Run Try.prog 86 #[(.pointer m), (.agg #[(.int .u16 i_0), (.int .u8 i_1), (.int .u8 i_2), (.int .u32 i_3)])] w R := by
  have h2 := Eq.mpr (machine_Machine_ldLen.eq R m i_0 i_1 i_2 i_3 w) h
  exact fn_sound Try.mixed Try.func86 (by kernel_rfl) h2

/-! ### (*riddle/machine.Machine).ldxImm: function 87 -/
noncomputable def machine_Machine_ldxImm.body : Code := bodyOf Try.f87
def machine_Machine_ldxImm.live : Nat → List Nat
  | _ => []
@[reducible] def machine_Machine_ldxImm.vc (R : Value → World → Prop) (m : Option Addr) (i_0 : Int) (i_1 : Int) (i_2 : Int) (i_3 : Int) (w : World) : Prop :=
  letW (w.alloc (.cells #[(.int .u16 i_0), (.int .u8 i_1), (.int .u8 i_2), (.int .u32 i_3)] 47)) fun w_2 => ∃ t6 : Int, w_2.cell? ((newA w).add 3) = some (.int .u32 t6) ∧ ∃ t7p : Addr, m = some t7p ∧ (∃ u : Value, w_2.cell? (t7p.add 1) = some u) ∧ w_2.frozen? (t7p.add 1) = false ∧ letW (w_2.setCell (t7p.add 1) (.int .u32 t6)) fun w_3 => R (.tuple #[]) w_3

theorem machine_Machine_ldxImm.eq (R : Value → World → Prop) (m : Option Addr) (i_0 : Int) (i_1 : Int) (i_2 : Int) (i_3 : Int) (w : World) : fnVC Try.prog none machine_Machine_ldxImm.live Try.f87 R [(.pointer m), (.agg #[(.int .u16 i_0), (.int .u8 i_1), (.int .u8 i_2), (.int .u32 i_3)])] w = machine_Machine_ldxImm.vc R m i_0 i_1 i_2 i_3 w := by kernel_rfl
set_option maxHeartbeats 4000000 in
theorem machine_Machine_ldxImm.ok {R : Value → World → Prop} {m : Option Addr} {i_0 : Int} {i_1 : Int} {i_2 : Int} {i_3 : Int} {w : World} (h : machine_Machine_ldxImm.vc R m i_0 i_1 i_2 i_3 w) : Run Try.prog 87 #[(.pointer m), (.agg #[(.int .u16 i_0), (.int .u8 i_1), (.int .u8 i_2), (.int .u32 i_3)])] w R := by
  have h2 := Eq.mpr (machine_Machine_ldxImm.eq R m i_0 i_1 i_2 i_3 w) h
  exact fn_sound Try.mixed Try.func87 (by kernel_rfl) h2

/-! ### (*riddle/machine.Machine).ldxMem: function 88 -/
noncomputable def machine_Machine_ldxMem.body : Code := bodyOf Try.f88
def machine_Machine_ldxMem.live : Nat → List Nat
  | _ => []
@[reducible] def machine_Machine_ldxMem.vc (R : Value → World → Prop) (m : Option Addr) (i_0 : Int) (i_1 : Int) (i_2 : Int) (i_3 : Int) (w : World) : Prop :=
  letW (w.alloc (.cells #[(.int .u16 i_0), (.int .u8 i_1), (.int .u8 i_2), (.int .u32 i_3)] 47)) fun w_2 => ∃ S_ : World → Prop, S_ w_2.drew ∧ letW w_2.drew fun w_3 => ∃ t7 : Int, (∀ u : World, S_ u → u.cell? ((newA w).add 3) = some (.int .u32 t7)) ∧ ∃ t8p : Addr, m = some t8p ∧ 0 ≤ (t7 : Int) ∧ (t7 : Int) < ((16 : Nat) : Int) ∧ ∃ t12 : Int, (∀ u_2 : World, S_ u_2 → u_2.cell? ((t8p.add 2).add (Int.toNat t7 * 1)) = some (.int .u32 t12)) ∧ ∃ t13p : Addr, m = some t13p ∧ (∃ u : Value, w_3.cell? (t13p.add 1) = some u) ∧ w_3.frozen? (t13p.add 1) = false ∧ letW (w_3.setCell (t13p.add 1) (.int .u32 t12)) fun w_4 => R (.tuple #[]) w_4

theorem machine_Machine_ldxMem.eq (R : Value → World → Prop) (m : Option Addr) (i_0 : Int) (i_1 : Int) (i_2 : Int) (i_3 : Int) (w : World) : fnVC Try.prog none machine_Machine_ldxMem.live Try.f88 R [(.pointer m), (.agg #[(.int .u16 i_0), (.int .u8 i_1), (.int .u8 i_2), (.int .u32 i_3)])] w = machine_Machine_ldxMem.vc R m i_0 i_1 i_2 i_3 w := by kernel_rfl
set_option maxHeartbeats 4000000 in
theorem machine_Machine_ldxMem.ok {R : Value → World → Prop} {m : Option Addr} {i_0 : Int} {i_1 : Int} {i_2 : Int} {i_3 : Int} {w : World} (h : machine_Machine_ldxMem.vc R m i_0 i_1 i_2 i_3 w) : Run Try.prog 88 #[(.pointer m), (.agg #[(.int .u16 i_0), (.int .u8 i_1), (.int .u8 i_2), (.int .u32 i_3)])] w R := by
  have h2 := Eq.mpr (machine_Machine_ldxMem.eq R m i_0 i_1 i_2 i_3 w) h
  exact fn_sound Try.mixed Try.func88 (by kernel_rfl) h2

/-! ### (*riddle/machine.Machine).ldxLen: function 89 -/
noncomputable def machine_Machine_ldxLen.body : Code := bodyOf Try.f89
def machine_Machine_ldxLen.live : Nat → List Nat
  | _ => []
@[reducible] def machine_Machine_ldxLen.vc (R : Value → World → Prop) (m : Option Addr) (i_0 : Int) (i_1 : Int) (i_2 : Int) (i_3 : Int) (w : World) : Prop :=
  letW (w.alloc (.cells #[(.int .u16 i_0), (.int .u8 i_1), (.int .u8 i_2), (.int .u32 i_3)] 47)) fun w_2 => ∃ t6p : Addr, m = some t6p ∧ ∃ (t8A : Option Addr) (t8n t8c : Nat), w_2.cell? (t6p.add 18) = some (.slice t8A t8n t8c) ∧ ∃ t11p : Addr, m = some t11p ∧ (∃ u : Value, w_2.cell? (t11p.add 1) = some u) ∧ w_2.frozen? (t11p.add 1) = false ∧ letW (w_2.setCell (t11p.add 1) (.int .u32 (IntKind.u32.wrap ((t8n : Nat) : Int)))) fun w_3 => R (.tuple #[]) w_3

theorem machine_Machine_ldxLen.eq (R : Value → World → Prop) (m : Option Addr) (i_0 : Int) (i_1 : Int) (i_2 : Int) (i_3 : Int) (w : World) : fnVC Try.prog none machine_Machine_ldxLen.live Try.f89 R [(.pointer m), (.agg #[(.int .u16 i_0), (.int .u8 i_1), (.int .u8 i_2), (.int .u32 i_3)])] w = machine_Machine_ldxLen.vc R m i_0 i_1 i_2 i_3 w := by kernel_rfl
set_option maxHeartbeats 4000000 in
theorem machine_Machine_ldxLen.ok {R : Value → World → Prop} {m : Option Addr} {i_0 : Int} {i_1 : Int} {i_2 : Int} {i_3 : Int} {w : World} (h : machine_Machine_ldxLen.vc R m i_0 i_1 i_2 i_3 w) : Run Try.prog 89 #[(.pointer m), (.agg #[(.int .u16 i_0), (.int .u8 i_1), (.int .u8 i_2), (.int .u32 i_3)])] w R := by
  have h2 := Eq.mpr (machine_Machine_ldxLen.eq R m i_0 i_1 i_2 i_3 w) h
  exact fn_sound Try.mixed Try.func89 (by kernel_rfl) h2

/-! ### (*riddle/machine.Machine).ldxMsh: function 90 -/
noncomputable def machine_Machine_ldxMsh.body : Code := bodyOf Try.f90
def machine_Machine_ldxMsh.live : Nat → List Nat
  | _ => []
@[reducible] def machine_Machine_ldxMsh.vc (R : Value → World → Prop) (m : Option Addr) (i_0 : Int) (i_1 : Int) (i_2 : Int) (i_3 : Int) (w : World) : Prop :=
  letW (w.alloc (.cells #[(.int .u16 i_0), (.int .u8 i_1), (.int .u8 i_2), (.int .u32 i_3)] 47)) fun w_2 => ∃ t9 : Int, w_2.cell? ((newA w).add 3) = some (.int .u32 t9) ∧ Run Try.prog 117 #[(.pointer m), (.int .u64 (IntKind.u64.wrap t9)), (.int .i64 1)] w_2 fun v w_3 => ∃ t110 : Int, ∃ t111 : Bool, v = (.tuple #[(.int .u32 t110), (.bool t111)]) ∧ ifP t111
    (∃ t19p : Addr, m = some t19p ∧ (∃ u : Value, w_3.cell? (t19p.add 1) = some u) ∧ w_3.frozen? (t19p.add 1) = false ∧ letW (w_3.setCell (t19p.add 1) (.int .u32 (IntKind.u32.wrap (4 * (andI .u32 t110 15))))) fun w_4 => R (.tuple #[]) w_4)
    (R (.tuple #[]) w_3)

theorem machine_Machine_ldxMsh.eq (R : Value → World → Prop) (m : Option Addr) (i_0 : Int) (i_1 : Int) (i_2 : Int) (i_3 : Int) (w : World) : fnVC Try.prog none machine_Machine_ldxMsh.live Try.f90 R [(.pointer m), (.agg #[(.int .u16 i_0), (.int .u8 i_1), (.int .u8 i_2), (.int .u32 i_3)])] w = machine_Machine_ldxMsh.vc R m i_0 i_1 i_2 i_3 w := by kernel_rfl
set_option maxHeartbeats 4000000 in
theorem machine_Machine_ldxMsh.ok {R : Value → World → Prop} {m : Option Addr} {i_0 : Int} {i_1 : Int} {i_2 : Int} {i_3 : Int} {w : World} (h : machine_Machine_ldxMsh.vc R m i_0 i_1 i_2 i_3 w) : Run Try.prog 90 #[(.pointer m), (.agg #[(.int .u16 i_0), (.int .u8 i_1), (.int .u8 i_2), (.int .u32 i_3)])] w R := by
  have h2 := Eq.mpr (machine_Machine_ldxMsh.eq R m i_0 i_1 i_2 i_3 w) h
  exact fn_sound Try.mixed Try.func90 (by kernel_rfl) h2

/-! ### (*riddle/machine.Machine).st: function 91 -/
noncomputable def machine_Machine_st.body : Code := bodyOf Try.f91
def machine_Machine_st.live : Nat → List Nat
  | _ => []
@[reducible] def machine_Machine_st.vc (R : Value → World → Prop) (m : Option Addr) (i_0 : Int) (i_1 : Int) (i_2 : Int) (i_3 : Int) (w : World) : Prop :=
  letW (w.alloc (.cells #[(.int .u16 i_0), (.int .u8 i_1), (.int .u8 i_2), (.int .u32 i_3)] 47)) fun w_2 => ∃ S_ : World → Prop, S_ w_2.drew ∧ letW w_2.drew fun w_3 => ∃ t6 : Int, (∀ u : World, S_ u → u.cell? ((newA w).add 3) = some (.int .u32 t6)) ∧ ∃ t8p : Addr, m = some t8p ∧ ∃ t11 : Int, (∀ u_2 : World, S_ u_2 → u_2.cell? t8p = some (.int .u32 t11)) ∧ ∃ t12p : Addr, m = some t12p ∧ 0 ≤ (t6 : Int) ∧ (t6 : Int) < ((16 : Nat) : Int) ∧ (∃ u : Value, w_3.cell? ((t12p.add 2).add (Int.toNat t6 * 1)) = some u) ∧ w_3.frozen? ((t12p.add 2).add (Int.toNat t6 * 1)) = false ∧ letW (w_3.setCell ((t12p.add 2).add (Int.toNat t6 * 1)) (.int .u32 t11)) fun w_4 => R (.tuple #[]) w_4

theorem machine_Machine_st.eq (R : Value → World → Prop) (m : Option Addr) (i_0 : Int) (i_1 : Int) (i_2 : Int) (i_3 : Int) (w : World) : fnVC Try.prog none machine_Machine_st.live Try.f91 R [(.pointer m), (.agg #[(.int .u16 i_0), (.int .u8 i_1), (.int .u8 i_2), (.int .u32 i_3)])] w = machine_Machine_st.vc R m i_0 i_1 i_2 i_3 w := by kernel_rfl
set_option maxHeartbeats 4000000 in
theorem machine_Machine_st.ok {R : Value → World → Prop} {m : Option Addr} {i_0 : Int} {i_1 : Int} {i_2 : Int} {i_3 : Int} {w : World} (h : machine_Machine_st.vc R m i_0 i_1 i_2 i_3 w) : Run Try.prog 91 #[(.pointer m), (.agg #[(.int .u16 i_0), (.int .u8 i_1), (.int .u8 i_2), (.int .u32 i_3)])] w R := by
  have h2 := Eq.mpr (machine_Machine_st.eq R m i_0 i_1 i_2 i_3 w) h
  exact fn_sound Try.mixed Try.func91 (by kernel_rfl) h2

/-! ### (*riddle/machine.Machine).stx: function 92 -/
noncomputable def machine_Machine_stx.body : Code := bodyOf Try.f92
def machine_Machine_stx.live : Nat → List Nat
  | _ => []
@[reducible] def machine_Machine_stx.vc (R : Value → World → Prop) (m : Option Addr) (i_0 : Int) (i_1 : Int) (i_2 : Int) (i_3 : Int) (w : World) : Prop :=
  letW (w.alloc (.cells #[(.int .u16 i_0), (.int .u8 i_1), (.int .u8 i_2), (.int .u32 i_3)] 47)) fun w_2 => ∃ S_ : World → Prop, S_ w_2.drew ∧ letW w_2.drew fun w_3 => ∃ t6 : Int, (∀ u : World, S_ u → u.cell? ((newA w).add 3) = some (.int .u32 t6)) ∧ ∃ t8p : Addr, m = some t8p ∧ ∃ t11 : Int, (∀ u_2 : World, S_ u_2 → u_2.cell? (t8p.add 1) = some (.int .u32 t11)) ∧ ∃ t12p : Addr, m = some t12p ∧ 0 ≤ (t6 : Int) ∧ (t6 : Int) < ((16 : Nat) : Int) ∧ (∃ u : Value, w_3.cell? ((t12p.add 2).add (Int.toNat t6 * 1)) = some u) ∧ w_3.frozen? ((t12p.add 2).add (Int.toNat t6 * 1)) = false ∧ letW (w_3.setCell ((t12p.add 2).add (Int.toNat t6 * 1)) (.int .u32 t11)) fun w_4 => R (.tuple #[]) w_4

theorem machine_Machine_stx.eq (R : Value → World → Prop) (m : Option Addr) (i_0 : Int) (i_1 : Int) (i_2 : Int) (i_3 : Int) (w : World) : fnVC Try.prog none machine_Machine_stx.live Try.f92 R [(.pointer m), (.agg #[(.int .u16 i_0), (.int .u8 i_1), (.int .u8 i_2), (.int .u32 i_3)])] w = machine_Machine_stx.vc R m i_0 i_1 i_2 i_3 w := by kernel_rfl
set_option maxHeartbeats 4000000 in
theorem machine_Machine_stx.ok {R : Value → World → Prop} {m : Option Addr} {i_0 : Int} {i_1 : Int} {i_2 : Int} {i_3 : Int} {w : World} (h : machine_Machine_stx.vc R m i_0 i_1 i_2 i_3 w) : Run Try.prog 92 #[(.pointer m), (.agg #[(.int .u16 i_0), (.int .u8 i_1), (.int .u8 i_2), (.int .u32 i_3)])] w R := by
  have h2 := Eq.mpr (machine_Machine_stx.eq R m i_0 i_1 i_2 i_3 w) h
  exact fn_sound Try.mixed Try.func92 (by kernel_rfl) h2

/-! ### (*riddle/machine.Machine).neg: function 93 -/
noncomputable def machine_Machine_neg.body : Code := bodyOf Try.f93
def machine_Machine_neg.live : Nat → List Nat
  | _ => []
@[reducible] def machine_Machine_neg.vc (R : Value → World → Prop) (m : Option Addr) (i_0 : Int) (i_1 : Int) (i_2 : Int) (i_3 : Int) (w : World) : Prop :=
  letW (w.alloc (.cells #[(.int .u16 i_0), (.int .u8 i_1), (.int .u8 i_2), (.int .u32 i_3)] 47)) fun w_2 => ∃ t6p : Addr, m = some t6p ∧ ∃ t9 : Int, w_2.cell? t6p = some (.int .u32 t9) ∧ ∃ t11p : Addr, m = some t11p ∧ (∃ u : Value, w_2.cell? t11p = some u) ∧ w_2.frozen? t11p = false ∧ letW (w_2.setCell t11p (.int .u32 (IntKind.u32.wrap (0 - t9)))) fun w_3 => R (.tuple #[]) w_3

theorem machine_Machine_neg.eq (R : Value → World → Prop) (m : Option Addr) (i_0 : Int) (i_1 : Int) (i_2 : Int) (i_3 : Int) (w : World) : fnVC Try.prog none machine_Machine_neg.live Try.f93 R [(.pointer m), (.agg #[(.int .u16 i_0), (.int .u8 i_1), (.int .u8 i_2), (.int .u32 i_3)])] w = machine_Machine_neg.vc R m i_0 i_1 i_2 i_3 w := by kernel_rfl
set_option maxHeartbeats 4000000 in
theorem machine_Machine_neg.ok {R : Value → World → Prop} {m : Option Addr} {i_0 : Int} {i_1 : Int} {i_2 : Int} {i_3 : Int} {w : World} (h : machine_Machine_neg.vc R m i_0 i_1 i_2 i_3 w) : Run Try.prog 93 #[(.pointer m), (.agg #[(.int .u16 i_0), (.int .u8 i_1), (.int .u8 i_2), (.int .u32 i_3)])] w R := by
  have h2 := Eq.mpr (machine_Machine_neg.eq R m i_0 i_1 i_2 i_3 w) h
  exact fn_sound Try.mixed Try.func93 (by kernel_rfl) h2

/-! ### (*riddle/machine.Machine).tax: function 94 -/
noncomputable def machine_Machine_tax.body : Code := bodyOf Try.f94
def machine_Machine_tax.live : Nat → List Nat
  | _ => []
@[reducible] def machine_Machine_tax.vc (R : Value → World → Prop) (m : Option Addr) (i_0 : Int) (i_1 : Int) (i_2 : Int) (i_3 : Int) (w : World) : Prop :=
  letW (w.alloc (.cells #[(.int .u16 i_0), (.int .u8 i_1), (.int .u8 i_2), (.int .u32 i_3)] 47)) fun w_2 => ∃ t6p : Addr, m = some t6p ∧ ∃ t9 : Int, w_2.cell? t6p = some (.int .u32 t9) ∧ ∃ t10p : Addr, m = some t10p ∧ (∃ u : Value, w_2.cell? (t10p.add 1) = some u) ∧ w_2.frozen? (t10p.add 1) = false ∧ letW (w_2.setCell (t10p.add 1) (.int .u32 t9)) fun w_3 => R (.tuple #[]) w_3

theorem machine_Machine_tax.eq (R : Value → World → Prop) (m : Option Addr) (i_0 : Int) (i_1 : Int) (i_2 : Int) (i_3 : Int) (w : World) : fnVC Try.prog none machine_Machine_tax.live Try.f94 R [(.pointer m), (.agg #[(.int .u16 i_0), (.int .u8 i_1), (.int .u8 i_2), (.int .u32 i_3)])] w = machine_Machine_tax.vc R m i_0 i_1 i_2 i_3 w := by kernel_rfl
set_option maxHeartbeats 4000000 in
theorem machine_Machine_tax.ok {R : Value → World → Prop} {m : Option Addr} {i_0 : Int} {i_1 : Int} {i_2 : Int} {i_3 : Int} {w : World} (h : machine_Machine_tax.vc R m i_0 i_1 i_2 i_3 w) : Run Try.prog 94 #[(.pointer m), (.agg #[(.int .u16 i_0), (.int .u8 i_1), (.int .u8 i_2), (.int .u32 i_3)])] w R := by
  have h2 := Eq.mpr (machine_Machine_tax.eq R m i_0 i_1 i_2 i_3 w) h
  exact fn_sound Try.mixed Try.func94 (by kernel_rfl) h2

/-! ### (*riddle/machine.Machine).txa: function 95 -/
noncomputable def machine_Machine_txa.body : Code := bodyOf Try.f95
def machine_Machine_txa.live : Nat → List Nat
  | _ => []
@[reducible] def machine_Machine_txa.vc (R : Value → World → Prop) (m : Option Addr) (i_0 : Int) (i_1 : Int) (i_2 : Int) (i_3 : Int) (w : World) : Prop :=
  letW (w.alloc (.cells #[(.int .u16 i_0), (.int .u8 i_1), (.int .u8 i_2), (.int .u32 i_3)] 47)) fun w_2 => ∃ t6p : Addr, m = some t6p ∧ ∃ t9 : Int, w_2.cell? (t6p.add 1) = some (.int .u32 t9) ∧ ∃ t10p : Addr, m = some t10p ∧ (∃ u : Value, w_2.cell? t10p = some u) ∧ w_2.frozen? t10p = false ∧ letW (w_2.setCell t10p (.int .u32 t9)) fun w_3 => R (.tuple #[]) w_3

theorem machine_Machine_txa.eq (R : Value → World → Prop) (m : Option Addr) (i_0 : Int) (i_1 : Int) (i_2 : Int) (i_3 : Int) (w : World) : fnVC Try.prog none machine_Machine_txa.live Try.f95 R [(.pointer m), (.agg #[(.int .u16 i_0), (.int .u8 i_1), (.int .u8 i_2), (.int .u32 i_3)])] w = machine_Machine_txa.vc R m i_0 i_1 i_2 i_3 w := by kernel_rfl
set_option maxHeartbeats 4000000 in
theorem machine_Machine_txa.ok {R : Value → World → Prop} {m : Option Addr} {i_0 : Int} {i_1 : Int} {i_2 : Int} {i_3 : Int} {w : World} (h : machine_Machine_txa.vc R m i_0 i_1 i_2 i_3 w) : Run Try.prog 95 #[(.pointer m), (.agg #[(.int .u16 i_0), (.int .u8 i_1), (.int .u8 i_2), (.int .u32 i_3)])] w R := by
  have h2 := Eq.mpr (machine_Machine_txa.eq R m i_0 i_1 i_2 i_3 w) h
  exact fn_sound Try.mixed Try.func95 (by kernel_rfl) h2

/-! ### riddle/machine.Reckon: function 118 -/
noncomputable def machine_Reckon.body : Code := bodyOf Try.f118
def machine_Reckon.live : Nat → List Nat
  | _ => []
@[reducible] def machine_Reckon.vc (R : Value → World → Prop) (code_ : Int) (x : Int) (y : Int) (w : World) : Prop :=
  ifP ((andNotI .u16 code_ 8 : Int) == 4)
    (R (.tuple #[(.int .u32 (IntKind.u32.wrap (x + y))), (.bool true)]) w)
    (ifP ((andNotI .u16 code_ 8 : Int) == 20)
    (R (.tuple #[(.int .u32 (IntKind.u32.wrap (x - y))), (.bool true)]) w)
    (ifP ((andNotI .u16 code_ 8 : Int) == 36)
    (R (.tuple #[(.int .u32 (IntKind.u32.wrap (x * y))), (.bool true)]) w)
    (ifP ((andNotI .u16 code_ 8 : Int) == 68)
    (R (.tuple #[(.int .u32 (orI .u32 x y)), (.bool true)]) w)
    (ifP ((andNotI .u16 code_ 8 : Int) == 84)
    (R (.tuple #[(.int .u32 (andI .u32 x y)), (.bool true)]) w)
    (ifP ((andNotI .u16 code_ 8 : Int) == 164)
    (R (.tuple #[(.int .u32 (xorI .u32 x y)), (.bool true)]) w)
    (ifP ((andNotI .u16 code_ 8 : Int) == 100)
    (0 ≤ y ∧ R (.tuple #[(.int .u32 (IntKind.u32.wrap (x * 2 ^ (min (Int.toNat y) (IntKind.bits .u32))))), (.bool true)]) w)
    (ifP ((andNotI .u16 code_ 8 : Int) == 116)
    (0 ≤ y ∧ R (.tuple #[(.int .u32 (Int.fdiv x (2 ^ (min (Int.toNat y) (IntKind.bits .u32))))), (.bool true)]) w)
    (ifP ((y : Int) == 0)
    (R (.tuple #[(.int .u32 0), (.bool false)]) w)
    (ifP ((andNotI .u16 code_ 8 : Int) == 52)
    (y ≠ 0 ∧ R (.tuple #[(.int .u32 (IntKind.u32.wrap (Int.tdiv x y))), (.bool true)]) w)
    (y ≠ 0 ∧ R (.tuple #[(.int .u32 (Int.tmod x y)), (.bool true)]) w))))))))))

theorem machine_Reckon.eq (R : Value → World → Prop) (code_ : Int) (x : Int) (y : Int) (w : World) : fnVC Try.prog none machine_Reckon.live Try.f118 R [(.int .u16 code_), (.int .u32 x), (.int .u32 y)] w = machine_Reckon.vc R code_ x y w := by kernel_rfl
set_option maxHeartbeats 4000000 in
theorem machine_Reckon.ok {R : Value → World → Prop} {code_ : Int} {x : Int} {y : Int} {w : World} (h : machine_Reckon.vc R code_ x y w) : Run Try.prog 118 #[(.int .u16 code_), (.int .u32 x), (.int .u32 y)] w R := by
  have h2 := Eq.mpr (machine_Reckon.eq R code_ x y w) h
  exact fn_sound Try.mixed Try.func118 (by kernel_rfl) h2

/-! ### (*riddle/machine.Words).Right: function 119 -/
noncomputable def machine_Words_Right.body : Code := bodyOf Try.f119
def machine_Words_Right.live : Nat → List Nat
  | _ => []
@[reducible] def machine_Words_Right.vc (R : Value → World → Prop) (w : Option Addr) (i_0 : Int) (i_1 : Int) (i_2 : Int) (i_3 : Int) (w_2 : World) : Prop :=
  letW (w_2.alloc (.cells #[(.int .u16 i_0), (.int .u8 i_1), (.int .u8 i_2), (.int .u32 i_3)] 47)) fun w_3 => ∃ t6 : Int, w_3.cell? (newA w_2) = some (.int .u16 t6) ∧ ifP ((andI .u16 t6 8 : Int) != 0)
    (∃ t10p : Addr, w = some t10p ∧ ∃ t12 : Int, w_3.cell? (t10p.add 1) = some (.int .u32 t12) ∧ R (.int .u32 t12) w_3)
    (∃ t14 : Int, w_3.cell? ((newA w_2).add 3) = some (.int .u32 t14) ∧ R (.int .u32 t14) w_3)

theorem machine_Words_Right.eq (R : Value → World → Prop) (w : Option Addr) (i_0 : Int) (i_1 : Int) (i_2 : Int) (i_3 : Int) (w_2 : World) : fnVC Try.prog none machine_Words_Right.live Try.f119 R [(.pointer w), (.agg #[(.int .u16 i_0), (.int .u8 i_1), (.int .u8 i_2), (.int .u32 i_3)])] w_2 = machine_Words_Right.vc R w i_0 i_1 i_2 i_3 w_2 := by kernel_rfl
set_option maxHeartbeats 4000000 in
theorem machine_Words_Right.ok {R : Value → World → Prop} {w : Option Addr} {i_0 : Int} {i_1 : Int} {i_2 : Int} {i_3 : Int} {w_2 : World} (h : machine_Words_Right.vc R w i_0 i_1 i_2 i_3 w_2) : Run Try.prog 119 #[(.pointer w), (.agg #[(.int .u16 i_0), (.int .u8 i_1), (.int .u8 i_2), (.int .u32 i_3)])] w_2 R := by
  have h2 := Eq.mpr (machine_Words_Right.eq R w i_0 i_1 i_2 i_3 w_2) h
  exact fn_sound Try.mixed Try.func119 (by kernel_rfl) h2

/-! ### (*riddle/machine.Machine).alu: function 96 -/
noncomputable def machine_Machine_alu.body : Code := bodyOf Try.f96
def machine_Machine_alu.live : Nat → List Nat
  | _ => []
def machine_Machine_alu.J0 (R : Value → World → Prop) (m : Option Addr) (v : Int) (ok_ : Bool) (w : World) : Prop :=
  ifP (!ok_)
    (∃ t25p : Addr, m = some t25p ∧ (∃ u : Value, w.cell? (t25p.add 19) = some u) ∧ w.frozen? (t25p.add 19) = false ∧ letW (w.setCell (t25p.add 19) (.int .i64 2)) fun w_2 => R (.tuple #[]) w_2)
    (∃ t29p : Addr, m = some t29p ∧ (∃ u : Value, w.cell? t29p = some u) ∧ w.frozen? t29p = false ∧ letW (w.setCell t29p (.int .u32 v)) fun w_3 => R (.tuple #[]) w_3)

@[reducible] def machine_Machine_alu.vc (R : Value → World → Prop) (m : Option Addr) (i_0 : Int) (i_1 : Int) (i_2 : Int) (i_3 : Int) (w : World) : Prop :=
  letW (w.alloc (.cells #[(.int .u16 i_0), (.int .u8 i_1), (.int .u8 i_2), (.int .u32 i_3)] 47)) fun w_2 => ∃ S_ : World → Prop, S_ w_2.drew ∧ letW w_2.drew fun w_3 => ∃ t8 : Int, (∀ u : World, S_ u → u.cell? (newA w) = some (.int .u16 t8)) ∧ ∃ t10p : Addr, m = some t10p ∧ ∃ t13 : Int, (∀ u_2 : World, S_ u_2 → u_2.cell? t10p = some (.int .u32 t13)) ∧ ∃ t15p : Addr, m = some t15p ∧ ∃ t17_0 : Int, (∀ u_3 : World, S_ u_3 → u_3.cell? (newA w) = some (.int .u16 t17_0)) ∧ ∃ t17_1 : Int, (∀ u_4 : World, S_ u_4 → u_4.cell? ((newA w).add 1) = some (.int .u8 t17_1)) ∧ ∃ t17_2 : Int, (∀ u_5 : World, S_ u_5 → u_5.cell? ((newA w).add 2) = some (.int .u8 t17_2)) ∧ ∃ t17_3 : Int, (∀ u_6 : World, S_ u_6 → u_6.cell? ((newA w).add 3) = some (.int .u32 t17_3)) ∧ Run Try.prog 119 #[(.pointer (some t15p)), (.agg #[(.int .u16 t17_0), (.int .u8 t17_1), (.int .u8 t17_2), (.int .u32 t17_3)])] w_3 fun v w_4 => ∃ t18 : Int, v = (.int .u32 t18) ∧ S_ w_4 ∧ Run Try.prog 118 #[(.int .u16 t8), (.int .u32 t13), (.int .u32 t18)] w_4 fun v_2 w_5 => ∃ t190 : Int, ∃ t191 : Bool, v_2 = (.tuple #[(.int .u32 t190), (.bool t191)]) ∧ machine_Machine_alu.J0 R m t190 t191 w_5

theorem machine_Machine_alu.eq (R : Value → World → Prop) (m : Option Addr) (i_0 : Int) (i_1 : Int) (i_2 : Int) (i_3 : Int) (w : World) : fnVC Try.prog none machine_Machine_alu.live Try.f96 R [(.pointer m), (.agg #[(.int .u16 i_0), (.int .u8 i_1), (.int .u8 i_2), (.int .u32 i_3)])] w = machine_Machine_alu.vc R m i_0 i_1 i_2 i_3 w := by kernel_rfl
set_option maxHeartbeats 4000000 in
theorem machine_Machine_alu.ok {R : Value → World → Prop} {m : Option Addr} {i_0 : Int} {i_1 : Int} {i_2 : Int} {i_3 : Int} {w : World} (h : machine_Machine_alu.vc R m i_0 i_1 i_2 i_3 w) : Run Try.prog 96 #[(.pointer m), (.agg #[(.int .u16 i_0), (.int .u8 i_1), (.int .u8 i_2), (.int .u32 i_3)])] w R := by
  have h2 := Eq.mpr (machine_Machine_alu.eq R m i_0 i_1 i_2 i_3 w) h
  exact fn_sound Try.mixed Try.func96 (by kernel_rfl) h2

/-! ### riddle/machine.Table: function 49 -/
noncomputable def machine_Table.body : Code := bodyOf Try.f49
def machine_Table.live : Nat → List Nat
  | 0 => [1, 6, 7, 8]
  | _ => []
noncomputable def machine_Table.c0 : Code := sub machine_Table.body [1, 1, 0, 1, 0, 0]
def machine_Table.K0 (R : Value → World → Prop) : Ex → St → World → Prop := (blockK 0 (thenK (fun st w => code Try.prog none machine_Table.live 0 (sub machine_Table.body [1, 1, 1]) (retK Try.prog Try.f49 R) st w) (retK Try.prog Try.f49 R)))
def machine_Table.L0 (R : Value → World → Prop) (t : Addr) (t6A : Option Addr) (t6n : Nat) (t6c : Nat) (t7 : Int) (t8 : Int) (w : World) : Prop :=
  loopVC (fun K => code Try.prog none machine_Table.live 0 machine_Table.c0 K) (machine_Table.live 0) (machine_Table.K0 R) [undef, (.pointer (some t)), undef, undef, undef, undef, (.slice t6A t6n t6c), (.int .i64 t7), (.int .i64 t8), undef, undef, undef, undef, undef, undef, undef, undef, undef, undef, undef, undef, undef, undef] w
def machine_Table.J0 (R : Value → World → Prop) (t : Addr) (t6A : Option Addr) (t6n : Nat) (t6c : Nat) (t7 : Int) (t8 : Int) (w : World) : Prop :=
  machine_Table.L0 R t t6A t6n t6c t7 (IntKind.i64.wrap (t8 + 1)) w

@[reducible] def machine_Table.B0 (R : Value → World → Prop) (t : Addr) (t6A : Option Addr) (t6n : Nat) (t6c : Nat) (t7 : Int) (t8 : Int) (w : World) : Prop :=
  ifP (decide ((t8 : Int) < t7))
    (0 ≤ (t8 : Int) ∧ (t8 : Int) < ((t6n : Nat) : Int) ∧ ∃ t10p : Addr, t6A = some t10p ∧ ∃ t11 : Int, w.cell? (t10p.add (Int.toNat t8 * 1)) = some (.int .u16 t11) ∧ letW w.drew fun w_2 => ∃ t17p : Addr, some t = some t17p ∧ 0 ≤ (t11 : Int) ∧ (t11 : Int) < ((256 : Nat) : Int) ∧ ∃ t19p : Addr, some t = some t19p ∧ (∃ u : Value, w_2.cell? (t17p.add (Int.toNat t11 * 1)) = some u) ∧ w_2.frozen? (t17p.add (Int.toNat t11 * 1)) = false ∧ letW (w_2.setCell (t17p.add (Int.toNat t11 * 1)) (.func (.func 96) #[] #[])) fun w_3 => 0 ≤ (orI .u16 t11 8 : Int) ∧ (orI .u16 t11 8 : Int) < ((256 : Nat) : Int) ∧ (∃ u : Value, w_3.cell? (t19p.add (Int.toNat (orI .u16 t11 8) * 1)) = some u) ∧ w_3.frozen? (t19p.add (Int.toNat (orI .u16 t11 8) * 1)) = false ∧ letW (w_3.setCell (t19p.add (Int.toNat (orI .u16 t11 8) * 1)) (.func (.func 96) #[] #[])) fun w_4 => machine_Table.J0 R t t6A t6n t6c t7 t8 w_4)
    (R (.pointer (some t)) w)

@[reducible] def machine_Table.vc (R : Value → World → Prop) (w : World) : Prop :=
  letW (w.alloc (.cells #[(.func (.func 78) #[] #[]), (.func (.func 87) #[] #[]), (.func (.func 91) #[] #[]), (.func (.func 92) #[] #[]), .nilFunc, .nilFunc, .nilFunc, (.func (.func 94) #[] #[]), .nilFunc, .nilFunc, .nilFunc, .nilFunc, .nilFunc, .nilFunc, .nilFunc, .nilFunc, .nilFunc, .nilFunc, .nilFunc, .nilFunc, .nilFunc, .nilFunc, .nilFunc, .nilFunc, .nilFunc, .nilFunc, .nilFunc, .nilFunc, .nilFunc, .nilFunc, .nilFunc, .nilFunc, (.func (.func 79) #[] #[]), .nilFunc, .nilFunc, .nilFunc, .nilFunc, .nilFunc, .nilFunc, .nilFunc, (.func (.func 80) #[] #[]), .nilFunc, .nilFunc, .nilFunc, .nilFunc, .nilFunc, .nilFunc, .nilFunc, (.func (.func 81) #[] #[]), .nilFunc, .nilFunc, .nilFunc, .nilFunc, .nilFunc, .nilFunc, .nilFunc, .nilFunc, .nilFunc, .nilFunc, .nilFunc, .nilFunc, .nilFunc, .nilFunc, .nilFunc, (.func (.func 82) #[] #[]), .nilFunc, .nilFunc, .nilFunc, .nilFunc, .nilFunc, .nilFunc, .nilFunc, (.func (.func 83) #[] #[]), .nilFunc, .nilFunc, .nilFunc, .nilFunc, .nilFunc, .nilFunc, .nilFunc, (.func (.func 84) #[] #[]), .nilFunc, .nilFunc, .nilFunc, .nilFunc, .nilFunc, .nilFunc, .nilFunc, .nilFunc, .nilFunc, .nilFunc, .nilFunc, .nilFunc, .nilFunc, .nilFunc, .nilFunc, (.func (.func 85) #[] #[]), (.func (.func 88) #[] #[]), .nilFunc, .nilFunc, .nilFunc, .nilFunc, .nilFunc, .nilFunc, .nilFunc, .nilFunc, .nilFunc, .nilFunc, .nilFunc, .nilFunc, .nilFunc, .nilFunc, .nilFunc, .nilFunc, .nilFunc, .nilFunc, .nilFunc, .nilFunc, .nilFunc, .nilFunc, .nilFunc, .nilFunc, .nilFunc, .nilFunc, .nilFunc, .nilFunc, .nilFunc, .nilFunc, (.func (.func 86) #[] #[]), (.func (.func 89) #[] #[]), .nilFunc, .nilFunc, (.func (.func 93) #[] #[]), .nilFunc, .nilFunc, (.func (.func 95) #[] #[]), .nilFunc, .nilFunc, .nilFunc, .nilFunc, .nilFunc, .nilFunc, .nilFunc, .nilFunc, .nilFunc, .nilFunc, .nilFunc, .nilFunc, .nilFunc, .nilFunc, .nilFunc, .nilFunc, .nilFunc, .nilFunc, .nilFunc, .nilFunc, .nilFunc, .nilFunc, .nilFunc, .nilFunc, .nilFunc, .nilFunc, .nilFunc, .nilFunc, .nilFunc, .nilFunc, .nilFunc, .nilFunc, .nilFunc, .nilFunc, .nilFunc, .nilFunc, .nilFunc, .nilFunc, .nilFunc, .nilFunc, .nilFunc, (.func (.func 90) #[] #[]), .nilFunc, .nilFunc, .nilFunc, .nilFunc, .nilFunc, .nilFunc, .nilFunc, .nilFunc, .nilFunc, .nilFunc, .nilFunc, .nilFunc, .nilFunc, .nilFunc, .nilFunc, .nilFunc, .nilFunc, .nilFunc, .nilFunc, .nilFunc, .nilFunc, .nilFunc, .nilFunc, .nilFunc, .nilFunc, .nilFunc, .nilFunc, .nilFunc, .nilFunc, .nilFunc, .nilFunc, .nilFunc, .nilFunc, .nilFunc, .nilFunc, .nilFunc, .nilFunc, .nilFunc, .nilFunc, .nilFunc, .nilFunc, .nilFunc, .nilFunc, .nilFunc, .nilFunc, .nilFunc, .nilFunc, .nilFunc, .nilFunc, .nilFunc, .nilFunc, .nilFunc, .nilFunc, .nilFunc, .nilFunc, .nilFunc, .nilFunc, .nilFunc, .nilFunc, .nilFunc, .nilFunc, .nilFunc, .nilFunc, .nilFunc, .nilFunc, .nilFunc, .nilFunc, .nilFunc, .nilFunc, .nilFunc, .nilFunc, .nilFunc, .nilFunc, .nilFunc, .nilFunc, .nilFunc, .nilFunc, .nilFunc] 117)) fun w_2 => letW (w_2.alloc (.cells #[(.int .u16 4), (.int .u16 20), (.int .u16 36), (.int .u16 52), (.int .u16 68), (.int .u16 84), (.int .u16 100), (.int .u16 116), (.int .u16 148), (.int .u16 164)] 45)) fun w_3 => machine_Table.L0 R (newA w) (some (newA w_2)) 10 10 ((10 : Nat) : Int) 0 w_3

theorem machine_Table.B0_eq (R : Value → World → Prop) (t : Addr) (t6A : Option Addr) (t6n : Nat) (t6c : Nat) (t7 : Int) (t8 : Int) (w : World) (ts : Nat → Value) :
    code Try.prog none machine_Table.live 0 machine_Table.c0 (thenK (fun st w => loopVC (fun K => code Try.prog none machine_Table.live 0 machine_Table.c0 K) (machine_Table.live 0) (machine_Table.K0 R) (clearFrom (machine_Table.live 0) 0 st) w) (machine_Table.K0 R)) (mergeFrom (machine_Table.live 0) ts 0 (clearFrom (machine_Table.live 0) 0 [undef, (.pointer (some t)), undef, undef, undef, undef, (.slice t6A t6n t6c), (.int .i64 t7), (.int .i64 t8), undef, undef, undef, undef, undef, undef, undef, undef, undef, undef, undef, undef, undef, undef])) w = machine_Table.B0 R t t6A t6n t6c t7 t8 w := by kernel_rfl
theorem machine_Table.L0_step {R : Value → World → Prop} {t : Addr} {t6A : Option Addr} {t6n : Nat} {t6c : Nat} {t7 : Int} {t8 : Int} {w : World} (h : machine_Table.B0 R t t6A t6n t6c t7 t8 w) : machine_Table.L0 R t t6A t6n t6c t7 t8 w :=
  loop_step (live := machine_Table.live) (b := 0) (x := machine_Table.c0) fun ts => Eq.mpr (machine_Table.B0_eq R t t6A t6n t6c t7 t8 w ts) h
theorem machine_Table.eq (R : Value → World → Prop) (w : World) : fnVC Try.prog none machine_Table.live Try.f49 R [] w = machine_Table.vc R  w := by kernel_rfl
set_option maxHeartbeats 4000000 in
theorem machine_Table.ok {R : Value → World → Prop} {w : World} (h : machine_Table.vc R  w) : Run Try.prog 49 #[] w R := by
  have h2 := Eq.mpr (machine_Table.eq R  w) h
  exact fn_sound Try.mixed Try.func49 (by kernel_rfl) h2

/-! ### (*riddle/graph.run).straight: function 50 -/
noncomputable def graph_run_straight.body : Code := bodyOf Try.f50
def graph_run_straight.live : Nat → List Nat
  | 0 => [0, 2, 8, 9, 10]
  | _ => []
noncomputable def graph_run_straight.c0 : Code := sub graph_run_straight.body [1, 0, 0]
def graph_run_straight.K0 (R : Value → World → Prop) : Ex → St → World → Prop := (blockK 0 (retK Try.prog Try.f50 R))
def graph_run_straight.L0 (R : Value → World → Prop) (r : Option Addr) (does : Option Addr) (t8A : Option Addr) (t8n : Nat) (t8c : Nat) (t9 : Int) (t10 : Int) (w : World) : Prop :=
  loopVC (fun K => code Try.prog none graph_run_straight.live 0 graph_run_straight.c0 K) (graph_run_straight.live 0) (graph_run_straight.K0 R) [(.pointer r), undef, (.pointer does), undef, undef, undef, undef, undef, (.slice t8A t8n t8c), (.int .i64 t9), (.int .i64 t10), undef, undef, undef, undef, undef, undef, undef, undef, undef, undef, undef, undef, undef, undef, undef, undef, undef, undef, undef, undef, undef, undef, undef, undef, undef, undef, undef, undef] w
@[reducible] def graph_run_straight.B0 (R : Value → World → Prop) (r : Option Addr) (does : Option Addr) (t8A : Option Addr) (t8n : Nat) (t8c : Nat) (t9 : Int) (t10 : Int) (w : World) : Prop :=
  ifP (decide ((t10 : Int) < t9))
    (0 ≤ (t10 : Int) ∧ (t10 : Int) < ((t8n : Nat) : Int) ∧ ∃ t12p : Addr, t8A = some t12p ∧ ∃ t13_0 : Int, w.cell? (t12p.add (Int.toNat t10 * 4)) = some (.int .u16 t13_0) ∧ ∃ t13_1 : Int, w.cell? ((t12p.add (Int.toNat t10 * 4)).add 1) = some (.int .u8 t13_1) ∧ ∃ t13_2 : Int, w.cell? ((t12p.add (Int.toNat t10 * 4)).add 2) = some (.int .u8 t13_2) ∧ ∃ t13_3 : Int, w.cell? ((t12p.add (Int.toNat t10 * 4)).add 3) = some (.int .u32 t13_3) ∧ letW (w.alloc (.cells #[(.int .u16 0), (.int .u8 0), (.int .u8 0), (.int .u32 0)] 47)) fun w_2 => storeRow (newA w) 0 [(.int .u16 t13_0), (.int .u8 t13_1), (.int .u8 t13_2), (.int .u32 t13_3)] w_2 fun w_3 => ∃ t15p : Addr, r = some t15p ∧ ∃ t18 : Int, w_3.cell? (t15p.add 19) = some (.int .i64 t18) ∧ ifP ((t18 : Int) != 0)
    (R (.tuple #[]) w_3)
    (∃ t21p : Addr, r = some t21p ∧ ∃ t23 : Int, w_3.cell? (t21p.add 20) = some (.int .i64 t23) ∧ ∃ t25p : Addr, r = some t25p ∧ (∃ u : Value, w_3.cell? (t25p.add 20) = some u) ∧ w_3.frozen? (t25p.add 20) = false ∧ letW (w_3.setCell (t25p.add 20) (.int .i64 (IntKind.i64.wrap (t23 + 1)))) fun w_4 => ∃ S_ : World → Prop, S_ w_4.drew ∧ letW w_4.drew fun w_5 => ∃ t29 : Int, (∀ u : World, S_ u → u.cell? (newA w) = some (.int .u16 t29)) ∧ ∃ t30p : Addr, does = some t30p ∧ 0 ≤ (t29 : Int) ∧ (t29 : Int) < ((256 : Nat) : Int) ∧ ∃ t32 : Value, (∀ u_2 : World, S_ u_2 → u_2.cell? (t30p.add (Int.toNat t29 * 1)) = some t32) ∧ ∃ t34p : Addr, r = some t34p ∧ ∃ t36_0 : Int, (∀ u_3 : World, S_ u_3 → u_3.cell? (newA w) = some (.int .u16 t36_0)) ∧ ∃ t36_1 : Int, (∀ u_4 : World, S_ u_4 → u_4.cell? ((newA w).add 1) = some (.int .u8 t36_1)) ∧ ∃ t36_2 : Int, (∀ u_5 : World, S_ u_5 → u_5.cell? ((newA w).add 2) = some (.int .u8 t36_2)) ∧ ∃ t36_3 : Int, (∀ u_6 : World, S_ u_6 → u_6.cell? ((newA w).add 3) = some (.int .u32 t36_3)) ∧ ∃ (g : FuncId) (fs cs : Array Value), t32 = .func (.func g) fs cs ∧ okCall Try.prog g = true ∧ Run Try.prog g (fs ++ #[(.pointer (some t34p)), (.agg #[(.int .u16 t36_0), (.int .u8 t36_1), (.int .u8 t36_2), (.int .u32 t36_3)])] ++ cs) w_5 fun v w_6 => v = (.tuple #[]) ∧ graph_run_straight.L0 R r does t8A t8n t8c t9 (IntKind.i64.wrap (t10 + 1)) w_6))
    (R (.tuple #[]) w)

@[reducible] def graph_run_straight.vc (R : Value → World → Prop) (r : Option Addr) (codeA : Option Addr) (coden : Nat) (codec : Nat) (does : Option Addr) (w : World) : Prop :=
  graph_run_straight.L0 R r does codeA coden codec ((coden : Nat) : Int) 0 w

theorem graph_run_straight.B0_eq (R : Value → World → Prop) (r : Option Addr) (does : Option Addr) (t8A : Option Addr) (t8n : Nat) (t8c : Nat) (t9 : Int) (t10 : Int) (w : World) (ts : Nat → Value) :
    code Try.prog none graph_run_straight.live 0 graph_run_straight.c0 (thenK (fun st w => loopVC (fun K => code Try.prog none graph_run_straight.live 0 graph_run_straight.c0 K) (graph_run_straight.live 0) (graph_run_straight.K0 R) (clearFrom (graph_run_straight.live 0) 0 st) w) (graph_run_straight.K0 R)) (mergeFrom (graph_run_straight.live 0) ts 0 (clearFrom (graph_run_straight.live 0) 0 [(.pointer r), undef, (.pointer does), undef, undef, undef, undef, undef, (.slice t8A t8n t8c), (.int .i64 t9), (.int .i64 t10), undef, undef, undef, undef, undef, undef, undef, undef, undef, undef, undef, undef, undef, undef, undef, undef, undef, undef, undef, undef, undef, undef, undef, undef, undef, undef, undef, undef])) w = graph_run_straight.B0 R r does t8A t8n t8c t9 t10 w := by kernel_rfl
theorem graph_run_straight.L0_step {R : Value → World → Prop} {r : Option Addr} {does : Option Addr} {t8A : Option Addr} {t8n : Nat} {t8c : Nat} {t9 : Int} {t10 : Int} {w : World} (h : graph_run_straight.B0 R r does t8A t8n t8c t9 t10 w) : graph_run_straight.L0 R r does t8A t8n t8c t9 t10 w :=
  loop_step (live := graph_run_straight.live) (b := 0) (x := graph_run_straight.c0) fun ts => Eq.mpr (graph_run_straight.B0_eq R r does t8A t8n t8c t9 t10 w ts) h
theorem graph_run_straight.eq (R : Value → World → Prop) (r : Option Addr) (codeA : Option Addr) (coden : Nat) (codec : Nat) (does : Option Addr) (w : World) : fnVC Try.prog none graph_run_straight.live Try.f50 R [(.pointer r), (.slice codeA coden codec), (.pointer does)] w = graph_run_straight.vc R r codeA coden codec does w := by kernel_rfl
set_option maxHeartbeats 4000000 in
theorem graph_run_straight.ok {R : Value → World → Prop} {r : Option Addr} {codeA : Option Addr} {coden : Nat} {codec : Nat} {does : Option Addr} {w : World} (h : graph_run_straight.vc R r codeA coden codec does w) : Run Try.prog 50 #[(.pointer r), (.slice codeA coden codec), (.pointer does)] w R := by
  have h2 := Eq.mpr (graph_run_straight.eq R r codeA coden codec does w) h
  exact fn_sound Try.mixed Try.func50 (by kernel_rfl) h2

/-! ### (*riddle/machine.Words).Back: function 97 -/
noncomputable def machine_Words_Back.body : Code := bodyOf Try.f97
def machine_Words_Back.live : Nat → List Nat
  | _ => []
@[reducible] def machine_Words_Back.vc (R : Value → World → Prop) (w : Option Addr) (i_0 : Int) (i_1 : Int) (i_2 : Int) (i_3 : Int) (w_2 : World) : Prop :=
  letW (w_2.alloc (.cells #[(.int .u16 i_0), (.int .u8 i_1), (.int .u8 i_2), (.int .u32 i_3)] 47)) fun w_3 => ∃ t6 : Int, w_3.cell? (newA w_2) = some (.int .u16 t6) ∧ ifP ((t6 : Int) == 22)
    (∃ t9p : Addr, w = some t9p ∧ ∃ t11 : Int, w_3.cell? t9p = some (.int .u32 t11) ∧ R (.int .u32 t11) w_3)
    (∃ t13 : Int, w_3.cell? ((newA w_2).add 3) = some (.int .u32 t13) ∧ R (.int .u32 t13) w_3)

theorem machine_Words_Back.eq (R : Value → World → Prop) (w : Option Addr) (i_0 : Int) (i_1 : Int) (i_2 : Int) (i_3 : Int) (w_2 : World) : fnVC Try.prog none machine_Words_Back.live Try.f97 R [(.pointer w), (.agg #[(.int .u16 i_0), (.int .u8 i_1), (.int .u8 i_2), (.int .u32 i_3)])] w_2 = machine_Words_Back.vc R w i_0 i_1 i_2 i_3 w_2 := by kernel_rfl
set_option maxHeartbeats 4000000 in
theorem machine_Words_Back.ok {R : Value → World → Prop} {w : Option Addr} {i_0 : Int} {i_1 : Int} {i_2 : Int} {i_3 : Int} {w_2 : World} (h : machine_Words_Back.vc R w i_0 i_1 i_2 i_3 w_2) : Run Try.prog 97 #[(.pointer w), (.agg #[(.int .u16 i_0), (.int .u8 i_1), (.int .u8 i_2), (.int .u32 i_3)])] w_2 R := by
  have h2 := Eq.mpr (machine_Words_Back.eq R w i_0 i_1 i_2 i_3 w_2) h
  exact fn_sound Try.mixed Try.func97 (by kernel_rfl) h2

/-! ### riddle/machine.Holds: function 120 -/
noncomputable def machine_Holds.body : Code := bodyOf Try.f120
def machine_Holds.live : Nat → List Nat
  | _ => []
@[reducible] def machine_Holds.vc (R : Value → World → Prop) (code_ : Int) (x : Int) (y : Int) (w : World) : Prop :=
  ifP ((andNotI .u16 code_ 8 : Int) == 21)
    (R (.bool ((x : Int) == y)) w)
    (ifP ((andNotI .u16 code_ 8 : Int) == 37)
    (R (.bool (decide ((x : Int) > y))) w)
    (ifP ((andNotI .u16 code_ 8 : Int) == 53)
    (R (.bool (decide ((x : Int) ≥ y))) w)
    (R (.bool ((andI .u32 x y : Int) != 0)) w)))

theorem machine_Holds.eq (R : Value → World → Prop) (code_ : Int) (x : Int) (y : Int) (w : World) : fnVC Try.prog none machine_Holds.live Try.f120 R [(.int .u16 code_), (.int .u32 x), (.int .u32 y)] w = machine_Holds.vc R code_ x y w := by kernel_rfl
set_option maxHeartbeats 4000000 in
theorem machine_Holds.ok {R : Value → World → Prop} {code_ : Int} {x : Int} {y : Int} {w : World} (h : machine_Holds.vc R code_ x y w) : Run Try.prog 120 #[(.int .u16 code_), (.int .u32 x), (.int .u32 y)] w R := by
  have h2 := Eq.mpr (machine_Holds.eq R code_ x y w) h
  exact fn_sound Try.mixed Try.func120 (by kernel_rfl) h2

/-! ### (*riddle/machine.Words).Asks: function 98 -/
noncomputable def machine_Words_Asks.body : Code := bodyOf Try.f98
def machine_Words_Asks.live : Nat → List Nat
  | _ => []
def machine_Words_Asks.J0 (R : Value → World → Prop) (t4 : Bool) (w : World) : Prop :=
  R (.bool t4) w

@[reducible] def machine_Words_Asks.vc (R : Value → World → Prop) (w : Option Addr) (i_0 : Int) (i_1 : Int) (i_2 : Int) (i_3 : Int) (w_2 : World) : Prop :=
  letW (w_2.alloc (.cells #[(.int .u16 i_0), (.int .u8 i_1), (.int .u8 i_2), (.int .u32 i_3)] 47)) fun w_3 => ∃ S_ : World → Prop, S_ w_3.drew ∧ letW w_3.drew fun w_4 => ∃ t6 : Int, (∀ u : World, S_ u → u.cell? (newA w_2) = some (.int .u16 t6)) ∧ ∃ t8p : Addr, w = some t8p ∧ ∃ t10 : Int, (∀ u_2 : World, S_ u_2 → u_2.cell? t8p = some (.int .u32 t10)) ∧ ∃ t12_0 : Int, (∀ u_3 : World, S_ u_3 → u_3.cell? (newA w_2) = some (.int .u16 t12_0)) ∧ ∃ t12_1 : Int, (∀ u_4 : World, S_ u_4 → u_4.cell? ((newA w_2).add 1) = some (.int .u8 t12_1)) ∧ ∃ t12_2 : Int, (∀ u_5 : World, S_ u_5 → u_5.cell? ((newA w_2).add 2) = some (.int .u8 t12_2)) ∧ ∃ t12_3 : Int, (∀ u_6 : World, S_ u_6 → u_6.cell? ((newA w_2).add 3) = some (.int .u32 t12_3)) ∧ Run Try.prog 119 #[(.pointer w), (.agg #[(.int .u16 t12_0), (.int .u8 t12_1), (.int .u8 t12_2), (.int .u32 t12_3)])] w_4 fun v w_5 => ∃ t13 : Int, v = (.int .u32 t13) ∧ S_ w_5 ∧ Run Try.prog 120 #[(.int .u16 t6), (.int .u32 t10), (.int .u32 t13)] w_5 fun v_2 w_6 => ∃ t14 : Bool, v_2 = (.bool t14) ∧ machine_Words_Asks.J0 R t14 w_6

theorem machine_Words_Asks.eq (R : Value → World → Prop) (w : Option Addr) (i_0 : Int) (i_1 : Int) (i_2 : Int) (i_3 : Int) (w_2 : World) : fnVC Try.prog none machine_Words_Asks.live Try.f98 R [(.pointer w), (.agg #[(.int .u16 i_0), (.int .u8 i_1), (.int .u8 i_2), (.int .u32 i_3)])] w_2 = machine_Words_Asks.vc R w i_0 i_1 i_2 i_3 w_2 := by kernel_rfl
set_option maxHeartbeats 4000000 in
theorem machine_Words_Asks.ok {R : Value → World → Prop} {w : Option Addr} {i_0 : Int} {i_1 : Int} {i_2 : Int} {i_3 : Int} {w_2 : World} (h : machine_Words_Asks.vc R w i_0 i_1 i_2 i_3 w_2) : Run Try.prog 98 #[(.pointer w), (.agg #[(.int .u16 i_0), (.int .u8 i_1), (.int .u8 i_2), (.int .u32 i_3)])] w_2 R := by
  have h2 := Eq.mpr (machine_Words_Asks.eq R w i_0 i_1 i_2 i_3 w_2) h
  exact fn_sound Try.mixed Try.func98 (by kernel_rfl) h2

/-! ### (*riddle/graph.run).leave: function 51 -/
noncomputable def graph_run_leave.body : Code := bodyOf Try.f51
def graph_run_leave.live : Nat → List Nat
  | _ => []
def graph_run_leave.J0 (R : Value → World → Prop) (w : World) : Prop :=
  R (.tuple #[(.int .i64 0), (.bool false)]) w

@[reducible] def graph_run_leave.vc (R : Value → World → Prop) (r : Option Addr) (b_0A : Option Addr) (b_0n : Nat) (b_0c : Nat) (b_1 : Int) (b_2 : Int) (b_3 : Int) (b_4 : Int) (b_5 : Int) (b_6 : Int) (b_7 : Int) (w : World) : Prop :=
  letW (w.alloc (.cells #[(.slice b_0A b_0n b_0c), (.int .i64 b_1), (.int .u16 b_2), (.int .u8 b_3), (.int .u8 b_4), (.int .u32 b_5), (.int .i64 b_6), (.int .i64 b_7)] 49)) fun w_2 => ∃ t8p : Addr, r = some t8p ∧ ∃ t11 : Int, w_2.cell? (t8p.add 19) = some (.int .i64 t11) ∧ ifP ((t11 : Int) != 0)
    (R (.tuple #[(.int .i64 0), (.bool false)]) w_2)
    (∃ t15 : Int, w_2.cell? ((newA w).add 1) = some (.int .i64 t15) ∧ ifP ((t15 : Int) == 2)
    (∃ t18 : Int, w_2.cell? ((newA w).add 6) = some (.int .i64 t18) ∧ R (.tuple #[(.int .i64 t18), (.bool true)]) w_2)
    (∃ t20p : Addr, r = some t20p ∧ ∃ t22 : Int, w_2.cell? (t20p.add 20) = some (.int .i64 t22) ∧ ∃ t24p : Addr, r = some t24p ∧ (∃ u : Value, w_2.cell? (t24p.add 20) = some u) ∧ w_2.frozen? (t24p.add 20) = false ∧ letW (w_2.setCell (t24p.add 20) (.int .i64 (IntKind.i64.wrap (t22 + 1)))) fun w_3 => ∃ t27 : Int, w_3.cell? ((newA w).add 1) = some (.int .i64 t27) ∧ ifP ((t27 : Int) == 1)
    (∃ S_ : World → Prop, S_ w_3.drew ∧ letW w_3.drew fun w_4 => ∃ t31p : Addr, r = some t31p ∧ ∃ t35_0 : Int, (∀ u : World, S_ u → u.cell? ((newA w).add 2) = some (.int .u16 t35_0)) ∧ ∃ t35_1 : Int, (∀ u_2 : World, S_ u_2 → u_2.cell? (((newA w).add 2).add 1) = some (.int .u8 t35_1)) ∧ ∃ t35_2 : Int, (∀ u_3 : World, S_ u_3 → u_3.cell? (((newA w).add 2).add 2) = some (.int .u8 t35_2)) ∧ ∃ t35_3 : Int, (∀ u_4 : World, S_ u_4 → u_4.cell? (((newA w).add 2).add 3) = some (.int .u32 t35_3)) ∧ Run Try.prog 97 #[(.pointer (some t31p)), (.agg #[(.int .u16 t35_0), (.int .u8 t35_1), (.int .u8 t35_2), (.int .u32 t35_3)])] w_4 fun v w_5 => ∃ t36 : Int, v = (.int .u32 t36) ∧ ∃ t37p : Addr, r = some t37p ∧ (∃ u : Value, w_5.cell? (t37p.add 21) = some u) ∧ w_5.frozen? (t37p.add 21) = false ∧ letW (w_5.setCell (t37p.add 21) (.int .u32 t36)) fun w_6 => graph_run_leave.J0 R w_6)
    (∃ S__2 : World → Prop, S__2 w_3.drew ∧ letW w_3.drew fun w_7 => ∃ t40p : Addr, r = some t40p ∧ ∃ t44_0 : Int, (∀ u_5 : World, S__2 u_5 → u_5.cell? ((newA w).add 2) = some (.int .u16 t44_0)) ∧ ∃ t44_1 : Int, (∀ u_6 : World, S__2 u_6 → u_6.cell? (((newA w).add 2).add 1) = some (.int .u8 t44_1)) ∧ ∃ t44_2 : Int, (∀ u_7 : World, S__2 u_7 → u_7.cell? (((newA w).add 2).add 2) = some (.int .u8 t44_2)) ∧ ∃ t44_3 : Int, (∀ u_8 : World, S__2 u_8 → u_8.cell? (((newA w).add 2).add 3) = some (.int .u32 t44_3)) ∧ Run Try.prog 98 #[(.pointer (some t40p)), (.agg #[(.int .u16 t44_0), (.int .u8 t44_1), (.int .u8 t44_2), (.int .u32 t44_3)])] w_7 fun v_2 w_8 => ∃ t45 : Bool, v_2 = (.bool t45) ∧ ifP t45
    (∃ t47 : Int, w_8.cell? ((newA w).add 6) = some (.int .i64 t47) ∧ R (.tuple #[(.int .i64 t47), (.bool true)]) w_8)
    (∃ t49 : Int, w_8.cell? ((newA w).add 7) = some (.int .i64 t49) ∧ R (.tuple #[(.int .i64 t49), (.bool true)]) w_8))))

theorem graph_run_leave.eq (R : Value → World → Prop) (r : Option Addr) (b_0A : Option Addr) (b_0n : Nat) (b_0c : Nat) (b_1 : Int) (b_2 : Int) (b_3 : Int) (b_4 : Int) (b_5 : Int) (b_6 : Int) (b_7 : Int) (w : World) : fnVC Try.prog none graph_run_leave.live Try.f51 R [(.pointer r), (.agg #[(.slice b_0A b_0n b_0c), (.int .i64 b_1), (.int .u16 b_2), (.int .u8 b_3), (.int .u8 b_4), (.int .u32 b_5), (.int .i64 b_6), (.int .i64 b_7)])] w = graph_run_leave.vc R r b_0A b_0n b_0c b_1 b_2 b_3 b_4 b_5 b_6 b_7 w := by kernel_rfl
set_option maxHeartbeats 4000000 in
theorem graph_run_leave.ok {R : Value → World → Prop} {r : Option Addr} {b_0A : Option Addr} {b_0n : Nat} {b_0c : Nat} {b_1 : Int} {b_2 : Int} {b_3 : Int} {b_4 : Int} {b_5 : Int} {b_6 : Int} {b_7 : Int} {w : World} (h : graph_run_leave.vc R r b_0A b_0n b_0c b_1 b_2 b_3 b_4 b_5 b_6 b_7 w) : Run Try.prog 51 #[(.pointer r), (.agg #[(.slice b_0A b_0n b_0c), (.int .i64 b_1), (.int .u16 b_2), (.int .u8 b_3), (.int .u8 b_4), (.int .u32 b_5), (.int .i64 b_6), (.int .i64 b_7)])] w R := by
  have h2 := Eq.mpr (graph_run_leave.eq R r b_0A b_0n b_0c b_1 b_2 b_3 b_4 b_5 b_6 b_7 w) h
  exact fn_sound Try.mixed Try.func51 (by kernel_rfl) h2

/-! ### riddle/graph.Run: function 17 -/
noncomputable def graph_Run.body : Code := bodyOf Try.f17
def graph_Run.live : Nat → List Nat
  | 0 => [0, 4, 7, 8, 9, 10]
  | _ => []
noncomputable def graph_Run.c0 : Code := sub graph_Run.body [1, 1, 1, 1, 1, 0, 1, 0, 0]
def graph_Run.K0 (R : Value → World → Prop) : Ex → St → World → Prop := (blockK 0 (thenK (fun st w => code Try.prog none graph_Run.live 0 (sub graph_Run.body [1, 1, 1, 1, 1, 1]) (retK Try.prog Try.f17 R) st w) (retK Try.prog Try.f17 R)))
def graph_Run.L0 (R : Value → World → Prop) (gA : Option Addr) (gn : Nat) (gc : Nat) (t4 : Addr) (r : Addr) (does : Option Addr) (at_ : Int) (on : Bool) (w : World) : Prop :=
  loopVC (fun K => code Try.prog none graph_Run.live 0 graph_Run.c0 K) (graph_Run.live 0) (graph_Run.K0 R) [(.slice gA gn gc), undef, undef, undef, (.pointer (some t4)), undef, undef, (.pointer (some r)), (.pointer does), (.int .i64 at_), (.bool on), undef, undef, undef, undef, undef, undef, undef, undef, undef, undef, undef, undef, undef, undef, undef, undef, undef, undef, undef, undef, undef, undef, undef, undef, undef, undef, undef, undef, undef, undef, undef, undef, undef, undef, undef, undef, undef, undef, undef, undef, undef, undef, undef, undef, undef, undef, undef] w
@[reducible] def graph_Run.B0 (R : Value → World → Prop) (gA : Option Addr) (gn : Nat) (gc : Nat) (t4 : Addr) (r : Addr) (does : Option Addr) (at_ : Int) (on : Bool) (w : World) : Prop :=
  ifP on
    (0 ≤ (at_ : Int) ∧ (at_ : Int) < ((gn : Nat) : Int) ∧ ∃ t30p : Addr, gA = some t30p ∧ ∃ (t32A : Option Addr) (t32n t32c : Nat), w.cell? (t30p.add (Int.toNat at_ * 8)) = some (.slice t32A t32n t32c) ∧ Run Try.prog 50 #[(.pointer (some r)), (.slice t32A t32n t32c), (.pointer does)] w fun v w_2 => v = (.tuple #[]) ∧ 0 ≤ (at_ : Int) ∧ (at_ : Int) < ((gn : Nat) : Int) ∧ ∃ t39p : Addr, gA = some t39p ∧ ∃ (t40_0A : Option Addr) (t40_0n t40_0c : Nat), w_2.cell? (t39p.add (Int.toNat at_ * 8)) = some (.slice t40_0A t40_0n t40_0c) ∧ ∃ t40_1 : Int, w_2.cell? ((t39p.add (Int.toNat at_ * 8)).add 1) = some (.int .i64 t40_1) ∧ ∃ t40_2 : Int, w_2.cell? ((t39p.add (Int.toNat at_ * 8)).add 2) = some (.int .u16 t40_2) ∧ ∃ t40_3 : Int, w_2.cell? ((t39p.add (Int.toNat at_ * 8)).add 3) = some (.int .u8 t40_3) ∧ ∃ t40_4 : Int, w_2.cell? ((t39p.add (Int.toNat at_ * 8)).add 4) = some (.int .u8 t40_4) ∧ ∃ t40_5 : Int, w_2.cell? ((t39p.add (Int.toNat at_ * 8)).add 5) = some (.int .u32 t40_5) ∧ ∃ t40_6 : Int, w_2.cell? ((t39p.add (Int.toNat at_ * 8)).add 6) = some (.int .i64 t40_6) ∧ ∃ t40_7 : Int, w_2.cell? ((t39p.add (Int.toNat at_ * 8)).add 7) = some (.int .i64 t40_7) ∧ Run Try.prog 51 #[(.pointer (some r)), (.agg #[(.slice t40_0A t40_0n t40_0c), (.int .i64 t40_1), (.int .u16 t40_2), (.int .u8 t40_3), (.int .u8 t40_4), (.int .u32 t40_5), (.int .i64 t40_6), (.int .i64 t40_7)])] w_2 fun v_2 w_3 => ∃ t410 : Int, ∃ t411 : Bool, v_2 = (.tuple #[(.int .i64 t410), (.bool t411)]) ∧ graph_Run.L0 R gA gn gc t4 r does t410 t411 w_3)
    (∃ S_ : World → Prop, S_ w.drew ∧ letW w.drew fun w_4 => ∃ t45p : Addr, some r = some t45p ∧ ∃ t47 : Int, (∀ u : World, S_ u → u.cell? (t45p.add 21) = some (.int .u32 t47)) ∧ ∃ t49p : Addr, some r = some t49p ∧ ∃ t52 : Int, (∀ u_2 : World, S_ u_2 → u_2.cell? (t49p.add 19) = some (.int .i64 t52)) ∧ ∃ t54p : Addr, some r = some t54p ∧ ∃ t56 : Int, (∀ u_3 : World, S_ u_3 → u_3.cell? (t54p.add 20) = some (.int .i64 t56)) ∧ storeRow t4 0 [(.int .u32 t47), (.int .i64 t52), (.int .i64 t56)] w_4 fun w_5 => ∃ t4_0 : Int, w_5.cell? t4 = some (.int .u32 t4_0) ∧ ∃ t4_1 : Int, w_5.cell? (t4.add 1) = some (.int .i64 t4_1) ∧ ∃ t4_2 : Int, w_5.cell? (t4.add 2) = some (.int .i64 t4_2) ∧ R (.tuple #[(.agg #[(.int .u32 t4_0), (.int .i64 t4_1), (.int .i64 t4_2)]), (.int .i64 0)]) w_5)

@[reducible] def graph_Run.vc (R : Value → World → Prop) (gA : Option Addr) (gn : Nat) (gc : Nat) (packetA : Option Addr) (packetn : Nat) (packetc : Nat) (w : World) : Prop :=
  letW (w.alloc (.cells #[(.int .u32 0), (.int .i64 0), (.int .i64 0)] 33)) fun w_2 => Run Try.prog 48 #[(.slice gA gn gc)] w_2 fun v w_3 => ∃ t12 : Int, v = (.int .i64 t12) ∧ ifP ((t12 : Int) != 0)
    (storeRow (newA w) 0 [(.int .u32 0), (.int .i64 0), (.int .i64 0)] w_3 fun w_4 => ∃ t4_0 : Int, w_4.cell? (newA w) = some (.int .u32 t4_0) ∧ ∃ t4_1 : Int, w_4.cell? ((newA w).add 1) = some (.int .i64 t4_1) ∧ ∃ t4_2 : Int, w_4.cell? ((newA w).add 2) = some (.int .i64 t4_2) ∧ R (.tuple #[(.agg #[(.int .u32 t4_0), (.int .i64 t4_1), (.int .i64 t4_2)]), (.int .i64 t12)]) w_4)
    (ifP (decide ((((packetn : Nat) : Int) : Int) > 65536))
    (storeRow (newA w) 0 [(.int .u32 0), (.int .i64 0), (.int .i64 0)] w_3 fun w_5 => ∃ t4_0_2 : Int, w_5.cell? (newA w) = some (.int .u32 t4_0_2) ∧ ∃ t4_1_2 : Int, w_5.cell? ((newA w).add 1) = some (.int .i64 t4_1_2) ∧ ∃ t4_2_2 : Int, w_5.cell? ((newA w).add 2) = some (.int .i64 t4_2_2) ∧ R (.tuple #[(.agg #[(.int .u32 t4_0_2), (.int .i64 t4_1_2), (.int .i64 t4_2_2)]), (.int .i64 51)]) w_5)
    (letW (w_3.alloc (.cells #[(.int .u32 0), (.int .u32 0), (.int .u32 0), (.int .u32 0), (.int .u32 0), (.int .u32 0), (.int .u32 0), (.int .u32 0), (.int .u32 0), (.int .u32 0), (.int .u32 0), (.int .u32 0), (.int .u32 0), (.int .u32 0), (.int .u32 0), (.int .u32 0), (.int .u32 0), (.int .u32 0), (.slice packetA packetn packetc), (.int .i64 0), (.int .i64 0), (.int .u32 0)] 80)) fun w_6 => Run Try.prog 49 #[] w_6 fun v_2 w_7 => ∃ t25 : Option Addr, v_2 = (.pointer t25) ∧ graph_Run.L0 R gA gn gc (newA w) (newA w_3) t25 0 true w_7))

theorem graph_Run.B0_eq (R : Value → World → Prop) (gA : Option Addr) (gn : Nat) (gc : Nat) (t4 : Addr) (r : Addr) (does : Option Addr) (at_ : Int) (on : Bool) (w : World) (ts : Nat → Value) :
    code Try.prog none graph_Run.live 0 graph_Run.c0 (thenK (fun st w => loopVC (fun K => code Try.prog none graph_Run.live 0 graph_Run.c0 K) (graph_Run.live 0) (graph_Run.K0 R) (clearFrom (graph_Run.live 0) 0 st) w) (graph_Run.K0 R)) (mergeFrom (graph_Run.live 0) ts 0 (clearFrom (graph_Run.live 0) 0 [(.slice gA gn gc), undef, undef, undef, (.pointer (some t4)), undef, undef, (.pointer (some r)), (.pointer does), (.int .i64 at_), (.bool on), undef, undef, undef, undef, undef, undef, undef, undef, undef, undef, undef, undef, undef, undef, undef, undef, undef, undef, undef, undef, undef, undef, undef, undef, undef, undef, undef, undef, undef, undef, undef, undef, undef, undef, undef, undef, undef, undef, undef, undef, undef, undef, undef, undef, undef, undef, undef])) w = graph_Run.B0 R gA gn gc t4 r does at_ on w := by kernel_rfl
theorem graph_Run.L0_step {R : Value → World → Prop} {gA : Option Addr} {gn : Nat} {gc : Nat} {t4 : Addr} {r : Addr} {does : Option Addr} {at_ : Int} {on : Bool} {w : World} (h : graph_Run.B0 R gA gn gc t4 r does at_ on w) : graph_Run.L0 R gA gn gc t4 r does at_ on w :=
  loop_step (live := graph_Run.live) (b := 0) (x := graph_Run.c0) fun ts => Eq.mpr (graph_Run.B0_eq R gA gn gc t4 r does at_ on w ts) h
theorem graph_Run.eq (R : Value → World → Prop) (gA : Option Addr) (gn : Nat) (gc : Nat) (packetA : Option Addr) (packetn : Nat) (packetc : Nat) (w : World) : fnVC Try.prog none graph_Run.live Try.f17 R [(.slice gA gn gc), (.slice packetA packetn packetc)] w = graph_Run.vc R gA gn gc packetA packetn packetc w := by kernel_rfl
set_option maxHeartbeats 4000000 in
theorem graph_Run.ok {R : Value → World → Prop} {gA : Option Addr} {gn : Nat} {gc : Nat} {packetA : Option Addr} {packetn : Nat} {packetc : Nat} {w : World} (h : graph_Run.vc R gA gn gc packetA packetn packetc w) : Run Try.prog 17 #[(.slice gA gn gc), (.slice packetA packetn packetc)] w R := by
  have h2 := Eq.mpr (graph_Run.eq R gA gn gc packetA packetn packetc w) h
  exact fn_sound Try.mixed Try.func17 (by kernel_rfl) h2

/-! ### riddle/check.asked$1: function 101 -/
noncomputable def check_asked_1.body : Code := bodyOf Try.f101
def check_asked_1.live : Nat → List Nat
  | _ => []
@[reducible] def check_asked_1.vc (R : Value → World → Prop) (bad : Bool) (e : Int) (w : World) : Prop :=
  ifP bad
    (R (.int .i64 e) w)
    (R (.int .i64 0) w)

theorem check_asked_1.eq (R : Value → World → Prop) (bad : Bool) (e : Int) (w : World) : fnVC Try.prog none check_asked_1.live Try.f101 R [(.bool bad), (.int .i64 e)] w = check_asked_1.vc R bad e w := by kernel_rfl
set_option maxHeartbeats 4000000 in
theorem check_asked_1.ok {R : Value → World → Prop} {bad : Bool} {e : Int} {w : World} (h : check_asked_1.vc R bad e w) : Run Try.prog 101 #[(.bool bad), (.int .i64 e)] w R := by
  have h2 := Eq.mpr (check_asked_1.eq R bad e w) h
  exact fn_sound Try.mixed Try.func101 (by kernel_rfl) h2

/-! ### riddle/check.asked$2: function 102 -/
noncomputable def check_asked_2.body : Code := bodyOf Try.f102
def check_asked_2.live : Nat → List Nat
  | _ => []
def check_asked_2.J0 (R : Value → World → Prop) (t5 : Int) (w : World) : Prop :=
  R (.int .i64 t5) w

@[reducible] def check_asked_2.vc (R : Value → World → Prop) (at_ : Int) (i_0 : Int) (i_1 : Int) (i_2 : Int) (i_3 : Int) (t2 : Addr) (w : World) : Prop :=
  letW (w.alloc (.cells #[(.int .u16 i_0), (.int .u8 i_1), (.int .u8 i_2), (.int .u32 i_3)] 47)) fun w_2 => ∃ S_ : World → Prop, S_ w_2.drew ∧ letW w_2.drew fun w_3 => ∃ t6 : Value, (∀ u : World, S_ u → u.cell? t2 = some t6) ∧ ∃ t8 : Int, (∀ u_2 : World, S_ u_2 → u_2.cell? (newA w) = some (.int .u16 t8)) ∧ Run Try.prog 103 #[(.int .u16 t8)] w_3 fun v w_4 => ∃ t9 : Bool, v = (.bool t9) ∧ S_ w_4 ∧ ∃ (g : FuncId) (fs cs : Array Value), t6 = .func (.func g) fs cs ∧ okCall Try.prog g = true ∧ Run Try.prog g (fs ++ #[(.bool (!t9)), (.int .i64 42)] ++ cs) w_4 fun v_2 w_5 => ∃ t11 : Int, v_2 = (.int .i64 t11) ∧ check_asked_2.J0 R t11 w_5

theorem check_asked_2.eq (R : Value → World → Prop) (at_ : Int) (i_0 : Int) (i_1 : Int) (i_2 : Int) (i_3 : Int) (t2 : Addr) (w : World) : fnVC Try.prog none check_asked_2.live Try.f102 R [(.int .i64 at_), (.agg #[(.int .u16 i_0), (.int .u8 i_1), (.int .u8 i_2), (.int .u32 i_3)]), (.pointer (some t2))] w = check_asked_2.vc R at_ i_0 i_1 i_2 i_3 t2 w := by kernel_rfl
set_option maxHeartbeats 4000000 in
theorem check_asked_2.ok {R : Value → World → Prop} {at_ : Int} {i_0 : Int} {i_1 : Int} {i_2 : Int} {i_3 : Int} {t2 : Addr} {w : World} (h : check_asked_2.vc R at_ i_0 i_1 i_2 i_3 t2 w) : Run Try.prog 102 #[(.int .i64 at_), (.agg #[(.int .u16 i_0), (.int .u8 i_1), (.int .u8 i_2), (.int .u32 i_3)]), (.pointer (some t2))] w R := by
  have h2 := Eq.mpr (check_asked_2.eq R at_ i_0 i_1 i_2 i_3 t2 w) h
  exact fn_sound Try.mixed Try.func102 (by kernel_rfl) h2

/-! ### riddle/check.words: function 105 -/
noncomputable def check_words.body : Code := bodyOf Try.f105
def check_words.live : Nat → List Nat
  | _ => []
def check_words.J0 (R : Value → World → Prop) (t2 : Bool) (w : World) : Prop :=
  R (.bool t2) w

@[reducible] def check_words.vc (R : Value → World → Prop) (code_ : Int) (w : World) : Prop :=
  ifP ((code_ : Int) == 2) (check_words.J0 R true w) (ifP ((code_ : Int) == 3) (check_words.J0 R true w) (ifP ((code_ : Int) == 96) (check_words.J0 R true w) (check_words.J0 R ((code_ : Int) == 97) w)))

theorem check_words.eq (R : Value → World → Prop) (code_ : Int) (w : World) : fnVC Try.prog none check_words.live Try.f105 R [(.int .u16 code_)] w = check_words.vc R code_ w := by kernel_rfl
set_option maxHeartbeats 4000000 in
theorem check_words.ok {R : Value → World → Prop} {code_ : Int} {w : World} (h : check_words.vc R code_ w) : Run Try.prog 105 #[(.int .u16 code_)] w R := by
  have h2 := Eq.mpr (check_words.eq R code_ w) h
  exact fn_sound Try.mixed Try.func105 (by kernel_rfl) h2

/-! ### riddle/check.asked$3: function 104 -/
noncomputable def check_asked_3.body : Code := bodyOf Try.f104
def check_asked_3.live : Nat → List Nat
  | _ => []
def check_asked_3.J0 (R : Value → World → Prop) (t5 : Int) (w : World) : Prop :=
  R (.int .i64 t5) w

@[reducible] def check_asked_3.vc (R : Value → World → Prop) (at_ : Int) (i_0 : Int) (i_1 : Int) (i_2 : Int) (i_3 : Int) (t2 : Addr) (w : World) : Prop :=
  letW (w.alloc (.cells #[(.int .u16 i_0), (.int .u8 i_1), (.int .u8 i_2), (.int .u32 i_3)] 47)) fun w_2 => ∃ S_ : World → Prop, S_ w_2.drew ∧ letW w_2.drew fun w_3 => ∃ t6 : Value, (∀ u : World, S_ u → u.cell? t2 = some t6) ∧ ∃ t8 : Int, (∀ u_2 : World, S_ u_2 → u_2.cell? (newA w) = some (.int .u16 t8)) ∧ Run Try.prog 105 #[(.int .u16 t8)] w_3 fun v w_4 => ∃ t9 : Bool, v = (.bool t9) ∧ S_ w_4 ∧ ifP t9 (∃ t12 : Int, (∀ u_3 : World, S_ u_3 → u_3.cell? ((newA w).add 3) = some (.int .u32 t12)) ∧ ∃ (g : FuncId) (fs cs : Array Value), t6 = .func (.func g) fs cs ∧ okCall Try.prog g = true ∧ Run Try.prog g (fs ++ #[(.bool (decide ((t12 : Int) ≥ 16))), (.int .i64 43)] ++ cs) w_4 fun v_2 w_5 => ∃ t15 : Int, v_2 = (.int .i64 t15) ∧ check_asked_3.J0 R t15 w_5) (∃ (g_2 : FuncId) (fs_2 cs_2 : Array Value), t6 = .func (.func g_2) fs_2 cs_2 ∧ okCall Try.prog g_2 = true ∧ Run Try.prog g_2 (fs_2 ++ #[(.bool false), (.int .i64 43)] ++ cs_2) w_4 fun v_3 w_6 => ∃ t15_2 : Int, v_3 = (.int .i64 t15_2) ∧ check_asked_3.J0 R t15_2 w_6)

theorem check_asked_3.eq (R : Value → World → Prop) (at_ : Int) (i_0 : Int) (i_1 : Int) (i_2 : Int) (i_3 : Int) (t2 : Addr) (w : World) : fnVC Try.prog none check_asked_3.live Try.f104 R [(.int .i64 at_), (.agg #[(.int .u16 i_0), (.int .u8 i_1), (.int .u8 i_2), (.int .u32 i_3)]), (.pointer (some t2))] w = check_asked_3.vc R at_ i_0 i_1 i_2 i_3 t2 w := by kernel_rfl
set_option maxHeartbeats 4000000 in
theorem check_asked_3.ok {R : Value → World → Prop} {at_ : Int} {i_0 : Int} {i_1 : Int} {i_2 : Int} {i_3 : Int} {t2 : Addr} {w : World} (h : check_asked_3.vc R at_ i_0 i_1 i_2 i_3 t2 w) : Run Try.prog 104 #[(.int .i64 at_), (.agg #[(.int .u16 i_0), (.int .u8 i_1), (.int .u8 i_2), (.int .u32 i_3)]), (.pointer (some t2))] w R := by
  have h2 := Eq.mpr (check_asked_3.eq R at_ i_0 i_1 i_2 i_3 t2 w) h
  exact fn_sound Try.mixed Try.func104 (by kernel_rfl) h2

/-! ### riddle/check.asked$4: function 106 -/
noncomputable def check_asked_4.body : Code := bodyOf Try.f106
def check_asked_4.live : Nat → List Nat
  | _ => []
def check_asked_4.J0 (R : Value → World → Prop) (t5 : Int) (w : World) : Prop :=
  R (.int .i64 t5) w

@[reducible] def check_asked_4.vc (R : Value → World → Prop) (at_ : Int) (i_0 : Int) (i_1 : Int) (i_2 : Int) (i_3 : Int) (t2 : Addr) (w : World) : Prop :=
  letW (w.alloc (.cells #[(.int .u16 i_0), (.int .u8 i_1), (.int .u8 i_2), (.int .u32 i_3)] 47)) fun w_2 => ∃ t6 : Value, w_2.cell? t2 = some t6 ∧ ∃ t8 : Int, w_2.cell? (newA w) = some (.int .u16 t8) ∧ ifP ((t8 : Int) == 52) (∃ t17 : Int, w_2.cell? ((newA w).add 3) = some (.int .u32 t17) ∧ ∃ (g : FuncId) (fs cs : Array Value), t6 = .func (.func g) fs cs ∧ okCall Try.prog g = true ∧ Run Try.prog g (fs ++ #[(.bool ((t17 : Int) == 0)), (.int .i64 44)] ++ cs) w_2 fun v w_3 => ∃ t20 : Int, v = (.int .i64 t20) ∧ check_asked_4.J0 R t20 w_3) (∃ t12 : Int, w_2.cell? (newA w) = some (.int .u16 t12) ∧ ifP ((t12 : Int) == 148) (∃ t17_2 : Int, w_2.cell? ((newA w).add 3) = some (.int .u32 t17_2) ∧ ∃ (g_2 : FuncId) (fs_2 cs_2 : Array Value), t6 = .func (.func g_2) fs_2 cs_2 ∧ okCall Try.prog g_2 = true ∧ Run Try.prog g_2 (fs_2 ++ #[(.bool ((t17_2 : Int) == 0)), (.int .i64 44)] ++ cs_2) w_2 fun v_2 w_4 => ∃ t20_2 : Int, v_2 = (.int .i64 t20_2) ∧ check_asked_4.J0 R t20_2 w_4) (∃ (g_3 : FuncId) (fs_3 cs_3 : Array Value), t6 = .func (.func g_3) fs_3 cs_3 ∧ okCall Try.prog g_3 = true ∧ Run Try.prog g_3 (fs_3 ++ #[(.bool false), (.int .i64 44)] ++ cs_3) w_2 fun v_3 w_5 => ∃ t20_3 : Int, v_3 = (.int .i64 t20_3) ∧ check_asked_4.J0 R t20_3 w_5))

theorem check_asked_4.eq (R : Value → World → Prop) (at_ : Int) (i_0 : Int) (i_1 : Int) (i_2 : Int) (i_3 : Int) (t2 : Addr) (w : World) : fnVC Try.prog none check_asked_4.live Try.f106 R [(.int .i64 at_), (.agg #[(.int .u16 i_0), (.int .u8 i_1), (.int .u8 i_2), (.int .u32 i_3)]), (.pointer (some t2))] w = check_asked_4.vc R at_ i_0 i_1 i_2 i_3 t2 w := by kernel_rfl
set_option maxHeartbeats 4000000 in
theorem check_asked_4.ok {R : Value → World → Prop} {at_ : Int} {i_0 : Int} {i_1 : Int} {i_2 : Int} {i_3 : Int} {t2 : Addr} {w : World} (h : check_asked_4.vc R at_ i_0 i_1 i_2 i_3 t2 w) : Run Try.prog 106 #[(.int .i64 at_), (.agg #[(.int .u16 i_0), (.int .u8 i_1), (.int .u8 i_2), (.int .u32 i_3)]), (.pointer (some t2))] w R := by
  have h2 := Eq.mpr (check_asked_4.eq R at_ i_0 i_1 i_2 i_3 t2 w) h
  exact fn_sound Try.mixed Try.func106 (by kernel_rfl) h2

/-! ### riddle/check.asked$5: function 107 -/
noncomputable def check_asked_5.body : Code := bodyOf Try.f107
def check_asked_5.live : Nat → List Nat
  | _ => []
def check_asked_5.J0 (R : Value → World → Prop) (t5 : Int) (w : World) : Prop :=
  R (.int .i64 t5) w

@[reducible] def check_asked_5.vc (R : Value → World → Prop) (at_ : Int) (i_0 : Int) (i_1 : Int) (i_2 : Int) (i_3 : Int) (t2 : Addr) (w : World) : Prop :=
  letW (w.alloc (.cells #[(.int .u16 i_0), (.int .u8 i_1), (.int .u8 i_2), (.int .u32 i_3)] 47)) fun w_2 => ∃ t6 : Value, w_2.cell? t2 = some t6 ∧ ∃ t8 : Int, w_2.cell? (newA w) = some (.int .u16 t8) ∧ ifP ((t8 : Int) == 100) (∃ t17 : Int, w_2.cell? ((newA w).add 3) = some (.int .u32 t17) ∧ ∃ (g : FuncId) (fs cs : Array Value), t6 = .func (.func g) fs cs ∧ okCall Try.prog g = true ∧ Run Try.prog g (fs ++ #[(.bool (decide ((t17 : Int) > 31))), (.int .i64 45)] ++ cs) w_2 fun v w_3 => ∃ t20 : Int, v = (.int .i64 t20) ∧ check_asked_5.J0 R t20 w_3) (∃ t12 : Int, w_2.cell? (newA w) = some (.int .u16 t12) ∧ ifP ((t12 : Int) == 116) (∃ t17_2 : Int, w_2.cell? ((newA w).add 3) = some (.int .u32 t17_2) ∧ ∃ (g_2 : FuncId) (fs_2 cs_2 : Array Value), t6 = .func (.func g_2) fs_2 cs_2 ∧ okCall Try.prog g_2 = true ∧ Run Try.prog g_2 (fs_2 ++ #[(.bool (decide ((t17_2 : Int) > 31))), (.int .i64 45)] ++ cs_2) w_2 fun v_2 w_4 => ∃ t20_2 : Int, v_2 = (.int .i64 t20_2) ∧ check_asked_5.J0 R t20_2 w_4) (∃ (g_3 : FuncId) (fs_3 cs_3 : Array Value), t6 = .func (.func g_3) fs_3 cs_3 ∧ okCall Try.prog g_3 = true ∧ Run Try.prog g_3 (fs_3 ++ #[(.bool false), (.int .i64 45)] ++ cs_3) w_2 fun v_3 w_5 => ∃ t20_3 : Int, v_3 = (.int .i64 t20_3) ∧ check_asked_5.J0 R t20_3 w_5))

theorem check_asked_5.eq (R : Value → World → Prop) (at_ : Int) (i_0 : Int) (i_1 : Int) (i_2 : Int) (i_3 : Int) (t2 : Addr) (w : World) : fnVC Try.prog none check_asked_5.live Try.f107 R [(.int .i64 at_), (.agg #[(.int .u16 i_0), (.int .u8 i_1), (.int .u8 i_2), (.int .u32 i_3)]), (.pointer (some t2))] w = check_asked_5.vc R at_ i_0 i_1 i_2 i_3 t2 w := by kernel_rfl
set_option maxHeartbeats 4000000 in
theorem check_asked_5.ok {R : Value → World → Prop} {at_ : Int} {i_0 : Int} {i_1 : Int} {i_2 : Int} {i_3 : Int} {t2 : Addr} {w : World} (h : check_asked_5.vc R at_ i_0 i_1 i_2 i_3 t2 w) : Run Try.prog 107 #[(.int .i64 at_), (.agg #[(.int .u16 i_0), (.int .u8 i_1), (.int .u8 i_2), (.int .u32 i_3)]), (.pointer (some t2))] w R := by
  have h2 := Eq.mpr (check_asked_5.eq R at_ i_0 i_1 i_2 i_3 t2 w) h
  exact fn_sound Try.mixed Try.func107 (by kernel_rfl) h2

/-! ### riddle/check.astray: function 109 -/
noncomputable def check_astray.body : Code := bodyOf Try.f109
def check_astray.live : Nat → List Nat
  | _ => []
def check_astray.J0 (R : Value → World → Prop) (t4 : Bool) (w : World) : Prop :=
  R (.bool t4) w

@[reducible] def check_astray.vc (R : Value → World → Prop) (i_0 : Int) (i_1 : Int) (i_2 : Int) (i_3 : Int) (left : Int) (w : World) : Prop :=
  letW (w.alloc (.cells #[(.int .u16 i_0), (.int .u8 i_1), (.int .u8 i_2), (.int .u32 i_3)] 47)) fun w_2 => ∃ t6 : Int, w_2.cell? (newA w) = some (.int .u16 t6) ∧ Run Try.prog 64 #[(.int .u16 t6)] w_2 fun v w_3 => ∃ t7 : Int, v = (.int .i64 t7) ∧ ifP ((t7 : Int) != 5)
    (R (.bool false) w_3)
    (∃ t10 : Int, w_3.cell? (newA w) = some (.int .u16 t10) ∧ ifP ((t10 : Int) == 5)
    (∃ t13 : Int, w_3.cell? ((newA w).add 3) = some (.int .u32 t13) ∧ R (.bool (decide ((IntKind.u64.wrap t13 : Int) ≥ (IntKind.u64.wrap left)))) w_3)
    (∃ t19 : Int, w_3.cell? ((newA w).add 1) = some (.int .u8 t19) ∧ ifP (decide ((IntKind.i64.wrap t19 : Int) ≥ left)) (check_astray.J0 R true w_3) (∃ t25 : Int, w_3.cell? ((newA w).add 2) = some (.int .u8 t25) ∧ check_astray.J0 R (decide ((IntKind.i64.wrap t25 : Int) ≥ left)) w_3)))

theorem check_astray.eq (R : Value → World → Prop) (i_0 : Int) (i_1 : Int) (i_2 : Int) (i_3 : Int) (left : Int) (w : World) : fnVC Try.prog none check_astray.live Try.f109 R [(.agg #[(.int .u16 i_0), (.int .u8 i_1), (.int .u8 i_2), (.int .u32 i_3)]), (.int .i64 left)] w = check_astray.vc R i_0 i_1 i_2 i_3 left w := by kernel_rfl
set_option maxHeartbeats 4000000 in
theorem check_astray.ok {R : Value → World → Prop} {i_0 : Int} {i_1 : Int} {i_2 : Int} {i_3 : Int} {left : Int} {w : World} (h : check_astray.vc R i_0 i_1 i_2 i_3 left w) : Run Try.prog 109 #[(.agg #[(.int .u16 i_0), (.int .u8 i_1), (.int .u8 i_2), (.int .u32 i_3)]), (.int .i64 left)] w R := by
  have h2 := Eq.mpr (check_astray.eq R i_0 i_1 i_2 i_3 left w) h
  exact fn_sound Try.mixed Try.func109 (by kernel_rfl) h2

/-! ### riddle/check.asked$6: function 108 -/
noncomputable def check_asked_6.body : Code := bodyOf Try.f108
def check_asked_6.live : Nat → List Nat
  | _ => []
def check_asked_6.J0 (R : Value → World → Prop) (t6 : Int) (w : World) : Prop :=
  R (.int .i64 t6) w

@[reducible] def check_asked_6.vc (R : Value → World → Prop) (at_ : Int) (i_0 : Int) (i_1 : Int) (i_2 : Int) (i_3 : Int) (t2 : Addr) (t3 : Addr) (w : World) : Prop :=
  letW (w.alloc (.cells #[(.int .u16 i_0), (.int .u8 i_1), (.int .u8 i_2), (.int .u32 i_3)] 47)) fun w_2 => ∃ S_ : World → Prop, S_ w_2.drew ∧ letW w_2.drew fun w_3 => ∃ t7 : Value, (∀ u : World, S_ u → u.cell? t2 = some t7) ∧ ∃ t8_0 : Int, (∀ u_2 : World, S_ u_2 → u_2.cell? (newA w) = some (.int .u16 t8_0)) ∧ ∃ t8_1 : Int, (∀ u_3 : World, S_ u_3 → u_3.cell? ((newA w).add 1) = some (.int .u8 t8_1)) ∧ ∃ t8_2 : Int, (∀ u_4 : World, S_ u_4 → u_4.cell? ((newA w).add 2) = some (.int .u8 t8_2)) ∧ ∃ t8_3 : Int, (∀ u_5 : World, S_ u_5 → u_5.cell? ((newA w).add 3) = some (.int .u32 t8_3)) ∧ ∃ t9 : Int, (∀ u_6 : World, S_ u_6 → u_6.cell? t3 = some (.int .i64 t9)) ∧ Run Try.prog 109 #[(.agg #[(.int .u16 t8_0), (.int .u8 t8_1), (.int .u8 t8_2), (.int .u32 t8_3)]), (.int .i64 (IntKind.i64.wrap ((IntKind.i64.wrap (t9 - 1)) - at_)))] w_3 fun v w_4 => ∃ t13 : Bool, v = (.bool t13) ∧ S_ w_4 ∧ ∃ (g : FuncId) (fs cs : Array Value), t7 = .func (.func g) fs cs ∧ okCall Try.prog g = true ∧ Run Try.prog g (fs ++ #[(.bool t13), (.int .i64 46)] ++ cs) w_4 fun v_2 w_5 => ∃ t14 : Int, v_2 = (.int .i64 t14) ∧ check_asked_6.J0 R t14 w_5

theorem check_asked_6.eq (R : Value → World → Prop) (at_ : Int) (i_0 : Int) (i_1 : Int) (i_2 : Int) (i_3 : Int) (t2 : Addr) (t3 : Addr) (w : World) : fnVC Try.prog none check_asked_6.live Try.f108 R [(.int .i64 at_), (.agg #[(.int .u16 i_0), (.int .u8 i_1), (.int .u8 i_2), (.int .u32 i_3)]), (.pointer (some t2)), (.pointer (some t3))] w = check_asked_6.vc R at_ i_0 i_1 i_2 i_3 t2 t3 w := by kernel_rfl
set_option maxHeartbeats 4000000 in
theorem check_asked_6.ok {R : Value → World → Prop} {at_ : Int} {i_0 : Int} {i_1 : Int} {i_2 : Int} {i_3 : Int} {t2 : Addr} {t3 : Addr} {w : World} (h : check_asked_6.vc R at_ i_0 i_1 i_2 i_3 t2 t3 w) : Run Try.prog 108 #[(.int .i64 at_), (.agg #[(.int .u16 i_0), (.int .u8 i_1), (.int .u8 i_2), (.int .u32 i_3)]), (.pointer (some t2)), (.pointer (some t3))] w R := by
  have h2 := Eq.mpr (check_asked_6.eq R at_ i_0 i_1 i_2 i_3 t2 t3 w) h
  exact fn_sound Try.mixed Try.func108 (by kernel_rfl) h2

/-! ### riddle/check.asked: function 63 -/
noncomputable def check_asked.body : Code := bodyOf Try.f63
def check_asked.live : Nat → List Nat
  | _ => []
@[reducible] def check_asked.vc (R : Value → World → Prop) (n : Int) (w : World) : Prop :=
  letW (w.alloc (.cells #[(.int .i64 n)] 3)) fun w_2 => letW (w_2.alloc (.cells #[.nilFunc] 120)) fun w_3 => (∃ u : Value, w_3.cell? (newA w_2) = some u) ∧ w_3.frozen? (newA w_2) = false ∧ letW (w_3.setCell (newA w_2) (.func (.func 101) #[] #[])) fun w_4 => letW (w_4.alloc (.cells #[(.func (.func 102) #[] #[(.pointer (some (newA w_2)))]), (.func (.func 104) #[] #[(.pointer (some (newA w_2)))]), (.func (.func 106) #[] #[(.pointer (some (newA w_2)))]), (.func (.func 107) #[] #[(.pointer (some (newA w_2)))]), (.func (.func 108) #[] #[(.pointer (some (newA w_2))), (.pointer (some (newA w)))])] 96)) fun w_5 => R (.slice (some (newA w_4)) 5 5) w_5

theorem check_asked.eq (R : Value → World → Prop) (n : Int) (w : World) : fnVC Try.prog none check_asked.live Try.f63 R [(.int .i64 n)] w = check_asked.vc R n w := by kernel_rfl
set_option maxHeartbeats 4000000 in
theorem check_asked.ok {R : Value → World → Prop} {n : Int} {w : World} (h : check_asked.vc R n w) : Run Try.prog 63 #[(.int .i64 n)] w R := by
  have h2 := Eq.mpr (check_asked.eq R n w) h
  exact fn_sound Try.mixed Try.func63 (by kernel_rfl) h2

/-! ### riddle/check.Check: function 39 -/
noncomputable def check_Check.body : Code := bodyOf Try.f39
def check_Check.live : Nat → List Nat
  | 0 => [0, 4, 5, 6, 21, 22, 23]
  | 2 => [0, 4, 5, 6, 7, 8, 21, 22, 23, 28, 29, 30]
  | _ => []
noncomputable def check_Check.c0 : Code := sub check_Check.body [1, 0, 1, 1, 1, 1, 1, 0, 1, 0, 0]
noncomputable def check_Check.c2 : Code := sub check_Check.body [1, 0, 1, 1, 1, 1, 1, 0, 1, 0, 0, 1, 1, 0, 0, 1, 1, 0, 0]
def check_Check.K0 (R : Value → World → Prop) : Ex → St → World → Prop := (blockK 0 (thenK (fun st w => code Try.prog none check_Check.live 0 (sub check_Check.body [1, 0, 1, 1, 1, 1, 1, 1]) (retK Try.prog Try.f39 R) st w) (retK Try.prog Try.f39 R)))
def check_Check.L0 (R : Value → World → Prop) (pA : Option Addr) (pn : Nat) (pc : Nat) (asksA : Option Addr) (asksn : Nat) (asksc : Nat) (place : Int) (e : Int) (t21A : Option Addr) (t21n : Nat) (t21c : Nat) (t22 : Int) (t23 : Int) (w : World) : Prop :=
  loopVC (fun K => code Try.prog none check_Check.live 0 check_Check.c0 K) (check_Check.live 0) (check_Check.K0 R) [(.slice pA pn pc), undef, undef, undef, (.slice asksA asksn asksc), (.int .i64 place), (.int .i64 e), undef, undef, undef, undef, undef, undef, undef, undef, undef, undef, undef, undef, undef, undef, (.slice t21A t21n t21c), (.int .i64 t22), (.int .i64 t23), undef, undef, undef, undef, undef, undef, undef, undef, undef, undef, undef, undef, undef, undef, undef, undef, undef, undef, undef, undef, undef, undef, undef, undef, undef, undef, undef, undef, undef, undef, undef, undef, undef, undef, undef, undef] w
def check_Check.K2 (R : Value → World → Prop) : Ex → St → World → Prop := (blockK 2 (blockK 1 (thenK (fun st w => code Try.prog none check_Check.live 0 (sub check_Check.body [1, 0, 1, 1, 1, 1, 1, 0, 1, 0, 0, 1, 1, 1]) (thenK (fun st w => loopVC (fun K => code Try.prog none check_Check.live 0 check_Check.c0 K) (check_Check.live 0) (check_Check.K0 R) (clearFrom (check_Check.live 0) 0 st) w) (check_Check.K0 R)) st w) (thenK (fun st w => loopVC (fun K => code Try.prog none check_Check.live 0 check_Check.c0 K) (check_Check.live 0) (check_Check.K0 R) (clearFrom (check_Check.live 0) 0 st) w) (check_Check.K0 R)))))
def check_Check.L2 (R : Value → World → Prop) (pA : Option Addr) (pn : Nat) (pc : Nat) (asksA : Option Addr) (asksn : Nat) (asksc : Nat) (place : Int) (e : Int) (at_ : Int) (i : Addr) (t21A : Option Addr) (t21n : Nat) (t21c : Nat) (t22 : Int) (t23 : Int) (t28A : Option Addr) (t28n : Nat) (t28c : Nat) (t29 : Int) (t30 : Int) (w : World) : Prop :=
  loopVC (fun K => code Try.prog none check_Check.live 2 check_Check.c2 K) (check_Check.live 2) (check_Check.K2 R) [(.slice pA pn pc), undef, undef, undef, (.slice asksA asksn asksc), (.int .i64 place), (.int .i64 e), (.int .i64 at_), (.pointer (some i)), undef, undef, undef, undef, undef, undef, undef, undef, undef, undef, undef, undef, (.slice t21A t21n t21c), (.int .i64 t22), (.int .i64 t23), undef, undef, undef, undef, (.slice t28A t28n t28c), (.int .i64 t29), (.int .i64 t30), undef, undef, undef, undef, undef, undef, undef, undef, undef, undef, undef, undef, undef, undef, undef, undef, undef, undef, undef, undef, undef, undef, undef, undef, undef, undef, undef, undef, undef] w
def check_Check.J1 (R : Value → World → Prop) (place : Int) (e : Int) (last : Int) (t56 : Bool) (w : World) : Prop :=
  ifP t56
    (R (.tuple #[(.int .i64 last), (.int .i64 47)]) w)
    (R (.tuple #[(.int .i64 place), (.int .i64 e)]) w)

def check_Check.J0 (R : Value → World → Prop) (pA : Option Addr) (pn : Nat) (pc : Nat) (place : Int) (e : Int) (w : World) : Prop :=
  ifP ((e : Int) == 0) (0 ≤ (IntKind.i64.wrap (((pn : Nat) : Int) - 1) : Int) ∧ (IntKind.i64.wrap (((pn : Nat) : Int) - 1) : Int) < ((pn : Nat) : Int) ∧ ∃ t51p : Addr, pA = some t51p ∧ ∃ t53 : Int, w.cell? (t51p.add (Int.toNat (IntKind.i64.wrap (((pn : Nat) : Int) - 1)) * 4)) = some (.int .u16 t53) ∧ Run Try.prog 64 #[(.int .u16 t53)] w fun v w_2 => ∃ t54 : Int, v = (.int .i64 t54) ∧ check_Check.J1 R place e (IntKind.i64.wrap (((pn : Nat) : Int) - 1)) ((t54 : Int) != 6) w_2) (check_Check.J1 R place e (IntKind.i64.wrap (((pn : Nat) : Int) - 1)) false w)

@[reducible] def check_Check.B2 (R : Value → World → Prop) (pA : Option Addr) (pn : Nat) (pc : Nat) (asksA : Option Addr) (asksn : Nat) (asksc : Nat) (place : Int) (e : Int) (at_ : Int) (i : Addr) (t21A : Option Addr) (t21n : Nat) (t21c : Nat) (t22 : Int) (t23 : Int) (t28A : Option Addr) (t28n : Nat) (t28c : Nat) (t29 : Int) (t30 : Int) (w : World) : Prop :=
  ifP (decide ((t30 : Int) < t29))
    (0 ≤ (t30 : Int) ∧ (t30 : Int) < ((t28n : Nat) : Int) ∧ ∃ t32p : Addr, t28A = some t32p ∧ ∃ t33 : Value, w.cell? (t32p.add (Int.toNat t30 * 1)) = some t33 ∧ ∃ t36_0 : Int, w.cell? i = some (.int .u16 t36_0) ∧ ∃ t36_1 : Int, w.cell? (i.add 1) = some (.int .u8 t36_1) ∧ ∃ t36_2 : Int, w.cell? (i.add 2) = some (.int .u8 t36_2) ∧ ∃ t36_3 : Int, w.cell? (i.add 3) = some (.int .u32 t36_3) ∧ ∃ (g : FuncId) (fs cs : Array Value), t33 = .func (.func g) fs cs ∧ okCall Try.prog g = true ∧ Run Try.prog g (fs ++ #[(.int .i64 at_), (.agg #[(.int .u16 t36_0), (.int .u8 t36_1), (.int .u8 t36_2), (.int .u32 t36_3)])] ++ cs) w fun v w_2 => ∃ t37 : Int, v = (.int .i64 t37) ∧ ifP ((t37 : Int) != 0)
    (check_Check.J0 R pA pn pc at_ t37 w_2)
    (check_Check.L2 R pA pn pc asksA asksn asksc place t37 at_ i t21A t21n t21c t22 t23 t28A t28n t28c t29 (IntKind.i64.wrap (t30 + 1)) w_2))
    (check_Check.L0 R pA pn pc asksA asksn asksc place e t21A t21n t21c t22 (IntKind.i64.wrap (t23 + 1)) w)

@[reducible] def check_Check.B0 (R : Value → World → Prop) (pA : Option Addr) (pn : Nat) (pc : Nat) (asksA : Option Addr) (asksn : Nat) (asksc : Nat) (place : Int) (e : Int) (t21A : Option Addr) (t21n : Nat) (t21c : Nat) (t22 : Int) (t23 : Int) (w : World) : Prop :=
  ifP (decide ((t23 : Int) < t22))
    (0 ≤ (t23 : Int) ∧ (t23 : Int) < ((t21n : Nat) : Int) ∧ ∃ t26p : Addr, t21A = some t26p ∧ ∃ t27_0 : Int, w.cell? (t26p.add (Int.toNat t23 * 4)) = some (.int .u16 t27_0) ∧ ∃ t27_1 : Int, w.cell? ((t26p.add (Int.toNat t23 * 4)).add 1) = some (.int .u8 t27_1) ∧ ∃ t27_2 : Int, w.cell? ((t26p.add (Int.toNat t23 * 4)).add 2) = some (.int .u8 t27_2) ∧ ∃ t27_3 : Int, w.cell? ((t26p.add (Int.toNat t23 * 4)).add 3) = some (.int .u32 t27_3) ∧ letW (w.alloc (.cells #[(.int .u16 0), (.int .u8 0), (.int .u8 0), (.int .u32 0)] 47)) fun w_2 => storeRow (newA w) 0 [(.int .u16 t27_0), (.int .u8 t27_1), (.int .u8 t27_2), (.int .u32 t27_3)] w_2 fun w_3 => check_Check.L2 R pA pn pc asksA asksn asksc place e t23 (newA w) t21A t21n t21c t22 t23 asksA asksn asksc ((asksn : Nat) : Int) 0 w_3)
    (check_Check.J0 R pA pn pc place e w)

@[reducible] def check_Check.vc (R : Value → World → Prop) (pA : Option Addr) (pn : Nat) (pc : Nat) (w : World) : Prop :=
  ifP ((((pn : Nat) : Int) : Int) == 0)
    (R (.tuple #[(.int .i64 0), (.int .i64 40)]) w)
    (ifP (decide ((((pn : Nat) : Int) : Int) > 4096))
    (R (.tuple #[(.int .i64 4096), (.int .i64 41)]) w)
    (Run Try.prog 63 #[(.int .i64 ((pn : Nat) : Int))] w fun v w_2 => ∃ (t20A : Option Addr) (t20n t20c : Nat), v = (.slice t20A t20n t20c) ∧ check_Check.L0 R pA pn pc t20A t20n t20c 0 0 pA pn pc ((pn : Nat) : Int) 0 w_2))

theorem check_Check.B0_eq (R : Value → World → Prop) (pA : Option Addr) (pn : Nat) (pc : Nat) (asksA : Option Addr) (asksn : Nat) (asksc : Nat) (place : Int) (e : Int) (t21A : Option Addr) (t21n : Nat) (t21c : Nat) (t22 : Int) (t23 : Int) (w : World) (ts : Nat → Value) :
    code Try.prog none check_Check.live 0 check_Check.c0 (thenK (fun st w => loopVC (fun K => code Try.prog none check_Check.live 0 check_Check.c0 K) (check_Check.live 0) (check_Check.K0 R) (clearFrom (check_Check.live 0) 0 st) w) (check_Check.K0 R)) (mergeFrom (check_Check.live 0) ts 0 (clearFrom (check_Check.live 0) 0 [(.slice pA pn pc), undef, undef, undef, (.slice asksA asksn asksc), (.int .i64 place), (.int .i64 e), undef, undef, undef, undef, undef, undef, undef, undef, undef, undef, undef, undef, undef, undef, (.slice t21A t21n t21c), (.int .i64 t22), (.int .i64 t23), undef, undef, undef, undef, undef, undef, undef, undef, undef, undef, undef, undef, undef, undef, undef, undef, undef, undef, undef, undef, undef, undef, undef, undef, undef, undef, undef, undef, undef, undef, undef, undef, undef, undef, undef, undef])) w = check_Check.B0 R pA pn pc asksA asksn asksc place e t21A t21n t21c t22 t23 w := by kernel_rfl
theorem check_Check.L0_step {R : Value → World → Prop} {pA : Option Addr} {pn : Nat} {pc : Nat} {asksA : Option Addr} {asksn : Nat} {asksc : Nat} {place : Int} {e : Int} {t21A : Option Addr} {t21n : Nat} {t21c : Nat} {t22 : Int} {t23 : Int} {w : World} (h : check_Check.B0 R pA pn pc asksA asksn asksc place e t21A t21n t21c t22 t23 w) : check_Check.L0 R pA pn pc asksA asksn asksc place e t21A t21n t21c t22 t23 w :=
  loop_step (live := check_Check.live) (b := 0) (x := check_Check.c0) fun ts => Eq.mpr (check_Check.B0_eq R pA pn pc asksA asksn asksc place e t21A t21n t21c t22 t23 w ts) h
theorem check_Check.B2_eq (R : Value → World → Prop) (pA : Option Addr) (pn : Nat) (pc : Nat) (asksA : Option Addr) (asksn : Nat) (asksc : Nat) (place : Int) (e : Int) (at_ : Int) (i : Addr) (t21A : Option Addr) (t21n : Nat) (t21c : Nat) (t22 : Int) (t23 : Int) (t28A : Option Addr) (t28n : Nat) (t28c : Nat) (t29 : Int) (t30 : Int) (w : World) (ts : Nat → Value) :
    code Try.prog none check_Check.live 2 check_Check.c2 (thenK (fun st w => loopVC (fun K => code Try.prog none check_Check.live 2 check_Check.c2 K) (check_Check.live 2) (check_Check.K2 R) (clearFrom (check_Check.live 2) 0 st) w) (check_Check.K2 R)) (mergeFrom (check_Check.live 2) ts 0 (clearFrom (check_Check.live 2) 0 [(.slice pA pn pc), undef, undef, undef, (.slice asksA asksn asksc), (.int .i64 place), (.int .i64 e), (.int .i64 at_), (.pointer (some i)), undef, undef, undef, undef, undef, undef, undef, undef, undef, undef, undef, undef, (.slice t21A t21n t21c), (.int .i64 t22), (.int .i64 t23), undef, undef, undef, undef, (.slice t28A t28n t28c), (.int .i64 t29), (.int .i64 t30), undef, undef, undef, undef, undef, undef, undef, undef, undef, undef, undef, undef, undef, undef, undef, undef, undef, undef, undef, undef, undef, undef, undef, undef, undef, undef, undef, undef, undef])) w = check_Check.B2 R pA pn pc asksA asksn asksc place e at_ i t21A t21n t21c t22 t23 t28A t28n t28c t29 t30 w := by kernel_rfl
theorem check_Check.L2_step {R : Value → World → Prop} {pA : Option Addr} {pn : Nat} {pc : Nat} {asksA : Option Addr} {asksn : Nat} {asksc : Nat} {place : Int} {e : Int} {at_ : Int} {i : Addr} {t21A : Option Addr} {t21n : Nat} {t21c : Nat} {t22 : Int} {t23 : Int} {t28A : Option Addr} {t28n : Nat} {t28c : Nat} {t29 : Int} {t30 : Int} {w : World} (h : check_Check.B2 R pA pn pc asksA asksn asksc place e at_ i t21A t21n t21c t22 t23 t28A t28n t28c t29 t30 w) : check_Check.L2 R pA pn pc asksA asksn asksc place e at_ i t21A t21n t21c t22 t23 t28A t28n t28c t29 t30 w :=
  loop_step (live := check_Check.live) (b := 2) (x := check_Check.c2) fun ts => Eq.mpr (check_Check.B2_eq R pA pn pc asksA asksn asksc place e at_ i t21A t21n t21c t22 t23 t28A t28n t28c t29 t30 w ts) h
theorem check_Check.eq (R : Value → World → Prop) (pA : Option Addr) (pn : Nat) (pc : Nat) (w : World) : fnVC Try.prog none check_Check.live Try.f39 R [(.slice pA pn pc)] w = check_Check.vc R pA pn pc w := by kernel_rfl
set_option maxHeartbeats 4000000 in
theorem check_Check.ok {R : Value → World → Prop} {pA : Option Addr} {pn : Nat} {pc : Nat} {w : World} (h : check_Check.vc R pA pn pc w) : Run Try.prog 39 #[(.slice pA pn pc)] w R := by
  have h2 := Eq.mpr (check_Check.eq R pA pn pc w) h
  exact fn_sound Try.mixed Try.func39 (by kernel_rfl) h2

/-! ### riddle/graph.leads: function 59 -/
noncomputable def graph_leads.body : Code := bodyOf Try.f59
def graph_leads.live : Nat → List Nat
  | 0 => [3, 12, 13, 14]
  | _ => []
noncomputable def graph_leads.c0 : Code := sub graph_leads.body [1, 1, 1, 0, 1, 0, 0]
def graph_leads.K0 (R : Value → World → Prop) : Ex → St → World → Prop := (blockK 0 (thenK (fun st w => code Try.prog none graph_leads.live 0 (sub graph_leads.body [1, 1, 1, 1]) (retK Try.prog Try.f59 R) st w) (retK Try.prog Try.f59 R)))
def graph_leads.L0 (R : Value → World → Prop) (outA : Option Addr) (outn : Nat) (outc : Nat) (t12A : Option Addr) (t12n : Nat) (t12c : Nat) (t13 : Int) (t14 : Int) (w : World) : Prop :=
  loopVC (fun K => code Try.prog none graph_leads.live 0 graph_leads.c0 K) (graph_leads.live 0) (graph_leads.K0 R) [undef, undef, undef, (.slice outA outn outc), undef, undef, undef, undef, undef, undef, undef, undef, (.slice t12A t12n t12c), (.int .i64 t13), (.int .i64 t14), undef, undef, undef, undef, undef, undef, undef, undef, undef, undef, undef, undef, undef, undef, undef, undef, undef, undef, undef, undef, undef, undef, undef, undef, undef, undef, undef, undef, undef, undef, undef, undef, undef, undef, undef, undef, undef, undef, undef, undef, undef, undef, undef, undef, undef, undef, undef, undef, undef, undef, undef, undef, undef, undef, undef, undef] w
def graph_leads.J1 (R : Value → World → Prop) (outA : Option Addr) (outn : Nat) (outc : Nat) (t12A : Option Addr) (t12n : Nat) (t12c : Nat) (t13 : Int) (t14 : Int) (w : World) : Prop :=
  graph_leads.L0 R outA outn outc t12A t12n t12c t13 (IntKind.i64.wrap (t14 + 1)) w

def graph_leads.J0 (R : Value → World → Prop) (outA : Option Addr) (outn : Nat) (outc : Nat) (t12A : Option Addr) (t12n : Nat) (t12c : Nat) (t13 : Int) (t14 : Int) (w : World) : Prop :=
  graph_leads.J1 R outA outn outc t12A t12n t12c t13 t14 w

def graph_leads.J2 (R : Value → World → Prop) (outA : Option Addr) (outn : Nat) (outc : Nat) (t12A : Option Addr) (t12n : Nat) (t12c : Nat) (t13 : Int) (t14 : Int) (w : World) : Prop :=
  graph_leads.J1 R outA outn outc t12A t12n t12c t13 t14 w

@[reducible] def graph_leads.B0 (R : Value → World → Prop) (outA : Option Addr) (outn : Nat) (outc : Nat) (t12A : Option Addr) (t12n : Nat) (t12c : Nat) (t13 : Int) (t14 : Int) (w : World) : Prop :=
  ifP (decide ((t14 : Int) < t13))
    (0 ≤ (t14 : Int) ∧ (t14 : Int) < ((t12n : Nat) : Int) ∧ ∃ t17p : Addr, t12A = some t17p ∧ ∃ t18_0 : Int, w.cell? (t17p.add (Int.toNat t14 * 4)) = some (.int .u16 t18_0) ∧ ∃ t18_1 : Int, w.cell? ((t17p.add (Int.toNat t14 * 4)).add 1) = some (.int .u8 t18_1) ∧ ∃ t18_2 : Int, w.cell? ((t17p.add (Int.toNat t14 * 4)).add 2) = some (.int .u8 t18_2) ∧ ∃ t18_3 : Int, w.cell? ((t17p.add (Int.toNat t14 * 4)).add 3) = some (.int .u32 t18_3) ∧ letW (w.alloc (.cells #[(.int .u16 0), (.int .u8 0), (.int .u8 0), (.int .u32 0)] 47)) fun w_2 => storeRow (newA w) 0 [(.int .u16 t18_0), (.int .u8 t18_1), (.int .u8 t18_2), (.int .u32 t18_3)] w_2 fun w_3 => ∃ t21 : Int, w_3.cell? (newA w) = some (.int .u16 t21) ∧ ifP ((t21 : Int) == 5)
    (∃ S_ : World → Prop, S_ w_3.drew ∧ letW w_3.drew fun w_4 => ∃ t30 : Int, (∀ u : World, S_ u → u.cell? ((newA w).add 3) = some (.int .u32 t30)) ∧ 0 ≤ (IntKind.i64.wrap (t14 + 1) : Int) ∧ (IntKind.i64.wrap (t14 + 1) : Int) < ((outn : Nat) : Int) ∧ ∃ t33p : Addr, outA = some t33p ∧ (∃ u : Value, w_4.cell? (t33p.add (Int.toNat (IntKind.i64.wrap (t14 + 1)) * 1)) = some u) ∧ w_4.frozen? (t33p.add (Int.toNat (IntKind.i64.wrap (t14 + 1)) * 1)) = false ∧ letW (w_4.setCell (t33p.add (Int.toNat (IntKind.i64.wrap (t14 + 1)) * 1)) (.bool true)) fun w_5 => S_ w_5 ∧ 0 ≤ (IntKind.i64.wrap ((IntKind.i64.wrap (t14 + 1)) + (IntKind.i64.wrap t30)) : Int) ∧ (IntKind.i64.wrap ((IntKind.i64.wrap (t14 + 1)) + (IntKind.i64.wrap t30)) : Int) < ((outn : Nat) : Int) ∧ ∃ t34p : Addr, outA = some t34p ∧ (∃ u : Value, w_5.cell? (t34p.add (Int.toNat (IntKind.i64.wrap ((IntKind.i64.wrap (t14 + 1)) + (IntKind.i64.wrap t30))) * 1)) = some u) ∧ w_5.frozen? (t34p.add (Int.toNat (IntKind.i64.wrap ((IntKind.i64.wrap (t14 + 1)) + (IntKind.i64.wrap t30))) * 1)) = false ∧ letW (w_5.setCell (t34p.add (Int.toNat (IntKind.i64.wrap ((IntKind.i64.wrap (t14 + 1)) + (IntKind.i64.wrap t30))) * 1)) (.bool true)) fun w_6 => graph_leads.J0 R outA outn outc t12A t12n t12c t13 t14 w_6)
    (∃ t37 : Int, w_3.cell? (newA w) = some (.int .u16 t37) ∧ Run Try.prog 64 #[(.int .u16 t37)] w_3 fun v w_7 => ∃ t38 : Int, v = (.int .i64 t38) ∧ ifP ((t38 : Int) == 5)
    (∃ S__2 : World → Prop, S__2 w_7.drew ∧ letW w_7.drew fun w_8 => ∃ t47 : Int, (∀ u_2 : World, S__2 u_2 → u_2.cell? ((newA w).add 1) = some (.int .u8 t47)) ∧ ∃ t54 : Int, (∀ u_3 : World, S__2 u_3 → u_3.cell? ((newA w).add 2) = some (.int .u8 t54)) ∧ 0 ≤ (IntKind.i64.wrap (t14 + 1) : Int) ∧ (IntKind.i64.wrap (t14 + 1) : Int) < ((outn : Nat) : Int) ∧ ∃ t57p : Addr, outA = some t57p ∧ (∃ u : Value, w_8.cell? (t57p.add (Int.toNat (IntKind.i64.wrap (t14 + 1)) * 1)) = some u) ∧ w_8.frozen? (t57p.add (Int.toNat (IntKind.i64.wrap (t14 + 1)) * 1)) = false ∧ letW (w_8.setCell (t57p.add (Int.toNat (IntKind.i64.wrap (t14 + 1)) * 1)) (.bool true)) fun w_9 => S__2 w_9 ∧ 0 ≤ (IntKind.i64.wrap ((IntKind.i64.wrap (t14 + 1)) + (IntKind.i64.wrap t47)) : Int) ∧ (IntKind.i64.wrap ((IntKind.i64.wrap (t14 + 1)) + (IntKind.i64.wrap t47)) : Int) < ((outn : Nat) : Int) ∧ ∃ t58p : Addr, outA = some t58p ∧ (∃ u : Value, w_9.cell? (t58p.add (Int.toNat (IntKind.i64.wrap ((IntKind.i64.wrap (t14 + 1)) + (IntKind.i64.wrap t47))) * 1)) = some u) ∧ w_9.frozen? (t58p.add (Int.toNat (IntKind.i64.wrap ((IntKind.i64.wrap (t14 + 1)) + (IntKind.i64.wrap t47))) * 1)) = false ∧ letW (w_9.setCell (t58p.add (Int.toNat (IntKind.i64.wrap ((IntKind.i64.wrap (t14 + 1)) + (IntKind.i64.wrap t47))) * 1)) (.bool true)) fun w_10 => S__2 w_10 ∧ 0 ≤ (IntKind.i64.wrap ((IntKind.i64.wrap (t14 + 1)) + (IntKind.i64.wrap t54)) : Int) ∧ (IntKind.i64.wrap ((IntKind.i64.wrap (t14 + 1)) + (IntKind.i64.wrap t54)) : Int) < ((outn : Nat) : Int) ∧ ∃ t59p : Addr, outA = some t59p ∧ (∃ u : Value, w_10.cell? (t59p.add (Int.toNat (IntKind.i64.wrap ((IntKind.i64.wrap (t14 + 1)) + (IntKind.i64.wrap t54))) * 1)) = some u) ∧ w_10.frozen? (t59p.add (Int.toNat (IntKind.i64.wrap ((IntKind.i64.wrap (t14 + 1)) + (IntKind.i64.wrap t54))) * 1)) = false ∧ letW (w_10.setCell (t59p.add (Int.toNat (IntKind.i64.wrap ((IntKind.i64.wrap (t14 + 1)) + (IntKind.i64.wrap t54))) * 1)) (.bool true)) fun w_11 => graph_leads.J2 R outA outn outc t12A t12n t12c t13 t14 w_11)
    (∃ t62 : Int, w_7.cell? (newA w) = some (.int .u16 t62) ∧ Run Try.prog 64 #[(.int .u16 t62)] w_7 fun v_2 w_12 => ∃ t63 : Int, v_2 = (.int .i64 t63) ∧ ifP ((t63 : Int) == 6)
    (0 ≤ (IntKind.i64.wrap (t14 + 1) : Int) ∧ (IntKind.i64.wrap (t14 + 1) : Int) < ((outn : Nat) : Int) ∧ ∃ t68p : Addr, outA = some t68p ∧ (∃ u : Value, w_12.cell? (t68p.add (Int.toNat (IntKind.i64.wrap (t14 + 1)) * 1)) = some u) ∧ w_12.frozen? (t68p.add (Int.toNat (IntKind.i64.wrap (t14 + 1)) * 1)) = false ∧ letW (w_12.setCell (t68p.add (Int.toNat (IntKind.i64.wrap (t14 + 1)) * 1)) (.bool true)) fun w_13 => graph_leads.J1 R outA outn outc t12A t12n t12c t13 t14 w_13)
    (graph_leads.J1 R outA outn outc t12A t12n t12c t13 t14 w_12))))
    (R (.slice outA outn outc) w)

@[reducible] def graph_leads.vc (R : Value → World → Prop) (pA : Option Addr) (pn : Nat) (pc : Nat) (w : World) : Prop :=
  ∃ (v : Value) (w_2 : World), (Instr.makeSlice 53 (.int .i64 (IntKind.i64.wrap (((pn : Nat) : Int) + 1))) (.int .i64 (IntKind.i64.wrap (((pn : Nat) : Int) + 1)))).run Try.prog w = .ok v w_2 ∧ ∃ (t9A : Option Addr) (t9n t9c : Nat), v = (.slice t9A t9n t9c) ∧ 0 ≤ (0 : Int) ∧ (0 : Int) < ((t9n : Nat) : Int) ∧ ∃ t11p : Addr, t9A = some t11p ∧ (∃ u : Value, w_2.cell? (t11p.add (Int.toNat 0 * 1)) = some u) ∧ w_2.frozen? (t11p.add (Int.toNat 0 * 1)) = false ∧ letW (w_2.setCell (t11p.add (Int.toNat 0 * 1)) (.bool true)) fun w_3 => graph_leads.L0 R t9A t9n t9c pA pn pc ((pn : Nat) : Int) 0 w_3

theorem graph_leads.B0_eq (R : Value → World → Prop) (outA : Option Addr) (outn : Nat) (outc : Nat) (t12A : Option Addr) (t12n : Nat) (t12c : Nat) (t13 : Int) (t14 : Int) (w : World) (ts : Nat → Value) :
    code Try.prog none graph_leads.live 0 graph_leads.c0 (thenK (fun st w => loopVC (fun K => code Try.prog none graph_leads.live 0 graph_leads.c0 K) (graph_leads.live 0) (graph_leads.K0 R) (clearFrom (graph_leads.live 0) 0 st) w) (graph_leads.K0 R)) (mergeFrom (graph_leads.live 0) ts 0 (clearFrom (graph_leads.live 0) 0 [undef, undef, undef, (.slice outA outn outc), undef, undef, undef, undef, undef, undef, undef, undef, (.slice t12A t12n t12c), (.int .i64 t13), (.int .i64 t14), undef, undef, undef, undef, undef, undef, undef, undef, undef, undef, undef, undef, undef, undef, undef, undef, undef, undef, undef, undef, undef, undef, undef, undef, undef, undef, undef, undef, undef, undef, undef, undef, undef, undef, undef, undef, undef, undef, undef, undef, undef, undef, undef, undef, undef, undef, undef, undef, undef, undef, undef, undef, undef, undef, undef, undef])) w = graph_leads.B0 R outA outn outc t12A t12n t12c t13 t14 w := by kernel_rfl
theorem graph_leads.L0_step {R : Value → World → Prop} {outA : Option Addr} {outn : Nat} {outc : Nat} {t12A : Option Addr} {t12n : Nat} {t12c : Nat} {t13 : Int} {t14 : Int} {w : World} (h : graph_leads.B0 R outA outn outc t12A t12n t12c t13 t14 w) : graph_leads.L0 R outA outn outc t12A t12n t12c t13 t14 w :=
  loop_step (live := graph_leads.live) (b := 0) (x := graph_leads.c0) fun ts => Eq.mpr (graph_leads.B0_eq R outA outn outc t12A t12n t12c t13 t14 w ts) h
theorem graph_leads.eq (R : Value → World → Prop) (pA : Option Addr) (pn : Nat) (pc : Nat) (w : World) : fnVC Try.prog none graph_leads.live Try.f59 R [(.slice pA pn pc)] w = graph_leads.vc R pA pn pc w := by kernel_rfl
set_option maxHeartbeats 4000000 in
theorem graph_leads.ok {R : Value → World → Prop} {pA : Option Addr} {pn : Nat} {pc : Nat} {w : World} (h : graph_leads.vc R pA pn pc w) : Run Try.prog 59 #[(.slice pA pn pc)] w R := by
  have h2 := Eq.mpr (graph_leads.eq R pA pn pc w) h
  exact fn_sound Try.mixed Try.func59 (by kernel_rfl) h2

/-! ### riddle/graph.block: function 60 -/
noncomputable def graph_block.body : Code := bodyOf Try.f60
def graph_block.live : Nat → List Nat
  | _ => []
def graph_block.J1 (R : Value → World → Prop) (t8 : Addr) (w : World) : Prop :=
  ∃ (t8_0A : Option Addr) (t8_0n t8_0c : Nat), w.cell? t8 = some (.slice t8_0A t8_0n t8_0c) ∧ ∃ t8_1 : Int, w.cell? (t8.add 1) = some (.int .i64 t8_1) ∧ ∃ t8_2 : Int, w.cell? (t8.add 2) = some (.int .u16 t8_2) ∧ ∃ t8_3 : Int, w.cell? (t8.add 3) = some (.int .u8 t8_3) ∧ ∃ t8_4 : Int, w.cell? (t8.add 4) = some (.int .u8 t8_4) ∧ ∃ t8_5 : Int, w.cell? (t8.add 5) = some (.int .u32 t8_5) ∧ ∃ t8_6 : Int, w.cell? (t8.add 6) = some (.int .i64 t8_6) ∧ ∃ t8_7 : Int, w.cell? (t8.add 7) = some (.int .i64 t8_7) ∧ R (.agg #[(.slice t8_0A t8_0n t8_0c), (.int .i64 t8_1), (.int .u16 t8_2), (.int .u8 t8_3), (.int .u8 t8_4), (.int .u32 t8_5), (.int .i64 t8_6), (.int .i64 t8_7)]) w

def graph_block.J0 (R : Value → World → Prop) (end_ : Int) (numberA : Option Addr) (numbern : Nat) (numberc : Nat) (t8 : Addr) (last : Addr) (codeA : Option Addr) (coden : Nat) (codec : Nat) (plain : Addr) (w : World) : Prop :=
  ∃ t43 : Int, w.cell? last = some (.int .u16 t43) ∧ Run Try.prog 64 #[(.int .u16 t43)] w fun v w_2 => ∃ t44 : Int, v = (.int .i64 t44) ∧ ifP ((t44 : Int) == 6)
    (∃ t47_0 : Int, w_2.cell? plain = some (.int .u16 t47_0) ∧ ∃ t47_1 : Int, w_2.cell? (plain.add 1) = some (.int .u8 t47_1) ∧ ∃ t47_2 : Int, w_2.cell? (plain.add 2) = some (.int .u8 t47_2) ∧ ∃ t47_3 : Int, w_2.cell? (plain.add 3) = some (.int .u32 t47_3) ∧ storeRow t8 0 [(.slice codeA coden codec), (.int .i64 1), (.int .u16 t47_0), (.int .u8 t47_1), (.int .u8 t47_2), (.int .u32 t47_3), (.int .i64 0), (.int .i64 0)] w_2 fun w_3 => ∃ (t8_0A : Option Addr) (t8_0n t8_0c : Nat), w_3.cell? t8 = some (.slice t8_0A t8_0n t8_0c) ∧ ∃ t8_1 : Int, w_3.cell? (t8.add 1) = some (.int .i64 t8_1) ∧ ∃ t8_2 : Int, w_3.cell? (t8.add 2) = some (.int .u16 t8_2) ∧ ∃ t8_3 : Int, w_3.cell? (t8.add 3) = some (.int .u8 t8_3) ∧ ∃ t8_4 : Int, w_3.cell? (t8.add 4) = some (.int .u8 t8_4) ∧ ∃ t8_5 : Int, w_3.cell? (t8.add 5) = some (.int .u32 t8_5) ∧ ∃ t8_6 : Int, w_3.cell? (t8.add 6) = some (.int .i64 t8_6) ∧ ∃ t8_7 : Int, w_3.cell? (t8.add 7) = some (.int .i64 t8_7) ∧ R (.agg #[(.slice t8_0A t8_0n t8_0c), (.int .i64 t8_1), (.int .u16 t8_2), (.int .u8 t8_3), (.int .u8 t8_4), (.int .u32 t8_5), (.int .i64 t8_6), (.int .i64 t8_7)]) w_3)
    (∃ t51 : Int, w_2.cell? last = some (.int .u16 t51) ∧ ifP ((t51 : Int) == 5)
    (∃ t57 : Int, w_2.cell? (last.add 3) = some (.int .u32 t57) ∧ 0 ≤ (IntKind.i64.wrap (end_ + (IntKind.i64.wrap t57)) : Int) ∧ (IntKind.i64.wrap (end_ + (IntKind.i64.wrap t57)) : Int) < ((numbern : Nat) : Int) ∧ ∃ t60p : Addr, numberA = some t60p ∧ ∃ t61 : Int, w_2.cell? (t60p.add (Int.toNat (IntKind.i64.wrap (end_ + (IntKind.i64.wrap t57))) * 1)) = some (.int .i64 t61) ∧ storeRow t8 0 [(.slice codeA coden codec), (.int .i64 2), (.int .u16 0), (.int .u8 0), (.int .u8 0), (.int .u32 0), (.int .i64 t61), (.int .i64 0)] w_2 fun w_4 => ∃ (t8_0A_2 : Option Addr) (t8_0n_2 t8_0c_2 : Nat), w_4.cell? t8 = some (.slice t8_0A_2 t8_0n_2 t8_0c_2) ∧ ∃ t8_1_2 : Int, w_4.cell? (t8.add 1) = some (.int .i64 t8_1_2) ∧ ∃ t8_2_2 : Int, w_4.cell? (t8.add 2) = some (.int .u16 t8_2_2) ∧ ∃ t8_3_2 : Int, w_4.cell? (t8.add 3) = some (.int .u8 t8_3_2) ∧ ∃ t8_4_2 : Int, w_4.cell? (t8.add 4) = some (.int .u8 t8_4_2) ∧ ∃ t8_5_2 : Int, w_4.cell? (t8.add 5) = some (.int .u32 t8_5_2) ∧ ∃ t8_6_2 : Int, w_4.cell? (t8.add 6) = some (.int .i64 t8_6_2) ∧ ∃ t8_7_2 : Int, w_4.cell? (t8.add 7) = some (.int .i64 t8_7_2) ∧ R (.agg #[(.slice t8_0A_2 t8_0n_2 t8_0c_2), (.int .i64 t8_1_2), (.int .u16 t8_2_2), (.int .u8 t8_3_2), (.int .u8 t8_4_2), (.int .u32 t8_5_2), (.int .i64 t8_6_2), (.int .i64 t8_7_2)]) w_4)
    (∃ t65 : Int, w_2.cell? last = some (.int .u16 t65) ∧ Run Try.prog 64 #[(.int .u16 t65)] w_2 fun v_2 w_5 => ∃ t66 : Int, v_2 = (.int .i64 t66) ∧ ifP ((t66 : Int) == 5)
    (∃ S_ : World → Prop, S_ w_5.drew ∧ letW w_5.drew fun w_6 => ∃ t69_0 : Int, (∀ u : World, S_ u → u.cell? plain = some (.int .u16 t69_0)) ∧ ∃ t69_1 : Int, (∀ u_2 : World, S_ u_2 → u_2.cell? (plain.add 1) = some (.int .u8 t69_1)) ∧ ∃ t69_2 : Int, (∀ u_3 : World, S_ u_3 → u_3.cell? (plain.add 2) = some (.int .u8 t69_2)) ∧ ∃ t69_3 : Int, (∀ u_4 : World, S_ u_4 → u_4.cell? (plain.add 3) = some (.int .u32 t69_3)) ∧ ∃ t73 : Int, (∀ u_5 : World, S_ u_5 → u_5.cell? (last.add 1) = some (.int .u8 t73)) ∧ 0 ≤ (IntKind.i64.wrap (end_ + (IntKind.i64.wrap t73)) : Int) ∧ (IntKind.i64.wrap (end_ + (IntKind.i64.wrap t73)) : Int) < ((numbern : Nat) : Int) ∧ ∃ t76p : Addr, numberA = some t76p ∧ ∃ t77 : Int, (∀ u_6 : World, S_ u_6 → u_6.cell? (t76p.add (Int.toNat (IntKind.i64.wrap (end_ + (IntKind.i64.wrap t73))) * 1)) = some (.int .i64 t77)) ∧ ∃ t81 : Int, (∀ u_7 : World, S_ u_7 → u_7.cell? (last.add 2) = some (.int .u8 t81)) ∧ 0 ≤ (IntKind.i64.wrap (end_ + (IntKind.i64.wrap t81)) : Int) ∧ (IntKind.i64.wrap (end_ + (IntKind.i64.wrap t81)) : Int) < ((numbern : Nat) : Int) ∧ ∃ t84p : Addr, numberA = some t84p ∧ ∃ t85 : Int, (∀ u_8 : World, S_ u_8 → u_8.cell? (t84p.add (Int.toNat (IntKind.i64.wrap (end_ + (IntKind.i64.wrap t81))) * 1)) = some (.int .i64 t85)) ∧ storeRow t8 0 [(.slice codeA coden codec), (.int .i64 3), (.int .u16 t69_0), (.int .u8 t69_1), (.int .u8 t69_2), (.int .u32 t69_3), (.int .i64 t77), (.int .i64 t85)] w_6 fun w_7 => ∃ (t8_0A_3 : Option Addr) (t8_0n_3 t8_0c_3 : Nat), w_7.cell? t8 = some (.slice t8_0A_3 t8_0n_3 t8_0c_3) ∧ ∃ t8_1_3 : Int, w_7.cell? (t8.add 1) = some (.int .i64 t8_1_3) ∧ ∃ t8_2_3 : Int, w_7.cell? (t8.add 2) = some (.int .u16 t8_2_3) ∧ ∃ t8_3_3 : Int, w_7.cell? (t8.add 3) = some (.int .u8 t8_3_3) ∧ ∃ t8_4_3 : Int, w_7.cell? (t8.add 4) = some (.int .u8 t8_4_3) ∧ ∃ t8_5_3 : Int, w_7.cell? (t8.add 5) = some (.int .u32 t8_5_3) ∧ ∃ t8_6_3 : Int, w_7.cell? (t8.add 6) = some (.int .i64 t8_6_3) ∧ ∃ t8_7_3 : Int, w_7.cell? (t8.add 7) = some (.int .i64 t8_7_3) ∧ R (.agg #[(.slice t8_0A_3 t8_0n_3 t8_0c_3), (.int .i64 t8_1_3), (.int .u16 t8_2_3), (.int .u8 t8_3_3), (.int .u8 t8_4_3), (.int .u32 t8_5_3), (.int .i64 t8_6_3), (.int .i64 t8_7_3)]) w_7)
    (∃ S__2 : World → Prop, S__2 w_5.drew ∧ letW w_5.drew fun w_8 => ∃ t88_0 : Int, (∀ u_9 : World, S__2 u_9 → u_9.cell? last = some (.int .u16 t88_0)) ∧ ∃ t88_1 : Int, (∀ u_10 : World, S__2 u_10 → u_10.cell? (last.add 1) = some (.int .u8 t88_1)) ∧ ∃ t88_2 : Int, (∀ u_11 : World, S__2 u_11 → u_11.cell? (last.add 2) = some (.int .u8 t88_2)) ∧ ∃ t88_3 : Int, (∀ u_12 : World, S__2 u_12 → u_12.cell? (last.add 3) = some (.int .u32 t88_3)) ∧ 0 ≤ (end_ : Int) ∧ (end_ : Int) < ((numbern : Nat) : Int) ∧ ∃ t93p : Addr, numberA = some t93p ∧ ∃ t94 : Int, (∀ u_13 : World, S__2 u_13 → u_13.cell? (t93p.add (Int.toNat end_ * 1)) = some (.int .i64 t94)) ∧ letW (w_8.alloc (.cells #[(.int .u16 t88_0), (.int .u8 t88_1), (.int .u8 t88_2), (.int .u32 t88_3)] 47)) fun w_9 => S__2 w_9 ∧ ∃ (v_3 : Value) (w_10 : World), (Builtin.append_ #[39, 39] 39 #[(.slice codeA coden codec), (.slice (some (newA w_8)) 1 1)]).run Try.prog w_9 = .ok v_3 w_10 ∧ ∃ (t90A : Option Addr) (t90n t90c : Nat), v_3 = (.slice t90A t90n t90c) ∧ S__2 w_10 ∧ storeRow t8 0 [(.slice t90A t90n t90c), (.int .i64 2), (.int .u16 0), (.int .u8 0), (.int .u8 0), (.int .u32 0), (.int .i64 t94), (.int .i64 0)] w_10 fun w_11 => graph_block.J1 R t8 w_11)))

@[reducible] def graph_block.vc (R : Value → World → Prop) (pA : Option Addr) (pn : Nat) (pc : Nat) (at_ : Int) (end_ : Int) (numberA : Option Addr) (numbern : Nat) (numberc : Nat) (w : World) : Prop :=
  letW (w.alloc (.cells #[(.slice none 0 0), (.int .i64 0), (.int .u16 0), (.int .u8 0), (.int .u8 0), (.int .u32 0), (.int .i64 0), (.int .i64 0)] 49)) fun w_2 => 0 ≤ (IntKind.i64.wrap (end_ - 1) : Int) ∧ (IntKind.i64.wrap (end_ - 1) : Int) < ((pn : Nat) : Int) ∧ ∃ t18p : Addr, pA = some t18p ∧ ∃ t19_0 : Int, w_2.cell? (t18p.add (Int.toNat (IntKind.i64.wrap (end_ - 1)) * 4)) = some (.int .u16 t19_0) ∧ ∃ t19_1 : Int, w_2.cell? ((t18p.add (Int.toNat (IntKind.i64.wrap (end_ - 1)) * 4)).add 1) = some (.int .u8 t19_1) ∧ ∃ t19_2 : Int, w_2.cell? ((t18p.add (Int.toNat (IntKind.i64.wrap (end_ - 1)) * 4)).add 2) = some (.int .u8 t19_2) ∧ ∃ t19_3 : Int, w_2.cell? ((t18p.add (Int.toNat (IntKind.i64.wrap (end_ - 1)) * 4)).add 3) = some (.int .u32 t19_3) ∧ letW (w_2.alloc (.cells #[(.int .u16 0), (.int .u8 0), (.int .u8 0), (.int .u32 0)] 47)) fun w_3 => storeRow (newA w_2) 0 [(.int .u16 t19_0), (.int .u8 t19_1), (.int .u8 t19_2), (.int .u32 t19_3)] w_3 fun w_4 => letW (w_4.alloc (.cells #[] 47)) fun w_5 => (0 : Int) ≤ at_ ∧ (at_ : Int) ≤ IntKind.i64.wrap (end_ - 1) ∧ (IntKind.i64.wrap (end_ - 1) : Int) ≤ ((pc : Nat) : Int) ∧ ∃ (v : Value) (w_6 : World), (Builtin.append_ #[39, 39] 39 #[(.slice (some (newA w_4)) 0 0), (.slice (subA pA pc (Int.toNat at_) 4) ((Int.toNat (IntKind.i64.wrap (end_ - 1))) - (Int.toNat at_)) (pc - (Int.toNat at_)))]).run Try.prog w_5 = .ok v w_6 ∧ ∃ (t26A : Option Addr) (t26n t26c : Nat), v = (.slice t26A t26n t26c) ∧ ∃ t29 : Int, w_6.cell? (newA w_2) = some (.int .u16 t29) ∧ Run Try.prog 100 #[(.int .u16 t29)] w_6 fun v_2 w_7 => ∃ t300 : Bool, ∃ t301 : Bool, ∃ t302 : Bool, v_2 = (.tuple #[(.bool t300), (.bool t301), (.bool t302)]) ∧ ∃ t35 : Int, w_7.cell? (newA w_2) = some (.int .u16 t35) ∧ letW (w_7.alloc (.cells #[(.int .u16 0), (.int .u8 0), (.int .u8 0), (.int .u32 0)] 47)) fun w_8 => storeRow (newA w_7) 0 [(.int .u16 t35), (.int .u8 0), (.int .u8 0), (.int .u32 0)] w_8 fun w_9 => ifP t300
    (∃ t39 : Int, w_9.cell? ((newA w_2).add 3) = some (.int .u32 t39) ∧ (∃ u : Value, w_9.cell? ((newA w_7).add 3) = some u) ∧ w_9.frozen? ((newA w_7).add 3) = false ∧ letW (w_9.setCell ((newA w_7).add 3) (.int .u32 t39)) fun w_10 => graph_block.J0 R end_ numberA numbern numberc (newA w) (newA w_2) t26A t26n t26c (newA w_7) w_10)
    (graph_block.J0 R end_ numberA numbern numberc (newA w) (newA w_2) t26A t26n t26c (newA w_7) w_9)

theorem graph_block.eq (R : Value → World → Prop) (pA : Option Addr) (pn : Nat) (pc : Nat) (at_ : Int) (end_ : Int) (numberA : Option Addr) (numbern : Nat) (numberc : Nat) (w : World) : fnVC Try.prog none graph_block.live Try.f60 R [(.slice pA pn pc), (.int .i64 at_), (.int .i64 end_), (.slice numberA numbern numberc)] w = graph_block.vc R pA pn pc at_ end_ numberA numbern numberc w := by kernel_rfl
set_option maxHeartbeats 4000000 in
theorem graph_block.ok {R : Value → World → Prop} {pA : Option Addr} {pn : Nat} {pc : Nat} {at_ : Int} {end_ : Int} {numberA : Option Addr} {numbern : Nat} {numberc : Nat} {w : World} (h : graph_block.vc R pA pn pc at_ end_ numberA numbern numberc w) : Run Try.prog 60 #[(.slice pA pn pc), (.int .i64 at_), (.int .i64 end_), (.slice numberA numbern numberc)] w R := by
  have h2 := Eq.mpr (graph_block.eq R pA pn pc at_ end_ numberA numbern numberc w) h
  exact fn_sound Try.mixed Try.func60 (by kernel_rfl) h2

/-! ### riddle/graph.Of: function 21 -/
noncomputable def graph_Of.body : Code := bodyOf Try.f21
def graph_Of.live : Nat → List Nat
  | 0 => [0, 6, 7, 8, 26, 27]
  | 2 => [0, 6, 7, 10, 11]
  | 4 => [0, 6, 7, 10, 11, 12]
  | _ => []
noncomputable def graph_Of.c0 : Code := sub graph_Of.body [1, 1, 1, 1, 1, 0, 1, 0, 0]
noncomputable def graph_Of.c2 : Code := sub graph_Of.body [1, 1, 1, 1, 1, 1, 1, 0, 1, 0, 0]
noncomputable def graph_Of.c4 : Code := sub graph_Of.body [1, 1, 1, 1, 1, 1, 1, 0, 1, 0, 0, 1, 0, 1, 0, 0, 0]
def graph_Of.K0 (R : Value → World → Prop) : Ex → St → World → Prop := (blockK 0 (thenK (fun st w => code Try.prog none graph_Of.live 0 (sub graph_Of.body [1, 1, 1, 1, 1, 1]) (retK Try.prog Try.f21 R) st w) (retK Try.prog Try.f21 R)))
def graph_Of.L0 (R : Value → World → Prop) (pA : Option Addr) (pn : Nat) (pc : Nat) (leadA : Option Addr) (leadn : Nat) (leadc : Nat) (numberA : Option Addr) (numbern : Nat) (numberc : Nat) (n : Int) (t26 : Int) (t27 : Int) (w : World) : Prop :=
  loopVC (fun K => code Try.prog none graph_Of.live 0 graph_Of.c0 K) (graph_Of.live 0) (graph_Of.K0 R) [(.slice pA pn pc), undef, undef, undef, undef, undef, (.slice leadA leadn leadc), (.slice numberA numbern numberc), (.int .i64 n), undef, undef, undef, undef, undef, undef, undef, undef, undef, undef, undef, undef, undef, undef, undef, undef, undef, (.int .i64 t26), (.int .i64 t27), undef, undef, undef, undef, undef, undef, undef, undef, undef, undef, undef, undef, undef, undef, undef, undef, undef, undef, undef, undef, undef, undef, undef, undef, undef, undef, undef, undef, undef, undef, undef, undef, undef, undef, undef, undef, undef, undef, undef, undef, undef, undef] w
def graph_Of.K2 (R : Value → World → Prop) : Ex → St → World → Prop := (blockK 2 (thenK (fun st w => code Try.prog none graph_Of.live 0 (sub graph_Of.body [1, 1, 1, 1, 1, 1, 1, 1]) (retK Try.prog Try.f21 R) st w) (retK Try.prog Try.f21 R)))
def graph_Of.L2 (R : Value → World → Prop) (pA : Option Addr) (pn : Nat) (pc : Nat) (leadA : Option Addr) (leadn : Nat) (leadc : Nat) (numberA : Option Addr) (numbern : Nat) (numberc : Nat) (outA : Option Addr) (outn : Nat) (outc : Nat) (at_ : Int) (w : World) : Prop :=
  loopVC (fun K => code Try.prog none graph_Of.live 2 graph_Of.c2 K) (graph_Of.live 2) (graph_Of.K2 R) [(.slice pA pn pc), undef, undef, undef, undef, undef, (.slice leadA leadn leadc), (.slice numberA numbern numberc), undef, undef, (.slice outA outn outc), (.int .i64 at_), undef, undef, undef, undef, undef, undef, undef, undef, undef, undef, undef, undef, undef, undef, undef, undef, undef, undef, undef, undef, undef, undef, undef, undef, undef, undef, undef, undef, undef, undef, undef, undef, undef, undef, undef, undef, undef, undef, undef, undef, undef, undef, undef, undef, undef, undef, undef, undef, undef, undef, undef, undef, undef, undef, undef, undef, undef, undef] w
def graph_Of.K4 (R : Value → World → Prop) : Ex → St → World → Prop := (blockK 4 (thenK (fun st w => code Try.prog none graph_Of.live 3 (sub graph_Of.body [1, 1, 1, 1, 1, 1, 1, 0, 1, 0, 0, 1, 0, 1, 1]) (blockK 3 (thenK (fun st w => loopVC (fun K => code Try.prog none graph_Of.live 2 graph_Of.c2 K) (graph_Of.live 2) (graph_Of.K2 R) (clearFrom (graph_Of.live 2) 0 st) w) (graph_Of.K2 R))) st w) (blockK 3 (thenK (fun st w => loopVC (fun K => code Try.prog none graph_Of.live 2 graph_Of.c2 K) (graph_Of.live 2) (graph_Of.K2 R) (clearFrom (graph_Of.live 2) 0 st) w) (graph_Of.K2 R)))))
def graph_Of.L4 (R : Value → World → Prop) (pA : Option Addr) (pn : Nat) (pc : Nat) (leadA : Option Addr) (leadn : Nat) (leadc : Nat) (numberA : Option Addr) (numbern : Nat) (numberc : Nat) (outA : Option Addr) (outn : Nat) (outc : Nat) (at_ : Int) (end_ : Int) (w : World) : Prop :=
  loopVC (fun K => code Try.prog none graph_Of.live 4 graph_Of.c4 K) (graph_Of.live 4) (graph_Of.K4 R) [(.slice pA pn pc), undef, undef, undef, undef, undef, (.slice leadA leadn leadc), (.slice numberA numbern numberc), undef, undef, (.slice outA outn outc), (.int .i64 at_), (.int .i64 end_), undef, undef, undef, undef, undef, undef, undef, undef, undef, undef, undef, undef, undef, undef, undef, undef, undef, undef, undef, undef, undef, undef, undef, undef, undef, undef, undef, undef, undef, undef, undef, undef, undef, undef, undef, undef, undef, undef, undef, undef, undef, undef, undef, undef, undef, undef, undef, undef, undef, undef, undef, undef, undef, undef, undef, undef, undef] w
def graph_Of.J0 (R : Value → World → Prop) (pA : Option Addr) (pn : Nat) (pc : Nat) (leadA : Option Addr) (leadn : Nat) (leadc : Nat) (numberA : Option Addr) (numbern : Nat) (numberc : Nat) (n : Int) (at_ : Int) (t26 : Int) (t27 : Int) (w : World) : Prop :=
  0 ≤ (at_ : Int) ∧ (at_ : Int) < ((numbern : Nat) : Int) ∧ ∃ t39p : Addr, numberA = some t39p ∧ (∃ u : Value, w.cell? (t39p.add (Int.toNat at_ * 1)) = some u) ∧ w.frozen? (t39p.add (Int.toNat at_ * 1)) = false ∧ letW (w.setCell (t39p.add (Int.toNat at_ * 1)) (.int .i64 n)) fun w_2 => graph_Of.L0 R pA pn pc leadA leadn leadc numberA numbern numberc n t26 (IntKind.i64.wrap (t27 + 1)) w_2

def graph_Of.J1 (R : Value → World → Prop) (pA : Option Addr) (pn : Nat) (pc : Nat) (leadA : Option Addr) (leadn : Nat) (leadc : Nat) (numberA : Option Addr) (numbern : Nat) (numberc : Nat) (outA : Option Addr) (outn : Nat) (outc : Nat) (at_ : Int) (end_ : Int) (t57 : Bool) (w : World) : Prop :=
  ifP t57
    (graph_Of.L4 R pA pn pc leadA leadn leadc numberA numbern numberc outA outn outc at_ (IntKind.i64.wrap (end_ + 1)) w)
    (Run Try.prog 60 #[(.slice pA pn pc), (.int .i64 at_), (.int .i64 end_), (.slice numberA numbern numberc)] w fun v w_2 => ∃ (t65_0A : Option Addr) (t65_0n t65_0c : Nat), ∃ t65_1 : Int, ∃ t65_2 : Int, ∃ t65_3 : Int, ∃ t65_4 : Int, ∃ t65_5 : Int, ∃ t65_6 : Int, ∃ t65_7 : Int, v = (.agg #[(.slice t65_0A t65_0n t65_0c), (.int .i64 t65_1), (.int .u16 t65_2), (.int .u8 t65_3), (.int .u8 t65_4), (.int .u32 t65_5), (.int .i64 t65_6), (.int .i64 t65_7)]) ∧ letW (w_2.alloc (.cells #[(.slice t65_0A t65_0n t65_0c), (.int .i64 t65_1), (.int .u16 t65_2), (.int .u8 t65_3), (.int .u8 t65_4), (.int .u32 t65_5), (.int .i64 t65_6), (.int .i64 t65_7)] 49)) fun w_3 => ∃ (v_2 : Value) (w_4 : World), (Builtin.append_ #[22, 22] 22 #[(.slice outA outn outc), (.slice (some (newA w_2)) 1 1)]).run Try.prog w_3 = .ok v_2 w_4 ∧ ∃ (t67A : Option Addr) (t67n t67c : Nat), v_2 = (.slice t67A t67n t67c) ∧ graph_Of.L2 R pA pn pc leadA leadn leadc numberA numbern numberc t67A t67n t67c end_ w_4)

@[reducible] def graph_Of.B4 (R : Value → World → Prop) (pA : Option Addr) (pn : Nat) (pc : Nat) (leadA : Option Addr) (leadn : Nat) (leadc : Nat) (numberA : Option Addr) (numbern : Nat) (numberc : Nat) (outA : Option Addr) (outn : Nat) (outc : Nat) (at_ : Int) (end_ : Int) (w : World) : Prop :=
  0 ≤ (end_ : Int) ∧ (end_ : Int) < ((leadn : Nat) : Int) ∧ ∃ t49p : Addr, leadA = some t49p ∧ ∃ t50 : Bool, w.cell? (t49p.add (Int.toNat end_ * 1)) = some (.bool t50) ∧ ifP (!t50) (graph_Of.J1 R pA pn pc leadA leadn leadc numberA numbern numberc outA outn outc at_ end_ (decide ((end_ : Int) < ((pn : Nat) : Int))) w) (graph_Of.J1 R pA pn pc leadA leadn leadc numberA numbern numberc outA outn outc at_ end_ false w)

@[reducible] def graph_Of.B2 (R : Value → World → Prop) (pA : Option Addr) (pn : Nat) (pc : Nat) (leadA : Option Addr) (leadn : Nat) (leadc : Nat) (numberA : Option Addr) (numbern : Nat) (numberc : Nat) (outA : Option Addr) (outn : Nat) (outc : Nat) (at_ : Int) (w : World) : Prop :=
  ifP (decide ((at_ : Int) < ((pn : Nat) : Int)))
    (graph_Of.L4 R pA pn pc leadA leadn leadc numberA numbern numberc outA outn outc at_ (IntKind.i64.wrap (at_ + 1)) w)
    (R (.tuple #[(.slice outA outn outc), (.int .i64 0)]) w)

@[reducible] def graph_Of.B0 (R : Value → World → Prop) (pA : Option Addr) (pn : Nat) (pc : Nat) (leadA : Option Addr) (leadn : Nat) (leadc : Nat) (numberA : Option Addr) (numbern : Nat) (numberc : Nat) (n : Int) (t26 : Int) (t27 : Int) (w : World) : Prop :=
  ifP (decide ((t27 : Int) < t26))
    (0 ≤ (t27 : Int) ∧ (t27 : Int) < ((leadn : Nat) : Int) ∧ ∃ t32p : Addr, leadA = some t32p ∧ ∃ t33 : Bool, w.cell? (t32p.add (Int.toNat t27 * 1)) = some (.bool t33) ∧ ifP t33
    (graph_Of.J0 R pA pn pc leadA leadn leadc numberA numbern numberc (IntKind.i64.wrap (n + 1)) t27 t26 t27 w)
    (graph_Of.J0 R pA pn pc leadA leadn leadc numberA numbern numberc n t27 t26 t27 w))
    (graph_Of.L2 R pA pn pc leadA leadn leadc numberA numbern numberc none 0 0 0 w)

@[reducible] def graph_Of.vc (R : Value → World → Prop) (pA : Option Addr) (pn : Nat) (pc : Nat) (w : World) : Prop :=
  Run Try.prog 39 #[(.slice pA pn pc)] w fun v w_2 => ∃ t150 : Int, ∃ t151 : Int, v = (.tuple #[(.int .i64 t150), (.int .i64 t151)]) ∧ ifP ((t151 : Int) != 0)
    (R (.tuple #[(.slice none 0 0), (.int .i64 155)]) w_2)
    (Run Try.prog 59 #[(.slice pA pn pc)] w_2 fun v_2 w_3 => ∃ (t21A : Option Addr) (t21n t21c : Nat), v_2 = (.slice t21A t21n t21c) ∧ ∃ (v_3 : Value) (w_4 : World), (Instr.makeSlice 62 (.int .i64 ((pn : Nat) : Int)) (.int .i64 ((pn : Nat) : Int))).run Try.prog w_3 = .ok v_3 w_4 ∧ ∃ (t24A : Option Addr) (t24n t24c : Nat), v_3 = (.slice t24A t24n t24c) ∧ graph_Of.L0 R pA pn pc t21A t21n t21c t24A t24n t24c (-1) ((pn : Nat) : Int) 0 w_4)

theorem graph_Of.B0_eq (R : Value → World → Prop) (pA : Option Addr) (pn : Nat) (pc : Nat) (leadA : Option Addr) (leadn : Nat) (leadc : Nat) (numberA : Option Addr) (numbern : Nat) (numberc : Nat) (n : Int) (t26 : Int) (t27 : Int) (w : World) (ts : Nat → Value) :
    code Try.prog none graph_Of.live 0 graph_Of.c0 (thenK (fun st w => loopVC (fun K => code Try.prog none graph_Of.live 0 graph_Of.c0 K) (graph_Of.live 0) (graph_Of.K0 R) (clearFrom (graph_Of.live 0) 0 st) w) (graph_Of.K0 R)) (mergeFrom (graph_Of.live 0) ts 0 (clearFrom (graph_Of.live 0) 0 [(.slice pA pn pc), undef, undef, undef, undef, undef, (.slice leadA leadn leadc), (.slice numberA numbern numberc), (.int .i64 n), undef, undef, undef, undef, undef, undef, undef, undef, undef, undef, undef, undef, undef, undef, undef, undef, undef, (.int .i64 t26), (.int .i64 t27), undef, undef, undef, undef, undef, undef, undef, undef, undef, undef, undef, undef, undef, undef, undef, undef, undef, undef, undef, undef, undef, undef, undef, undef, undef, undef, undef, undef, undef, undef, undef, undef, undef, undef, undef, undef, undef, undef, undef, undef, undef, undef])) w = graph_Of.B0 R pA pn pc leadA leadn leadc numberA numbern numberc n t26 t27 w := by kernel_rfl
theorem graph_Of.L0_step {R : Value → World → Prop} {pA : Option Addr} {pn : Nat} {pc : Nat} {leadA : Option Addr} {leadn : Nat} {leadc : Nat} {numberA : Option Addr} {numbern : Nat} {numberc : Nat} {n : Int} {t26 : Int} {t27 : Int} {w : World} (h : graph_Of.B0 R pA pn pc leadA leadn leadc numberA numbern numberc n t26 t27 w) : graph_Of.L0 R pA pn pc leadA leadn leadc numberA numbern numberc n t26 t27 w :=
  loop_step (live := graph_Of.live) (b := 0) (x := graph_Of.c0) fun ts => Eq.mpr (graph_Of.B0_eq R pA pn pc leadA leadn leadc numberA numbern numberc n t26 t27 w ts) h
theorem graph_Of.B2_eq (R : Value → World → Prop) (pA : Option Addr) (pn : Nat) (pc : Nat) (leadA : Option Addr) (leadn : Nat) (leadc : Nat) (numberA : Option Addr) (numbern : Nat) (numberc : Nat) (outA : Option Addr) (outn : Nat) (outc : Nat) (at_ : Int) (w : World) (ts : Nat → Value) :
    code Try.prog none graph_Of.live 2 graph_Of.c2 (thenK (fun st w => loopVC (fun K => code Try.prog none graph_Of.live 2 graph_Of.c2 K) (graph_Of.live 2) (graph_Of.K2 R) (clearFrom (graph_Of.live 2) 0 st) w) (graph_Of.K2 R)) (mergeFrom (graph_Of.live 2) ts 0 (clearFrom (graph_Of.live 2) 0 [(.slice pA pn pc), undef, undef, undef, undef, undef, (.slice leadA leadn leadc), (.slice numberA numbern numberc), undef, undef, (.slice outA outn outc), (.int .i64 at_), undef, undef, undef, undef, undef, undef, undef, undef, undef, undef, undef, undef, undef, undef, undef, undef, undef, undef, undef, undef, undef, undef, undef, undef, undef, undef, undef, undef, undef, undef, undef, undef, undef, undef, undef, undef, undef, undef, undef, undef, undef, undef, undef, undef, undef, undef, undef, undef, undef, undef, undef, undef, undef, undef, undef, undef, undef, undef])) w = graph_Of.B2 R pA pn pc leadA leadn leadc numberA numbern numberc outA outn outc at_ w := by kernel_rfl
theorem graph_Of.L2_step {R : Value → World → Prop} {pA : Option Addr} {pn : Nat} {pc : Nat} {leadA : Option Addr} {leadn : Nat} {leadc : Nat} {numberA : Option Addr} {numbern : Nat} {numberc : Nat} {outA : Option Addr} {outn : Nat} {outc : Nat} {at_ : Int} {w : World} (h : graph_Of.B2 R pA pn pc leadA leadn leadc numberA numbern numberc outA outn outc at_ w) : graph_Of.L2 R pA pn pc leadA leadn leadc numberA numbern numberc outA outn outc at_ w :=
  loop_step (live := graph_Of.live) (b := 2) (x := graph_Of.c2) fun ts => Eq.mpr (graph_Of.B2_eq R pA pn pc leadA leadn leadc numberA numbern numberc outA outn outc at_ w ts) h
theorem graph_Of.B4_eq (R : Value → World → Prop) (pA : Option Addr) (pn : Nat) (pc : Nat) (leadA : Option Addr) (leadn : Nat) (leadc : Nat) (numberA : Option Addr) (numbern : Nat) (numberc : Nat) (outA : Option Addr) (outn : Nat) (outc : Nat) (at_ : Int) (end_ : Int) (w : World) (ts : Nat → Value) :
    code Try.prog none graph_Of.live 4 graph_Of.c4 (thenK (fun st w => loopVC (fun K => code Try.prog none graph_Of.live 4 graph_Of.c4 K) (graph_Of.live 4) (graph_Of.K4 R) (clearFrom (graph_Of.live 4) 0 st) w) (graph_Of.K4 R)) (mergeFrom (graph_Of.live 4) ts 0 (clearFrom (graph_Of.live 4) 0 [(.slice pA pn pc), undef, undef, undef, undef, undef, (.slice leadA leadn leadc), (.slice numberA numbern numberc), undef, undef, (.slice outA outn outc), (.int .i64 at_), (.int .i64 end_), undef, undef, undef, undef, undef, undef, undef, undef, undef, undef, undef, undef, undef, undef, undef, undef, undef, undef, undef, undef, undef, undef, undef, undef, undef, undef, undef, undef, undef, undef, undef, undef, undef, undef, undef, undef, undef, undef, undef, undef, undef, undef, undef, undef, undef, undef, undef, undef, undef, undef, undef, undef, undef, undef, undef, undef, undef])) w = graph_Of.B4 R pA pn pc leadA leadn leadc numberA numbern numberc outA outn outc at_ end_ w := by kernel_rfl
theorem graph_Of.L4_step {R : Value → World → Prop} {pA : Option Addr} {pn : Nat} {pc : Nat} {leadA : Option Addr} {leadn : Nat} {leadc : Nat} {numberA : Option Addr} {numbern : Nat} {numberc : Nat} {outA : Option Addr} {outn : Nat} {outc : Nat} {at_ : Int} {end_ : Int} {w : World} (h : graph_Of.B4 R pA pn pc leadA leadn leadc numberA numbern numberc outA outn outc at_ end_ w) : graph_Of.L4 R pA pn pc leadA leadn leadc numberA numbern numberc outA outn outc at_ end_ w :=
  loop_step (live := graph_Of.live) (b := 4) (x := graph_Of.c4) fun ts => Eq.mpr (graph_Of.B4_eq R pA pn pc leadA leadn leadc numberA numbern numberc outA outn outc at_ end_ w ts) h
theorem graph_Of.eq (R : Value → World → Prop) (pA : Option Addr) (pn : Nat) (pc : Nat) (w : World) : fnVC Try.prog none graph_Of.live Try.f21 R [(.slice pA pn pc)] w = graph_Of.vc R pA pn pc w := by kernel_rfl
set_option maxHeartbeats 4000000 in
theorem graph_Of.ok {R : Value → World → Prop} {pA : Option Addr} {pn : Nat} {pc : Nat} {w : World} (h : graph_Of.vc R pA pn pc w) : Run Try.prog 21 #[(.slice pA pn pc)] w R := by
  have h2 := Eq.mpr (graph_Of.eq R pA pn pc w) h
  exact fn_sound Try.mixed Try.func21 (by kernel_rfl) h2

/-! ### riddle/graph.weighed: function 61 -/
noncomputable def graph_weighed.body : Code := bodyOf Try.f61
def graph_weighed.live : Nat → List Nat
  | 0 => [1, 2, 3, 11, 19, 20, 21]
  | _ => []
noncomputable def graph_weighed.c0 : Code := sub graph_weighed.body [1, 1, 1, 0, 1, 0, 0]
def graph_weighed.K0 (R : Value → World → Prop) : Ex → St → World → Prop := (blockK 0 (thenK (fun st w => code Try.prog none graph_weighed.live 0 (sub graph_weighed.body [1, 1, 1, 1]) (retK Try.prog Try.f61 R) st w) (retK Try.prog Try.f61 R)))
def graph_weighed.L0 (R : Value → World → Prop) (back : Int) (on : Int) (test : Int) (n : Int) (t19A : Option Addr) (t19n : Nat) (t19c : Nat) (t20 : Int) (t21 : Int) (w : World) : Prop :=
  loopVC (fun K => code Try.prog none graph_weighed.live 0 graph_weighed.c0 K) (graph_weighed.live 0) (graph_weighed.K0 R) [undef, (.int .i64 back), (.int .i64 on), (.int .i64 test), undef, undef, undef, undef, undef, undef, undef, (.int .i64 n), undef, undef, undef, undef, undef, undef, undef, (.slice t19A t19n t19c), (.int .i64 t20), (.int .i64 t21), undef, undef, undef, undef, undef, undef, undef, undef, undef, undef, undef, undef, undef, undef, undef, undef, undef, undef, undef, undef, undef, undef, undef, undef, undef] w
def graph_weighed.J0 (R : Value → World → Prop) (back : Int) (on : Int) (test : Int) (n : Int) (t19A : Option Addr) (t19n : Nat) (t19c : Nat) (t20 : Int) (t21 : Int) (w : World) : Prop :=
  graph_weighed.L0 R back on test n t19A t19n t19c t20 (IntKind.i64.wrap (t21 + 1)) w

@[reducible] def graph_weighed.B0 (R : Value → World → Prop) (back : Int) (on : Int) (test : Int) (n : Int) (t19A : Option Addr) (t19n : Nat) (t19c : Nat) (t20 : Int) (t21 : Int) (w : World) : Prop :=
  ifP (decide ((t21 : Int) < t20))
    (0 ≤ (t21 : Int) ∧ (t21 : Int) < ((t19n : Nat) : Int) ∧ ∃ t23p : Addr, t19A = some t23p ∧ ∃ (t24_0A : Option Addr) (t24_0n t24_0c : Nat), w.cell? (t23p.add (Int.toNat t21 * 8)) = some (.slice t24_0A t24_0n t24_0c) ∧ ∃ t24_1 : Int, w.cell? ((t23p.add (Int.toNat t21 * 8)).add 1) = some (.int .i64 t24_1) ∧ ∃ t24_2 : Int, w.cell? ((t23p.add (Int.toNat t21 * 8)).add 2) = some (.int .u16 t24_2) ∧ ∃ t24_3 : Int, w.cell? ((t23p.add (Int.toNat t21 * 8)).add 3) = some (.int .u8 t24_3) ∧ ∃ t24_4 : Int, w.cell? ((t23p.add (Int.toNat t21 * 8)).add 4) = some (.int .u8 t24_4) ∧ ∃ t24_5 : Int, w.cell? ((t23p.add (Int.toNat t21 * 8)).add 5) = some (.int .u32 t24_5) ∧ ∃ t24_6 : Int, w.cell? ((t23p.add (Int.toNat t21 * 8)).add 6) = some (.int .i64 t24_6) ∧ ∃ t24_7 : Int, w.cell? ((t23p.add (Int.toNat t21 * 8)).add 7) = some (.int .i64 t24_7) ∧ letW (w.alloc (.cells #[(.slice none 0 0), (.int .i64 0), (.int .u16 0), (.int .u8 0), (.int .u8 0), (.int .u32 0), (.int .i64 0), (.int .i64 0)] 49)) fun w_2 => storeRow (newA w) 0 [(.slice t24_0A t24_0n t24_0c), (.int .i64 t24_1), (.int .u16 t24_2), (.int .u8 t24_3), (.int .u8 t24_4), (.int .u32 t24_5), (.int .i64 t24_6), (.int .i64 t24_7)] w_2 fun w_3 => ∃ (t27A : Option Addr) (t27n t27c : Nat), w_3.cell? (newA w) = some (.slice t27A t27n t27c) ∧ ∃ t31 : Int, w_3.cell? ((newA w).add 1) = some (.int .i64 t31) ∧ ifP ((t31 : Int) == 1)
    (graph_weighed.J0 R back on test (IntKind.i64.wrap ((IntKind.i64.wrap (n + ((t27n : Nat) : Int))) + back)) t19A t19n t19c t20 t21 w_3)
    (ifP ((t31 : Int) == 2)
    (graph_weighed.J0 R back on test (IntKind.i64.wrap ((IntKind.i64.wrap (n + ((t27n : Nat) : Int))) + on)) t19A t19n t19c t20 t21 w_3)
    (graph_weighed.J0 R back on test (IntKind.i64.wrap ((IntKind.i64.wrap (n + ((t27n : Nat) : Int))) + test)) t19A t19n t19c t20 t21 w_3)))
    (R (.tuple #[(.int .i64 n), (.int .i64 0)]) w)

@[reducible] def graph_weighed.vc (R : Value → World → Prop) (gA : Option Addr) (gn : Nat) (gc : Nat) (back : Int) (on : Int) (test : Int) (w : World) : Prop :=
  Run Try.prog 48 #[(.slice gA gn gc)] w fun v w_2 => ∃ t15 : Int, v = (.int .i64 t15) ∧ ifP ((t15 : Int) != 0)
    (R (.tuple #[(.int .i64 0), (.int .i64 t15)]) w_2)
    (graph_weighed.L0 R back on test 0 gA gn gc ((gn : Nat) : Int) 0 w_2)

theorem graph_weighed.B0_eq (R : Value → World → Prop) (back : Int) (on : Int) (test : Int) (n : Int) (t19A : Option Addr) (t19n : Nat) (t19c : Nat) (t20 : Int) (t21 : Int) (w : World) (ts : Nat → Value) :
    code Try.prog none graph_weighed.live 0 graph_weighed.c0 (thenK (fun st w => loopVC (fun K => code Try.prog none graph_weighed.live 0 graph_weighed.c0 K) (graph_weighed.live 0) (graph_weighed.K0 R) (clearFrom (graph_weighed.live 0) 0 st) w) (graph_weighed.K0 R)) (mergeFrom (graph_weighed.live 0) ts 0 (clearFrom (graph_weighed.live 0) 0 [undef, (.int .i64 back), (.int .i64 on), (.int .i64 test), undef, undef, undef, undef, undef, undef, undef, (.int .i64 n), undef, undef, undef, undef, undef, undef, undef, (.slice t19A t19n t19c), (.int .i64 t20), (.int .i64 t21), undef, undef, undef, undef, undef, undef, undef, undef, undef, undef, undef, undef, undef, undef, undef, undef, undef, undef, undef, undef, undef, undef, undef, undef, undef])) w = graph_weighed.B0 R back on test n t19A t19n t19c t20 t21 w := by kernel_rfl
theorem graph_weighed.L0_step {R : Value → World → Prop} {back : Int} {on : Int} {test : Int} {n : Int} {t19A : Option Addr} {t19n : Nat} {t19c : Nat} {t20 : Int} {t21 : Int} {w : World} (h : graph_weighed.B0 R back on test n t19A t19n t19c t20 t21 w) : graph_weighed.L0 R back on test n t19A t19n t19c t20 t21 w :=
  loop_step (live := graph_weighed.live) (b := 0) (x := graph_weighed.c0) fun ts => Eq.mpr (graph_weighed.B0_eq R back on test n t19A t19n t19c t20 t21 w ts) h
theorem graph_weighed.eq (R : Value → World → Prop) (gA : Option Addr) (gn : Nat) (gc : Nat) (back : Int) (on : Int) (test : Int) (w : World) : fnVC Try.prog none graph_weighed.live Try.f61 R [(.slice gA gn gc), (.int .i64 back), (.int .i64 on), (.int .i64 test)] w = graph_weighed.vc R gA gn gc back on test w := by kernel_rfl
set_option maxHeartbeats 4000000 in
theorem graph_weighed.ok {R : Value → World → Prop} {gA : Option Addr} {gn : Nat} {gc : Nat} {back : Int} {on : Int} {test : Int} {w : World} (h : graph_weighed.vc R gA gn gc back on test w) : Run Try.prog 61 #[(.slice gA gn gc), (.int .i64 back), (.int .i64 on), (.int .i64 test)] w R := by
  have h2 := Eq.mpr (graph_weighed.eq R gA gn gc back on test w) h
  exact fn_sound Try.mixed Try.func61 (by kernel_rfl) h2

/-! ### riddle/graph.Size: function 31 -/
noncomputable def graph_Size.body : Code := bodyOf Try.f31
def graph_Size.live : Nat → List Nat
  | _ => []
@[reducible] def graph_Size.vc (R : Value → World → Prop) (gA : Option Addr) (gn : Nat) (gc : Nat) (w : World) : Prop :=
  Run Try.prog 61 #[(.slice gA gn gc), (.int .i64 1), (.int .i64 0), (.int .i64 1)] w fun v w_2 => ∃ t50 : Int, ∃ t51 : Int, v = (.tuple #[(.int .i64 t50), (.int .i64 t51)]) ∧ R (.tuple #[(.int .i64 t50), (.int .i64 t51)]) w_2

theorem graph_Size.eq (R : Value → World → Prop) (gA : Option Addr) (gn : Nat) (gc : Nat) (w : World) : fnVC Try.prog none graph_Size.live Try.f31 R [(.slice gA gn gc)] w = graph_Size.vc R gA gn gc w := by kernel_rfl
set_option maxHeartbeats 4000000 in
theorem graph_Size.ok {R : Value → World → Prop} {gA : Option Addr} {gn : Nat} {gc : Nat} {w : World} (h : graph_Size.vc R gA gn gc w) : Run Try.prog 31 #[(.slice gA gn gc)] w R := by
  have h2 := Eq.mpr (graph_Size.eq R gA gn gc w) h
  exact fn_sound Try.mixed Try.func31 (by kernel_rfl) h2

/-! ### riddle/graph.Measure: function 32 -/
noncomputable def graph_Measure.body : Code := bodyOf Try.f32
def graph_Measure.live : Nat → List Nat
  | _ => []
@[reducible] def graph_Measure.vc (R : Value → World → Prop) (gA : Option Addr) (gn : Nat) (gc : Nat) (w : World) : Prop :=
  Run Try.prog 61 #[(.slice gA gn gc), (.int .i64 1), (.int .i64 1), (.int .i64 3)] w fun v w_2 => ∃ t50 : Int, ∃ t51 : Int, v = (.tuple #[(.int .i64 t50), (.int .i64 t51)]) ∧ R (.tuple #[(.int .i64 t50), (.int .i64 t51)]) w_2

theorem graph_Measure.eq (R : Value → World → Prop) (gA : Option Addr) (gn : Nat) (gc : Nat) (w : World) : fnVC Try.prog none graph_Measure.live Try.f32 R [(.slice gA gn gc)] w = graph_Measure.vc R gA gn gc w := by kernel_rfl
set_option maxHeartbeats 4000000 in
theorem graph_Measure.ok {R : Value → World → Prop} {gA : Option Addr} {gn : Nat} {gc : Nat} {w : World} (h : graph_Measure.vc R gA gn gc w) : Run Try.prog 32 #[(.slice gA gn gc)] w R := by
  have h2 := Eq.mpr (graph_Measure.eq R gA gn gc w) h
  exact fn_sound Try.mixed Try.func32 (by kernel_rfl) h2

/-! ### riddle/riddlelaw15.awake: function 14 -/
noncomputable def law15_awake.body : Code := bodyOf Try.f14
def law15_awake.live : Nat → List Nat
  | _ => []
def law15_awake.J0 (R : Value → World → Prop) (t0 : Bool) (w : World) : Prop :=
  R (.bool t0) w

@[reducible] def law15_awake.vc (R : Value → World → Prop) (w : World) : Prop :=
  letW (w.alloc (.cells #[(.int .u16 48), (.int .u8 0), (.int .u8 0), (.int .u32 0), (.int .u16 21), (.int .u8 1), (.int .u8 0), (.int .u32 7), (.int .u16 6), (.int .u8 0), (.int .u8 0), (.int .u32 0), (.int .u16 6), (.int .u8 0), (.int .u8 0), (.int .u32 1)] 47)) fun w_2 => Run Try.prog 21 #[(.slice (some (newA w)) 4 4)] w_2 fun v w_3 => ∃ (t190A : Option Addr) (t190n t190c : Nat), ∃ t191 : Int, v = (.tuple #[(.slice t190A t190n t190c), (.int .i64 t191)]) ∧ letW (w_3.alloc (.cells #[(.int .u8 7)] 5)) fun w_4 => Run Try.prog 17 #[(.slice t190A t190n t190c), (.slice (some (newA w_3)) 1 1)] w_4 fun v_2 w_5 => ∃ t250_0 : Int, ∃ t250_1 : Int, ∃ t250_2 : Int, ∃ t251 : Int, v_2 = (.tuple #[(.agg #[(.int .u32 t250_0), (.int .i64 t250_1), (.int .i64 t250_2)]), (.int .i64 t251)]) ∧ letW (w_5.alloc (.cells #[(.int .u32 0), (.int .i64 0), (.int .i64 0)] 33)) fun w_6 => storeRow (newA w_5) 0 [(.int .u32 t250_0), (.int .i64 t250_1), (.int .i64 t250_2)] w_6 fun w_7 => Run Try.prog 31 #[(.slice t190A t190n t190c)] w_7 fun v_3 w_8 => ∃ t300 : Int, ∃ t301 : Int, v_3 = (.tuple #[(.int .i64 t300), (.int .i64 t301)]) ∧ Run Try.prog 32 #[(.slice t190A t190n t190c)] w_8 fun v_4 w_9 => ∃ t350 : Int, ∃ t351 : Int, v_4 = (.tuple #[(.int .i64 t350), (.int .i64 t351)]) ∧ Run Try.prog 12 #[(.slice none 0 0)] w_9 fun v_5 w_10 => ∃ t390 : Int, ∃ t391 : Int, v_5 = (.tuple #[(.int .i64 t390), (.int .i64 t391)]) ∧ ifP ((t191 : Int) == 0) (ifP ((((t190n : Nat) : Int) : Int) == 3) (ifP ((t251 : Int) == 0) (∃ t54_0 : Int, w_10.cell? (newA w_5) = some (.int .u32 t54_0) ∧ ∃ t54_1 : Int, w_10.cell? ((newA w_5).add 1) = some (.int .i64 t54_1) ∧ ∃ t54_2 : Int, w_10.cell? ((newA w_5).add 2) = some (.int .i64 t54_2) ∧ ∃ (v_6 : Value) (w_11 : World), (eqSem .eql 33 (.tmp 54) (.tmp 55) (.agg #[(.int .u32 t54_0), (.int .i64 t54_1), (.int .i64 t54_2)]) (.agg #[(.int .u32 1), (.int .i64 0), (.int .i64 3)])).run Try.prog w_10 = .ok v_6 w_11 ∧ ∃ t56 : Bool, v_6 = (.bool t56) ∧ ifP t56 (ifP ((t301 : Int) == 0) (ifP ((t300 : Int) == 4) (ifP ((t351 : Int) == 0) (ifP ((t350 : Int) == 6) (law15_awake.J0 R ((t391 : Int) == 150) w_11) (law15_awake.J0 R false w_11)) (law15_awake.J0 R false w_11)) (law15_awake.J0 R false w_11)) (law15_awake.J0 R false w_11)) (law15_awake.J0 R false w_11)) (law15_awake.J0 R false w_10)) (law15_awake.J0 R false w_10)) (law15_awake.J0 R false w_10)

theorem law15_awake.eq (R : Value → World → Prop) (w : World) : fnVC Try.prog none law15_awake.live Try.f14 R [] w = law15_awake.vc R  w := by kernel_rfl
set_option maxHeartbeats 4000000 in
theorem law15_awake.ok {R : Value → World → Prop} {w : World} (h : law15_awake.vc R  w) : Run Try.prog 14 #[] w R := by
  have h2 := Eq.mpr (law15_awake.eq R  w) h
  exact fn_sound Try.mixed Try.func14 (by kernel_rfl) h2

/-! ### riddle/riddlelaw15.GraphChecks: function 3 -/
noncomputable def law15_GraphChecks.body : Code := bodyOf Try.f3
def law15_GraphChecks.live : Nat → List Nat
  | _ => []
def law15_GraphChecks.J0 (R : Value → World → Prop) (t2 : Bool) (w : World) : Prop :=
  R (.bool t2) w

@[reducible] def law15_GraphChecks.vc (R : Value → World → Prop) (gA : Option Addr) (gn : Nat) (gc : Nat) (w : World) : Prop :=
  Run Try.prog 10 #[(.slice gA gn gc)] w fun v w_2 => ∃ t100 : Int, ∃ t101 : Int, v = (.tuple #[(.int .i64 t100), (.int .i64 t101)]) ∧ Run Try.prog 11 #[(.slice gA gn gc)] w_2 fun v_2 w_3 => ∃ (t14A : Option Addr) (t14n t14c : Nat), v_2 = (.slice t14A t14n t14c) ∧ Run Try.prog 12 #[(.slice t14A t14n t14c)] w_3 fun v_3 w_4 => ∃ t170 : Int, ∃ t171 : Int, v_3 = (.tuple #[(.int .i64 t170), (.int .i64 t171)]) ∧ Run Try.prog 13 #[(.slice t14A t14n t14c), (.slice gA gn gc)] w_4 fun v_4 w_5 => ∃ t22 : Bool, v_4 = (.bool t22) ∧ ifP t22 (ifP ((t170 : Int) == t100) (ifP ((t171 : Int) == t101) (Run Try.prog 14 #[] w_5 fun v_5 w_6 => ∃ t34 : Bool, v_5 = (.bool t34) ∧ law15_GraphChecks.J0 R t34 w_6) (law15_GraphChecks.J0 R false w_5)) (law15_GraphChecks.J0 R false w_5)) (law15_GraphChecks.J0 R false w_5)

theorem law15_GraphChecks.eq (R : Value → World → Prop) (gA : Option Addr) (gn : Nat) (gc : Nat) (w : World) : fnVC Try.prog none law15_GraphChecks.live Try.f3 R [(.slice gA gn gc)] w = law15_GraphChecks.vc R gA gn gc w := by kernel_rfl
set_option maxHeartbeats 4000000 in
theorem law15_GraphChecks.ok {R : Value → World → Prop} {gA : Option Addr} {gn : Nat} {gc : Nat} {w : World} (h : law15_GraphChecks.vc R gA gn gc w) : Run Try.prog 3 #[(.slice gA gn gc)] w R := by
  have h2 := Eq.mpr (law15_GraphChecks.eq R gA gn gc w) h
  exact fn_sound Try.mixed Try.func3 (by kernel_rfl) h2

/-! ### riddle/riddleref15.Takes: function 30 -/
noncomputable def ref15_Takes.body : Code := bodyOf Try.f30
def ref15_Takes.live : Nat → List Nat
  | _ => []
@[reducible] def ref15_Takes.vc (R : Value → World → Prop) (gA : Option Addr) (gn : Nat) (gc : Nat) (w : World) : Prop :=
  Run Try.prog 10 #[(.slice gA gn gc)] w fun v w_2 => ∃ t70 : Int, ∃ t71 : Int, v = (.tuple #[(.int .i64 t70), (.int .i64 t71)]) ∧ R (.bool ((t71 : Int) == 0)) w_2

theorem ref15_Takes.eq (R : Value → World → Prop) (gA : Option Addr) (gn : Nat) (gc : Nat) (w : World) : fnVC Try.prog none ref15_Takes.live Try.f30 R [(.slice gA gn gc)] w = ref15_Takes.vc R gA gn gc w := by kernel_rfl
set_option maxHeartbeats 4000000 in
theorem ref15_Takes.ok {R : Value → World → Prop} {gA : Option Addr} {gn : Nat} {gc : Nat} {w : World} (h : ref15_Takes.vc R gA gn gc w) : Run Try.prog 30 #[(.slice gA gn gc)] w R := by
  have h2 := Eq.mpr (ref15_Takes.eq R gA gn gc w) h
  exact fn_sound Try.mixed Try.func30 (by kernel_rfl) h2

/-! ### riddle/riddleref1.In: function 125 -/
noncomputable def ref1_In.body : Code := bodyOf Try.f125
def ref1_In.live : Nat → List Nat
  | _ => []
def ref1_In.J0 (R : Value → World → Prop) (t6 : Bool) (w : World) : Prop :=
  R (.bool t6) w

@[reducible] def ref1_In.vc (R : Value → World → Prop) (many : Int) (at_ : Int) (size : Int) (w : World) : Prop :=
  ifP (decide ((at_ : Int) ≥ 0)) (ifP (decide ((size : Int) ≥ 0)) (ifP (decide ((size : Int) ≤ many)) (ref1_In.J0 R (decide ((at_ : Int) ≤ (IntKind.i64.wrap (many - size)))) w) (ref1_In.J0 R false w)) (ref1_In.J0 R false w)) (ref1_In.J0 R false w)

theorem ref1_In.eq (R : Value → World → Prop) (many : Int) (at_ : Int) (size : Int) (w : World) : fnVC Try.prog none ref1_In.live Try.f125 R [(.int .i64 many), (.int .i64 at_), (.int .i64 size)] w = ref1_In.vc R many at_ size w := by kernel_rfl
set_option maxHeartbeats 4000000 in
theorem ref1_In.ok {R : Value → World → Prop} {many : Int} {at_ : Int} {size : Int} {w : World} (h : ref1_In.vc R many at_ size w) : Run Try.prog 125 #[(.int .i64 many), (.int .i64 at_), (.int .i64 size)] w R := by
  have h2 := Eq.mpr (ref1_In.eq R many at_ size w) h
  exact fn_sound Try.mixed Try.func125 (by kernel_rfl) h2

end
end Go.Proofs.Ytbchjihecdkfeaa
