/- Printed by a program of this repo (wip/tools/gen.py) out of Lean's own print of the functions: each function's weakest precondition, and the equation that it is one. -/
import Derived.Test.YtgjabpgkiaojhaaProg
import Derived.Test.YtgjabpgkiaojhaaS4
import Derived.KernelRfl
import Derived.Test.YtgjabpgkiaojhaaV
namespace Go.Proofs.Ytgjabpgkiaojhaa
open Go.Rd
set_option linter.unusedVariables false
set_option maxRecDepth 100000
section

/-! ### riddle/frame.Check: function 36 -/
noncomputable def frame_Check.body : Code := bodyOf Try.f36
def frame_Check.live : Nat → List Nat
  | _ => []
def frame_Check.J0 (R : Value → World → Prop) (t15 : Bool) (w : World) : Prop :=
  ifP t15
    (R (.int .i64 70) w)
    (R (.int .i64 0) w)

@[reducible] def frame_Check.vc (R : Value → World → Prop) (l_0 : Bool) (l_1 : Bool) (l_2 : Int) (w : World) : Prop :=
  letW (w.alloc (.cells #[(.bool l_0), (.bool l_1), (.int .i64 l_2)] 23)) fun w_2 => ∃ t4 : Int, w_2.cell? ((newA w).add 2) = some (.int .i64 t4) ∧ ifP ((t4 : Int) != 0) (∃ t8 : Int, w_2.cell? ((newA w).add 2) = some (.int .i64 t8) ∧ ifP ((t8 : Int) != 1) (∃ t13 : Int, w_2.cell? ((newA w).add 2) = some (.int .i64 t13) ∧ frame_Check.J0 R ((t13 : Int) != 2) w_2) (frame_Check.J0 R false w_2)) (frame_Check.J0 R false w_2)

theorem frame_Check.eq (R : Value → World → Prop) (l_0 : Bool) (l_1 : Bool) (l_2 : Int) (w : World) : fnVC Try.prog none frame_Check.live Try.f36 R [(.agg #[(.bool l_0), (.bool l_1), (.int .i64 l_2)])] w = frame_Check.vc R l_0 l_1 l_2 w := by kernel_rfl
theorem frame_Check.ok {R : Value → World → Prop} {l_0 : Bool} {l_1 : Bool} {l_2 : Int} {w : World} (h : frame_Check.vc R l_0 l_1 l_2 w) : Run Try.prog 36 #[(.agg #[(.bool l_0), (.bool l_1), (.int .i64 l_2)])] w R := by
  have h2 := Eq.mpr (frame_Check.eq R l_0 l_1 l_2 w) h
  exact fn_sound Try.mixed Try.func36 (by kernel_rfl) h2

/-! ### riddle/frame.must: function 53 -/
noncomputable def frame_must.body : Code := bodyOf Try.f53
def frame_must.live : Nat → List Nat
  | _ => []
@[reducible] def frame_must.vc (R : Value → World → Prop) (X : List PanicEntry → World → Prop) (ok_ : Bool) (why : Int) (w : World) : Prop :=
  ifP (!ok_)
    (X [({ v := (.iface 82 (.agg #[(.int .i64 why)])), recovered := false } : PanicEntry)] w)
    (R (.tuple #[]) w)

theorem frame_must.eq (R : Value → World → Prop) (X : List PanicEntry → World → Prop) (ok_ : Bool) (why : Int) (w : World) : fnVC Try.prog (some X) frame_must.live Try.f53 R [(.bool ok_), (.int .i64 why)] w = frame_must.vc R X ok_ why w := by kernel_rfl
theorem frame_must.ok {R : Value → World → Prop} {X : List PanicEntry → World → Prop} {ok_ : Bool} {why : Int} {w : World} (h : frame_must.vc R X ok_ why w) : RunE Try.prog 53 #[(.bool ok_), (.int .i64 why)] w R X := by
  have h2 := Eq.mpr (frame_must.eq R X ok_ why w) h
  exact fn_soundE Try.mixed Try.func53 (by kernel_rfl) h2

/-! ### (*riddle/frame.reader).size: function 38 -/
noncomputable def frame_reader_size.body : Code := bodyOf Try.f38
def frame_reader_size.live : Nat → List Nat
  | _ => []
@[reducible] def frame_reader_size.vc (R : Value → World → Prop) (X : List PanicEntry → World → Prop) (r : Option Addr) (w : World) : Prop :=
  ∃ t3p : Addr, r = some t3p ∧ ∃ (t5A : Option Addr) (t5n t5c : Nat), w.cell? (t3p.add 3) = some (.slice t5A t5n t5c) ∧ RunE Try.prog 53 #[(.bool (decide ((((t5n : Nat) : Int) : Int) ≤ 65535))), (.int .i64 71)] w (fun v w_2 => v = (.tuple #[]) ∧ R (.tuple #[]) w_2) X

theorem frame_reader_size.eq (R : Value → World → Prop) (X : List PanicEntry → World → Prop) (r : Option Addr) (w : World) : fnVC Try.prog (some X) frame_reader_size.live Try.f38 R [(.pointer r)] w = frame_reader_size.vc R X r w := by kernel_rfl
theorem frame_reader_size.ok {R : Value → World → Prop} {X : List PanicEntry → World → Prop} {r : Option Addr} {w : World} (h : frame_reader_size.vc R X r w) : RunE Try.prog 38 #[(.pointer r)] w R X := by
  have h2 := Eq.mpr (frame_reader_size.eq R X r w) h
  exact fn_soundE Try.mixed Try.func38 (by kernel_rfl) h2

/-! ### (*riddle/frame.reader).need: function 54 -/
noncomputable def frame_reader_need.body : Code := bodyOf Try.f54
def frame_reader_need.live : Nat → List Nat
  | _ => []
@[reducible] def frame_reader_need.vc (R : Value → World → Prop) (X : List PanicEntry → World → Prop) (r : Option Addr) (n : Int) (w : World) : Prop :=
  ∃ S_ : World → Prop, S_ w.drew ∧ letW w.drew fun w_2 => ∃ t5p : Addr, r = some t5p ∧ ∃ (t7A : Option Addr) (t7n t7c : Nat), (∀ u : World, S_ u → u.cell? (t5p.add 3) = some (.slice t7A t7n t7c)) ∧ ∃ t10p : Addr, r = some t10p ∧ ∃ t12 : Int, (∀ u_2 : World, S_ u_2 → u_2.cell? (t10p.add 4) = some (.int .i64 t12)) ∧ RunE Try.prog 53 #[(.bool (decide ((IntKind.i64.wrap (((t7n : Nat) : Int) - t12) : Int) ≥ n))), (.int .i64 72)] w_2 (fun v w_3 => v = (.tuple #[]) ∧ R (.tuple #[]) w_3) X

theorem frame_reader_need.eq (R : Value → World → Prop) (X : List PanicEntry → World → Prop) (r : Option Addr) (n : Int) (w : World) : fnVC Try.prog (some X) frame_reader_need.live Try.f54 R [(.pointer r), (.int .i64 n)] w = frame_reader_need.vc R X r n w := by kernel_rfl
theorem frame_reader_need.ok {R : Value → World → Prop} {X : List PanicEntry → World → Prop} {r : Option Addr} {n : Int} {w : World} (h : frame_reader_need.vc R X r n w) : RunE Try.prog 54 #[(.pointer r), (.int .i64 n)] w R X := by
  have h2 := Eq.mpr (frame_reader_need.eq R X r n w) h
  exact fn_soundE Try.mixed Try.func54 (by kernel_rfl) h2

/-! ### (*riddle/frame.reader).address: function 39 -/
noncomputable def frame_reader_address.body : Code := bodyOf Try.f39
def frame_reader_address.live : Nat → List Nat
  | _ => []
def frame_reader_address.J0 (R : Value → World → Prop) (X : List PanicEntry → World → Prop) (r : Option Addr) (t25 : Bool) (w : World) : Prop :=
  ifP t25
    (∃ t27p : Addr, r = some t27p ∧ (∃ u : Value, w.cell? (t27p.add 4) = some u) ∧ w.frozen? (t27p.add 4) = false ∧ letW (w.setCell (t27p.add 4) (.int .i64 2)) fun w_2 => R (.tuple #[]) w_2)
    (∃ t30p : Addr, r = some t30p ∧ ∃ t33 : Bool, w.cell? t30p = some (.bool t33) ∧ ifP (!t33)
    (RunE Try.prog 54 #[(.pointer r), (.int .i64 2)] w (fun v w_3 => v = (.tuple #[]) ∧ RunE Try.prog 53 #[(.bool false), (.int .i64 73)] w_3 (fun v_2 w_4 => v_2 = (.tuple #[]) ∧ R (.tuple #[]) w_4) X) X)
    (R (.tuple #[]) w))

@[reducible] def frame_reader_address.vc (R : Value → World → Prop) (X : List PanicEntry → World → Prop) (r : Option Addr) (w : World) : Prop :=
  ∃ t3p : Addr, r = some t3p ∧ ∃ (t5A : Option Addr) (t5n t5c : Nat), w.cell? (t3p.add 3) = some (.slice t5A t5n t5c) ∧ ifP (decide ((((t5n : Nat) : Int) : Int) ≥ 2)) (∃ t10p : Addr, r = some t10p ∧ ∃ (t12A : Option Addr) (t12n t12c : Nat), w.cell? (t10p.add 3) = some (.slice t12A t12n t12c) ∧ 0 ≤ (0 : Int) ∧ (0 : Int) < ((t12n : Nat) : Int) ∧ ∃ t13p : Addr, t12A = some t13p ∧ ∃ t14 : Int, w.cell? (t13p.add (Int.toNat 0 * 1)) = some (.int .u8 t14) ∧ ifP ((t14 : Int) == 255) (∃ t19p : Addr, r = some t19p ∧ ∃ (t21A : Option Addr) (t21n t21c : Nat), w.cell? (t19p.add 3) = some (.slice t21A t21n t21c) ∧ 0 ≤ (1 : Int) ∧ (1 : Int) < ((t21n : Nat) : Int) ∧ ∃ t22p : Addr, t21A = some t22p ∧ ∃ t23 : Int, w.cell? (t22p.add (Int.toNat 1 * 1)) = some (.int .u8 t23) ∧ frame_reader_address.J0 R X r ((t23 : Int) == 3) w) (frame_reader_address.J0 R X r false w)) (frame_reader_address.J0 R X r false w)

theorem frame_reader_address.eq (R : Value → World → Prop) (X : List PanicEntry → World → Prop) (r : Option Addr) (w : World) : fnVC Try.prog (some X) frame_reader_address.live Try.f39 R [(.pointer r)] w = frame_reader_address.vc R X r w := by kernel_rfl
theorem frame_reader_address.ok {R : Value → World → Prop} {X : List PanicEntry → World → Prop} {r : Option Addr} {w : World} (h : frame_reader_address.vc R X r w) : RunE Try.prog 39 #[(.pointer r)] w R X := by
  have h2 := Eq.mpr (frame_reader_address.eq R X r w) h
  exact fn_soundE Try.mixed Try.func39 (by kernel_rfl) h2

/-! ### (*riddle/frame.reader).number: function 55 -/
noncomputable def frame_reader_number.body : Code := bodyOf Try.f55
def frame_reader_number.live : Nat → List Nat
  | _ => []
@[reducible] def frame_reader_number.vc (R : Value → World → Prop) (r : Option Addr) (off : Int) (size : Int) (w : World) : Prop :=
  ∃ S_ : World → Prop, S_ w.drew ∧ letW w.drew fun w_2 => ∃ t11p : Addr, r = some t11p ∧ ∃ (t13A : Option Addr) (t13n t13c : Nat), (∀ u : World, S_ u → u.cell? (t11p.add 3) = some (.slice t13A t13n t13c)) ∧ ∃ t15p : Addr, r = some t15p ∧ ∃ t17 : Int, (∀ u_2 : World, S_ u_2 → u_2.cell? (t15p.add 4) = some (.int .i64 t17)) ∧ Run Try.prog 52 #[(.slice t13A t13n t13c), (.int .i64 (IntKind.i64.wrap (t17 + off))), (.int .i64 size)] w_2 fun v w_3 => ∃ t210 : Int, ∃ t211 : Bool, v = (.tuple #[(.int .u32 t210), (.bool t211)]) ∧ R (.int .u32 t210) w_3

theorem frame_reader_number.eq (R : Value → World → Prop) (r : Option Addr) (off : Int) (size : Int) (w : World) : fnVC Try.prog none frame_reader_number.live Try.f55 R [(.pointer r), (.int .i64 off), (.int .i64 size)] w = frame_reader_number.vc R r off size w := by kernel_rfl
theorem frame_reader_number.ok {R : Value → World → Prop} {r : Option Addr} {off : Int} {size : Int} {w : World} (h : frame_reader_number.vc R r off size w) : Run Try.prog 55 #[(.pointer r), (.int .i64 off), (.int .i64 size)] w R := by
  have h2 := Eq.mpr (frame_reader_number.eq R r off size w) h
  exact fn_sound Try.mixed Try.func55 (by kernel_rfl) h2

/-! ### (*riddle/frame.reader).protocol: function 40 -/
noncomputable def frame_reader_protocol.body : Code := bodyOf Try.f40
def frame_reader_protocol.live : Nat → List Nat
  | _ => []
@[reducible] def frame_reader_protocol.vc (R : Value → World → Prop) (X : List PanicEntry → World → Prop) (r : Option Addr) (w : World) : Prop :=
  RunE Try.prog 54 #[(.pointer r), (.int .i64 1)] w (fun v w_2 => v = (.tuple #[]) ∧ letW w_2.drew fun w_3 => ∃ t5p : Addr, r = some t5p ∧ ∃ (t7A : Option Addr) (t7n t7c : Nat), w_3.cell? (t5p.add 3) = some (.slice t7A t7n t7c) ∧ ∃ t9p : Addr, r = some t9p ∧ ∃ t11 : Int, w_3.cell? (t9p.add 4) = some (.int .i64 t11) ∧ 0 ≤ (t11 : Int) ∧ (t11 : Int) < ((t7n : Nat) : Int) ∧ ∃ t12p : Addr, t7A = some t12p ∧ ∃ t13 : Int, w_3.cell? (t12p.add (Int.toNat t11 * 1)) = some (.int .u8 t13) ∧ ifP ((andI .u8 t13 1 : Int) == 1)
    (∃ t17p : Addr, r = some t17p ∧ ∃ t20 : Bool, w_3.cell? (t17p.add 1) = some (.bool t20) ∧ RunE Try.prog 53 #[(.bool t20), (.int .i64 74)] w_3 (fun v_2 w_4 => v_2 = (.tuple #[]) ∧ RunE Try.prog 55 #[(.pointer r), (.int .i64 0), (.int .i64 1)] w_4 (fun v_3 w_5 => ∃ t24 : Int, v_3 = (.int .u32 t24) ∧ ∃ t25p : Addr, r = some t25p ∧ (∃ u : Value, w_5.cell? (t25p.add 5) = some u) ∧ w_5.frozen? (t25p.add 5) = false ∧ letW (w_5.setCell (t25p.add 5) (.int .u32 t24)) fun w_6 => ∃ t29p : Addr, r = some t29p ∧ ∃ t31 : Int, w_6.cell? (t29p.add 4) = some (.int .i64 t31) ∧ ∃ t33p : Addr, r = some t33p ∧ (∃ u : Value, w_6.cell? (t33p.add 4) = some u) ∧ w_6.frozen? (t33p.add 4) = false ∧ letW (w_6.setCell (t33p.add 4) (.int .i64 (IntKind.i64.wrap (t31 + 1)))) fun w_7 => R (.tuple #[]) w_7) X) X)
    (RunE Try.prog 54 #[(.pointer r), (.int .i64 2)] w_3 (fun v_4 w_8 => v_4 = (.tuple #[]) ∧ ∃ S_ : World → Prop, S_ w_8.drew ∧ letW w_8.drew fun w_9 => ∃ t38p : Addr, r = some t38p ∧ ∃ (t40A : Option Addr) (t40n t40c : Nat), (∀ u : World, S_ u → u.cell? (t38p.add 3) = some (.slice t40A t40n t40c)) ∧ ∃ t42p : Addr, r = some t42p ∧ ∃ t44 : Int, (∀ u_2 : World, S_ u_2 → u_2.cell? (t42p.add 4) = some (.int .i64 t44)) ∧ 0 ≤ (IntKind.i64.wrap (t44 + 1) : Int) ∧ (IntKind.i64.wrap (t44 + 1) : Int) < ((t40n : Nat) : Int) ∧ ∃ t46p : Addr, t40A = some t46p ∧ ∃ t47 : Int, (∀ u_3 : World, S_ u_3 → u_3.cell? (t46p.add (Int.toNat (IntKind.i64.wrap (t44 + 1)) * 1)) = some (.int .u8 t47)) ∧ RunE Try.prog 53 #[(.bool ((andI .u8 t47 1 : Int) == 1)), (.int .i64 74)] w_9 (fun v_5 w_10 => v_5 = (.tuple #[]) ∧ RunE Try.prog 55 #[(.pointer r), (.int .i64 0), (.int .i64 2)] w_10 (fun v_6 w_11 => ∃ t53 : Int, v_6 = (.int .u32 t53) ∧ ∃ t54p : Addr, r = some t54p ∧ (∃ u : Value, w_11.cell? (t54p.add 5) = some u) ∧ w_11.frozen? (t54p.add 5) = false ∧ letW (w_11.setCell (t54p.add 5) (.int .u32 t53)) fun w_12 => ∃ t58p : Addr, r = some t58p ∧ ∃ t60 : Int, w_12.cell? (t58p.add 4) = some (.int .i64 t60) ∧ ∃ t62p : Addr, r = some t62p ∧ (∃ u : Value, w_12.cell? (t62p.add 4) = some u) ∧ w_12.frozen? (t62p.add 4) = false ∧ letW (w_12.setCell (t62p.add 4) (.int .i64 (IntKind.i64.wrap (t60 + 2)))) fun w_13 => R (.tuple #[]) w_13) X) X) X)) X

theorem frame_reader_protocol.eq (R : Value → World → Prop) (X : List PanicEntry → World → Prop) (r : Option Addr) (w : World) : fnVC Try.prog (some X) frame_reader_protocol.live Try.f40 R [(.pointer r)] w = frame_reader_protocol.vc R X r w := by kernel_rfl
theorem frame_reader_protocol.ok {R : Value → World → Prop} {X : List PanicEntry → World → Prop} {r : Option Addr} {w : World} (h : frame_reader_protocol.vc R X r w) : RunE Try.prog 40 #[(.pointer r)] w R X := by
  have h2 := Eq.mpr (frame_reader_protocol.eq R X r w) h
  exact fn_soundE Try.mixed Try.func40 (by kernel_rfl) h2

/-! ### (*riddle/frame.reader).multi: function 41 -/
noncomputable def frame_reader_multi.body : Code := bodyOf Try.f41
def frame_reader_multi.live : Nat → List Nat
  | _ => []
def frame_reader_multi.J1 (R : Value → World → Prop) (X : List PanicEntry → World → Prop) (r : Option Addr) (size : Int) (seq : Int) (w : World) : Prop :=
  RunE Try.prog 54 #[(.pointer r), (.int .i64 size)] w (fun v w_2 => v = (.tuple #[]) ∧ RunE Try.prog 55 #[(.pointer r), (.int .i64 0), (.int .i64 size)] w_2 (fun v_2 w_3 => ∃ t31 : Int, v_2 = (.int .u32 t31) ∧ 0 ≤ (IntKind.i64.wrap ((IntKind.i64.wrap (8 * size)) - 1)) ∧ RunE Try.prog 53 #[(.bool ((andNotI .u32 t31 (orI .u32 (orI .u32 (IntKind.u32.wrap (1 * 2 ^ (min (Int.toNat (IntKind.i64.wrap ((IntKind.i64.wrap (8 * size)) - 1))) (IntKind.bits .u32)))) (Int.fdiv (IntKind.u32.wrap (1 * 2 ^ (min (Int.toNat (IntKind.i64.wrap ((IntKind.i64.wrap (8 * size)) - 1))) (IntKind.bits .u32)))) (2 ^ 1))) seq) : Int) == 0)), (.int .i64 75)] w_3 (fun v_3 w_4 => v_3 = (.tuple #[]) ∧ ∃ t62p : Addr, r = some t62p ∧ (∃ u : Value, w_4.cell? ((t62p.add 5).add 1) = some u) ∧ w_4.frozen? ((t62p.add 5).add 1) = false ∧ letW (w_4.setCell ((t62p.add 5).add 1) (.bool true)) fun w_5 => ∃ t65p : Addr, r = some t65p ∧ (∃ u : Value, w_5.cell? ((t65p.add 5).add 2) = some u) ∧ w_5.frozen? ((t65p.add 5).add 2) = false ∧ letW (w_5.setCell ((t65p.add 5).add 2) (.bool ((andI .u32 t31 (IntKind.u32.wrap (1 * 2 ^ (min (Int.toNat (IntKind.i64.wrap ((IntKind.i64.wrap (8 * size)) - 1))) (IntKind.bits .u32)))) : Int) != 0))) fun w_6 => ∃ t68p : Addr, r = some t68p ∧ (∃ u : Value, w_6.cell? ((t68p.add 5).add 3) = some u) ∧ w_6.frozen? ((t68p.add 5).add 3) = false ∧ letW (w_6.setCell ((t68p.add 5).add 3) (.bool ((andI .u32 t31 (Int.fdiv (IntKind.u32.wrap (1 * 2 ^ (min (Int.toNat (IntKind.i64.wrap ((IntKind.i64.wrap (8 * size)) - 1))) (IntKind.bits .u32)))) (2 ^ 1)) : Int) != 0))) fun w_7 => ∃ t71p : Addr, r = some t71p ∧ (∃ u : Value, w_7.cell? ((t71p.add 5).add 4) = some u) ∧ w_7.frozen? ((t71p.add 5).add 4) = false ∧ letW (w_7.setCell ((t71p.add 5).add 4) (.int .u32 (andI .u32 t31 seq))) fun w_8 => ∃ t75p : Addr, r = some t75p ∧ ∃ t77 : Int, w_8.cell? (t75p.add 4) = some (.int .i64 t77) ∧ ∃ t80p : Addr, r = some t80p ∧ (∃ u : Value, w_8.cell? (t80p.add 4) = some u) ∧ w_8.frozen? (t80p.add 4) = false ∧ letW (w_8.setCell (t80p.add 4) (.int .i64 (IntKind.i64.wrap (t77 + size)))) fun w_9 => ∃ t83p : Addr, r = some t83p ∧ ∃ t86 : Bool, w_9.cell? ((t83p.add 5).add 2) = some (.bool t86) ∧ ifP t86
    (RunE Try.prog 40 #[(.pointer r)] w_9 (fun v_4 w_10 => v_4 = (.tuple #[]) ∧ R (.tuple #[]) w_10) X)
    (R (.tuple #[]) w_9)) X) X) X

def frame_reader_multi.J0 (R : Value → World → Prop) (X : List PanicEntry → World → Prop) (r : Option Addr) (t19 : Bool) (w : World) : Prop :=
  ifP t19
    (R (.tuple #[]) w)
    (∃ t21p : Addr, r = some t21p ∧ ∃ t24 : Int, w.cell? (t21p.add 2) = some (.int .i64 t24) ∧ ifP ((t24 : Int) == 2)
    (frame_reader_multi.J1 R X r 4 16777215 w)
    (frame_reader_multi.J1 R X r 2 4095 w))

@[reducible] def frame_reader_multi.vc (R : Value → World → Prop) (X : List PanicEntry → World → Prop) (r : Option Addr) (w : World) : Prop :=
  ∃ t7p : Addr, r = some t7p ∧ ∃ t10 : Int, w.cell? (t7p.add 2) = some (.int .i64 t10) ∧ ifP ((t10 : Int) == 0) (frame_reader_multi.J0 R X r true w) (∃ t14p : Addr, r = some t14p ∧ ∃ t17 : Int, w.cell? (t14p.add 5) = some (.int .u32 t17) ∧ frame_reader_multi.J0 R X r ((t17 : Int) != 61) w)

theorem frame_reader_multi.eq (R : Value → World → Prop) (X : List PanicEntry → World → Prop) (r : Option Addr) (w : World) : fnVC Try.prog (some X) frame_reader_multi.live Try.f41 R [(.pointer r)] w = frame_reader_multi.vc R X r w := by kernel_rfl
theorem frame_reader_multi.ok {R : Value → World → Prop} {X : List PanicEntry → World → Prop} {r : Option Addr} {w : World} (h : frame_reader_multi.vc R X r w) : RunE Try.prog 41 #[(.pointer r)] w R X := by
  have h2 := Eq.mpr (frame_reader_multi.eq R X r w) h
  exact fn_soundE Try.mixed Try.func41 (by kernel_rfl) h2

/-! ### (*riddle/frame.reader).ip: function 56 -/
noncomputable def frame_reader_ip.body : Code := bodyOf Try.f56
def frame_reader_ip.live : Nat → List Nat
  | _ => []
def frame_reader_ip.J1 (R : Value → World → Prop) (X : List PanicEntry → World → Prop) (r : Option Addr) (head : Int) (w : World) : Prop :=
  RunE Try.prog 55 #[(.pointer r), (.int .i64 6), (.int .i64 2)] w (fun v w_2 => ∃ t59 : Int, v = (.int .u32 t59) ∧ ifP ((andI .u32 t59 8191 : Int) == 0)
    (∃ t64p : Addr, r = some t64p ∧ ∃ t66 : Int, w_2.cell? (t64p.add 4) = some (.int .i64 t66) ∧ ∃ t69p : Addr, r = some t69p ∧ (∃ u : Value, w_2.cell? ((t69p.add 5).add 8) = some u) ∧ w_2.frozen? ((t69p.add 5).add 8) = false ∧ letW (w_2.setCell ((t69p.add 5).add 8) (.int .i64 (IntKind.i64.wrap (t66 + head)))) fun w_3 => R (.tuple #[]) w_3)
    (R (.tuple #[]) w_2)) X

def frame_reader_ip.J0 (R : Value → World → Prop) (X : List PanicEntry → World → Prop) (r : Option Addr) (head : Int) (w : World) : Prop :=
  RunE Try.prog 54 #[(.pointer r), (.int .i64 head)] w (fun v w_2 => v = (.tuple #[]) ∧ ∃ S_ : World → Prop, S_ w_2.drew ∧ letW w_2.drew fun w_3 => ∃ t41p : Addr, r = some t41p ∧ ∃ (t43A : Option Addr) (t43n t43c : Nat), (∀ u : World, S_ u → u.cell? (t41p.add 3) = some (.slice t43A t43n t43c)) ∧ ∃ t45p : Addr, r = some t45p ∧ ∃ t47 : Int, (∀ u_2 : World, S_ u_2 → u_2.cell? (t45p.add 4) = some (.int .i64 t47)) ∧ 0 ≤ (IntKind.i64.wrap (t47 + 9) : Int) ∧ (IntKind.i64.wrap (t47 + 9) : Int) < ((t43n : Nat) : Int) ∧ ∃ t49p : Addr, t43A = some t49p ∧ ∃ t50 : Int, (∀ u_3 : World, S_ u_3 → u_3.cell? (t49p.add (Int.toNat (IntKind.i64.wrap (t47 + 9)) * 1)) = some (.int .u8 t50)) ∧ ∃ t52p : Addr, r = some t52p ∧ (∃ u : Value, w_3.cell? ((t52p.add 5).add 6) = some u) ∧ w_3.frozen? ((t52p.add 5).add 6) = false ∧ letW (w_3.setCell ((t52p.add 5).add 6) (.int .i64 4)) fun w_4 => ∃ t55p : Addr, r = some t55p ∧ (∃ u : Value, w_4.cell? ((t55p.add 5).add 7) = some u) ∧ w_4.frozen? ((t55p.add 5).add 7) = false ∧ letW (w_4.setCell ((t55p.add 5).add 7) (.int .i64 (IntKind.i64.wrap t50))) fun w_5 => frame_reader_ip.J1 R X r head w_5) X

@[reducible] def frame_reader_ip.vc (R : Value → World → Prop) (X : List PanicEntry → World → Prop) (r : Option Addr) (w : World) : Prop :=
  RunE Try.prog 54 #[(.pointer r), (.int .i64 20)] w (fun v w_2 => v = (.tuple #[]) ∧ letW w_2.drew fun w_3 => ∃ t6p : Addr, r = some t6p ∧ ∃ (t8A : Option Addr) (t8n t8c : Nat), w_3.cell? (t6p.add 3) = some (.slice t8A t8n t8c) ∧ ∃ t10p : Addr, r = some t10p ∧ ∃ t12 : Int, w_3.cell? (t10p.add 4) = some (.int .i64 t12) ∧ 0 ≤ (t12 : Int) ∧ (t12 : Int) < ((t8n : Nat) : Int) ∧ ∃ t13p : Addr, t8A = some t13p ∧ ∃ t14 : Int, w_3.cell? (t13p.add (Int.toNat t12 * 1)) = some (.int .u8 t14) ∧ ∃ S_ : World → Prop, S_ w_3.drew ∧ letW w_3.drew fun w_4 => ∃ t19p : Addr, r = some t19p ∧ ∃ (t21A : Option Addr) (t21n t21c : Nat), (∀ u : World, S_ u → u.cell? (t19p.add 3) = some (.slice t21A t21n t21c)) ∧ ∃ t23p : Addr, r = some t23p ∧ ∃ t25 : Int, (∀ u_2 : World, S_ u_2 → u_2.cell? (t23p.add 4) = some (.int .i64 t25)) ∧ 0 ≤ (t25 : Int) ∧ (t25 : Int) < ((t21n : Nat) : Int) ∧ ∃ t26p : Addr, t21A = some t26p ∧ ∃ t27 : Int, (∀ u_3 : World, S_ u_3 → u_3.cell? (t26p.add (Int.toNat t25 * 1)) = some (.int .u8 t27)) ∧ ifP ((Int.fdiv t27 (2 ^ 4) : Int) == 4) (RunE Try.prog 53 #[(.bool (decide ((IntKind.i64.wrap (4 * (IntKind.i64.wrap (andI .u8 t14 15))) : Int) ≥ 20))), (.int .i64 76)] w_4 (fun v_2 w_5 => v_2 = (.tuple #[]) ∧ frame_reader_ip.J0 R X r (IntKind.i64.wrap (4 * (IntKind.i64.wrap (andI .u8 t14 15)))) w_5) X) (RunE Try.prog 53 #[(.bool false), (.int .i64 76)] w_4 (fun v_3 w_6 => v_3 = (.tuple #[]) ∧ frame_reader_ip.J0 R X r (IntKind.i64.wrap (4 * (IntKind.i64.wrap (andI .u8 t14 15)))) w_6) X)) X

theorem frame_reader_ip.eq (R : Value → World → Prop) (X : List PanicEntry → World → Prop) (r : Option Addr) (w : World) : fnVC Try.prog (some X) frame_reader_ip.live Try.f56 R [(.pointer r)] w = frame_reader_ip.vc R X r w := by kernel_rfl
theorem frame_reader_ip.ok {R : Value → World → Prop} {X : List PanicEntry → World → Prop} {r : Option Addr} {w : World} (h : frame_reader_ip.vc R X r w) : RunE Try.prog 56 #[(.pointer r)] w R X := by
  have h2 := Eq.mpr (frame_reader_ip.eq R X r w) h
  exact fn_soundE Try.mixed Try.func56 (by kernel_rfl) h2

/-! ### (*riddle/frame.reader).net: function 42 -/
noncomputable def frame_reader_net.body : Code := bodyOf Try.f42
def frame_reader_net.live : Nat → List Nat
  | _ => []
def frame_reader_net.J1 (R : Value → World → Prop) (X : List PanicEntry → World → Prop) (w : World) : Prop :=
  R (.tuple #[]) w

def frame_reader_net.J0 (R : Value → World → Prop) (X : List PanicEntry → World → Prop) (r : Option Addr) (t22 : Bool) (w : World) : Prop :=
  ifP t22
    (R (.tuple #[]) w)
    (∃ t24p : Addr, r = some t24p ∧ ∃ t27 : Int, w.cell? (t24p.add 5) = some (.int .u32 t27) ∧ ifP ((t27 : Int) == 33)
    (RunE Try.prog 56 #[(.pointer r)] w (fun v w_2 => v = (.tuple #[]) ∧ R (.tuple #[]) w_2) X)
    (ifP ((t27 : Int) == 87)
    (RunE Try.prog 54 #[(.pointer r), (.int .i64 40)] w (fun v_2 w_3 => v_2 = (.tuple #[]) ∧ ∃ S_ : World → Prop, S_ w_3.drew ∧ letW w_3.drew fun w_4 => ∃ t37p : Addr, r = some t37p ∧ ∃ (t39A : Option Addr) (t39n t39c : Nat), (∀ u : World, S_ u → u.cell? (t37p.add 3) = some (.slice t39A t39n t39c)) ∧ ∃ t41p : Addr, r = some t41p ∧ ∃ t43 : Int, (∀ u_2 : World, S_ u_2 → u_2.cell? (t41p.add 4) = some (.int .i64 t43)) ∧ 0 ≤ (t43 : Int) ∧ (t43 : Int) < ((t39n : Nat) : Int) ∧ ∃ t44p : Addr, t39A = some t44p ∧ ∃ t45 : Int, (∀ u_3 : World, S_ u_3 → u_3.cell? (t44p.add (Int.toNat t43 * 1)) = some (.int .u8 t45)) ∧ RunE Try.prog 53 #[(.bool ((Int.fdiv t45 (2 ^ 4) : Int) == 6)), (.int .i64 76)] w_4 (fun v_3 w_5 => v_3 = (.tuple #[]) ∧ ∃ S__2 : World → Prop, S__2 w_5.drew ∧ letW w_5.drew fun w_6 => ∃ t53p : Addr, r = some t53p ∧ ∃ (t55A : Option Addr) (t55n t55c : Nat), (∀ u_4 : World, S__2 u_4 → u_4.cell? (t53p.add 3) = some (.slice t55A t55n t55c)) ∧ ∃ t57p : Addr, r = some t57p ∧ ∃ t59 : Int, (∀ u_5 : World, S__2 u_5 → u_5.cell? (t57p.add 4) = some (.int .i64 t59)) ∧ 0 ≤ (IntKind.i64.wrap (t59 + 6) : Int) ∧ (IntKind.i64.wrap (t59 + 6) : Int) < ((t55n : Nat) : Int) ∧ ∃ t61p : Addr, t55A = some t61p ∧ ∃ t62 : Int, (∀ u_6 : World, S__2 u_6 → u_6.cell? (t61p.add (Int.toNat (IntKind.i64.wrap (t59 + 6)) * 1)) = some (.int .u8 t62)) ∧ ∃ t65p : Addr, r = some t65p ∧ ∃ t67 : Int, (∀ u_7 : World, S__2 u_7 → u_7.cell? (t65p.add 4) = some (.int .i64 t67)) ∧ ∃ t69p : Addr, r = some t69p ∧ (∃ u : Value, w_6.cell? ((t69p.add 5).add 6) = some u) ∧ w_6.frozen? ((t69p.add 5).add 6) = false ∧ letW (w_6.setCell ((t69p.add 5).add 6) (.int .i64 6)) fun w_7 => ∃ t72p : Addr, r = some t72p ∧ (∃ u : Value, w_7.cell? ((t72p.add 5).add 7) = some u) ∧ w_7.frozen? ((t72p.add 5).add 7) = false ∧ letW (w_7.setCell ((t72p.add 5).add 7) (.int .i64 (IntKind.i64.wrap t62))) fun w_8 => ∃ t75p : Addr, r = some t75p ∧ (∃ u : Value, w_8.cell? ((t75p.add 5).add 8) = some u) ∧ w_8.frozen? ((t75p.add 5).add 8) = false ∧ letW (w_8.setCell ((t75p.add 5).add 8) (.int .i64 (IntKind.i64.wrap (t67 + 40)))) fun w_9 => frame_reader_net.J1 R X w_9) X) X)
    (R (.tuple #[]) w)))

@[reducible] def frame_reader_net.vc (R : Value → World → Prop) (X : List PanicEntry → World → Prop) (r : Option Addr) (w : World) : Prop :=
  ∃ t4p : Addr, r = some t4p ∧ ∃ t6 : Int, w.cell? (t4p.add 4) = some (.int .i64 t6) ∧ ∃ t7p : Addr, r = some t7p ∧ (∃ u : Value, w.cell? ((t7p.add 5).add 5) = some u) ∧ w.frozen? ((t7p.add 5).add 5) = false ∧ letW (w.setCell ((t7p.add 5).add 5) (.int .i64 t6)) fun w_2 => ∃ t11p : Addr, r = some t11p ∧ ∃ t14 : Bool, w_2.cell? ((t11p.add 5).add 1) = some (.bool t14) ∧ ifP t14 (∃ t17p : Addr, r = some t17p ∧ ∃ t20 : Bool, w_2.cell? ((t17p.add 5).add 2) = some (.bool t20) ∧ frame_reader_net.J0 R X r (!t20) w_2) (frame_reader_net.J0 R X r false w_2)

theorem frame_reader_net.eq (R : Value → World → Prop) (X : List PanicEntry → World → Prop) (r : Option Addr) (w : World) : fnVC Try.prog (some X) frame_reader_net.live Try.f42 R [(.pointer r)] w = frame_reader_net.vc R X r w := by kernel_rfl
theorem frame_reader_net.ok {R : Value → World → Prop} {X : List PanicEntry → World → Prop} {r : Option Addr} {w : World} (h : frame_reader_net.vc R X r w) : RunE Try.prog 42 #[(.pointer r)] w R X := by
  have h2 := Eq.mpr (frame_reader_net.eq R X r w) h
  exact fn_soundE Try.mixed Try.func42 (by kernel_rfl) h2

/-! ### riddle/riddlelaw9.BundlePieces: function 9 -/
noncomputable def law9_BundlePieces.body : Code := bodyOf Try.f9
def law9_BundlePieces.live : Nat → List Nat
  | 0 => [2, 7, 10, 12]
  | _ => []
noncomputable def law9_BundlePieces.c0 : Code := sub law9_BundlePieces.body [1, 1, 1, 1, 1, 1, 1, 0, 1, 0, 0]
def law9_BundlePieces.K0 (R : Value → World → Prop) : Ex → St → World → Prop := (blockK 0 (thenK (fun st w => code Try.prog none law9_BundlePieces.live 0 (sub law9_BundlePieces.body [1, 1, 1, 1, 1, 1, 1, 1]) (retK Try.prog Try.f9 R) st w) (retK Try.prog Try.f9 R)))
def law9_BundlePieces.L0 (R : Value → World → Prop) (first : Int) (k : Addr) (pA : Option Addr) (pn : Nat) (pc : Nat) (i : Int) (w : World) : Prop :=
  loopVC (fun K => code Try.prog none law9_BundlePieces.live 0 law9_BundlePieces.c0 K) (law9_BundlePieces.live 0) (law9_BundlePieces.K0 R) [undef, undef, (.int .u32 first), undef, undef, undef, undef, (.pointer (some k)), undef, undef, (.slice pA pn pc), undef, (.int .i64 i), undef, undef, undef, undef, undef, undef, undef, undef, undef, undef, undef, undef, undef, undef, undef, undef, undef, undef, undef, undef, undef, undef, undef, undef, undef, undef, undef, undef, undef, undef, undef, undef, undef, undef, undef, undef, undef, undef, undef, undef, undef, undef, undef, undef, undef, undef, undef, undef, undef, undef, undef, undef, undef, undef, undef, undef, undef, undef, undef, undef, undef, undef, undef, undef, undef, undef, undef, undef, undef, undef, undef, undef, undef, undef, undef, undef, undef, undef, undef, undef, undef, undef, undef, undef, undef, undef, undef, undef, undef, undef, undef, undef, undef, undef, undef, undef] w
def law9_BundlePieces.J4 (R : Value → World → Prop) (first : Int) (k : Addr) (pA : Option Addr) (pn : Nat) (pc : Nat) (i : Int) (t102 : Bool) (w : World) : Prop :=
  ifP t102
    (R (.bool false) w)
    (law9_BundlePieces.L0 R first k pA pn pc (IntKind.i64.wrap (i + 1)) w)

def law9_BundlePieces.J3 (R : Value → World → Prop) (first : Int) (k : Addr) (pA : Option Addr) (pn : Nat) (pc : Nat) (i : Int) (v : Addr) (f : Int) (proto : Int) (w : World) : Prop :=
  ifP ((f : Int) != 0) (law9_BundlePieces.J4 R first k pA pn pc i true w) (∃ t66 : Bool, w.cell? (v.add 1) = some (.bool t66) ∧ ifP (!t66) (law9_BundlePieces.J4 R first k pA pn pc i true w) (∃ t71 : Bool, w.cell? (v.add 2) = some (.bool t71) ∧ ifP (!(t71 == ((i : Int) == 0))) (law9_BundlePieces.J4 R first k pA pn pc i true w) (∃ t78 : Bool, w.cell? (v.add 3) = some (.bool t78) ∧ ifP (!(t78 == ((i : Int) == (IntKind.i64.wrap (((pn : Nat) : Int) - 1))))) (law9_BundlePieces.J4 R first k pA pn pc i true w) (∃ t88 : Int, w.cell? (v.add 4) = some (.int .u32 t88) ∧ ifP ((t88 : Int) != (Int.tmod (IntKind.u32.wrap ((Int.tmod first 16777216) + (IntKind.u32.wrap i))) 16777216)) (law9_BundlePieces.J4 R first k pA pn pc i true w) (∃ t99 : Int, w.cell? v = some (.int .u32 t99) ∧ law9_BundlePieces.J4 R first k pA pn pc i ((t99 : Int) != proto) w)))))

def law9_BundlePieces.J2 (R : Value → World → Prop) (first : Int) (k : Addr) (pA : Option Addr) (pn : Nat) (pc : Nat) (i : Int) (v : Addr) (f : Int) (w : World) : Prop :=
  ifP ((i : Int) == 0)
    (law9_BundlePieces.J3 R first k pA pn pc i v f 49185 w)
    (law9_BundlePieces.J3 R first k pA pn pc i v f 61 w)

def law9_BundlePieces.J5 (R : Value → World → Prop) (t6 : Bool) (w : World) : Prop :=
  R (.bool t6) w

@[reducible] def law9_BundlePieces.B0 (R : Value → World → Prop) (first : Int) (k : Addr) (pA : Option Addr) (pn : Nat) (pc : Nat) (i : Int) (w : World) : Prop :=
  ifP (decide ((i : Int) < ((pn : Nat) : Int)))
    (∃ S_ : World → Prop, S_ w.drew ∧ letW w.drew fun w_2 => ∃ t51_0 : Bool, (∀ u : World, S_ u → u.cell? k = some (.bool t51_0)) ∧ ∃ t51_1 : Bool, (∀ u_2 : World, S_ u_2 → u_2.cell? (k.add 1) = some (.bool t51_1)) ∧ ∃ t51_2 : Int, (∀ u_3 : World, S_ u_3 → u_3.cell? (k.add 2) = some (.int .i64 t51_2)) ∧ 0 ≤ (i : Int) ∧ (i : Int) < ((pn : Nat) : Int) ∧ ∃ t54p : Addr, pA = some t54p ∧ ∃ (t55A : Option Addr) (t55n t55c : Nat), (∀ u_4 : World, S_ u_4 → u_4.cell? (t54p.add (Int.toNat i * 1)) = some (.slice t55A t55n t55c)) ∧ (Run Try.prog 14 #[(.slice t55A t55n t55c)] w_2 fun v w_3 => ∃ (t56A : Option Addr) (t56n t56c : Nat), v = (.slice t56A t56n t56c) ∧ S_ w_3 ∧ (Run Try.prog 25 #[(.agg #[(.bool t51_0), (.bool t51_1), (.int .i64 t51_2)]), (.slice t56A t56n t56c)] w_3 fun v_2 w_4 => ∃ t570_0 : Int, ∃ t570_1 : Bool, ∃ t570_2 : Bool, ∃ t570_3 : Bool, ∃ t570_4 : Int, ∃ t570_5 : Int, ∃ t570_6 : Int, ∃ t570_7 : Int, ∃ t570_8 : Int, ∃ t571 : Int, v_2 = (.tuple #[(.agg #[(.int .u32 t570_0), (.bool t570_1), (.bool t570_2), (.bool t570_3), (.int .u32 t570_4), (.int .i64 t570_5), (.int .i64 t570_6), (.int .i64 t570_7), (.int .i64 t570_8)]), (.int .i64 t571)]) ∧ letW (w_4.alloc (.cells #[(.int .u32 0), (.bool false), (.bool false), (.bool false), (.int .u32 0), (.int .i64 0), (.int .i64 0), (.int .i64 0), (.int .i64 0)] 54)) fun w_5 => storeRow (newA w_4) 0 [(.int .u32 t570_0), (.bool t570_1), (.bool t570_2), (.bool t570_3), (.int .u32 t570_4), (.int .i64 t570_5), (.int .i64 t570_6), (.int .i64 t570_7), (.int .i64 t570_8)] w_5 fun w_6 => law9_BundlePieces.J2 R first k pA pn pc i (newA w_4) t571 w_6) ∧ (letW (w_3.alloc (.cells #[(.int .u32 0), (.bool false), (.bool false), (.bool false), (.int .u32 0), (.int .i64 0), (.int .i64 0), (.int .i64 0), (.int .i64 0)] 54)) fun w_7 => S_ w_7 ∧ Run Try.prog 25 #[(.agg #[(.bool t51_0), (.bool t51_1), (.int .i64 t51_2)]), (.slice t56A t56n t56c)] w_7 fun v_3 w_8 => ∃ t570_0_2 : Int, ∃ t570_1_2 : Bool, ∃ t570_2_2 : Bool, ∃ t570_3_2 : Bool, ∃ t570_4_2 : Int, ∃ t570_5_2 : Int, ∃ t570_6_2 : Int, ∃ t570_7_2 : Int, ∃ t570_8_2 : Int, ∃ t571_2 : Int, v_3 = (.tuple #[(.agg #[(.int .u32 t570_0_2), (.bool t570_1_2), (.bool t570_2_2), (.bool t570_3_2), (.int .u32 t570_4_2), (.int .i64 t570_5_2), (.int .i64 t570_6_2), (.int .i64 t570_7_2), (.int .i64 t570_8_2)]), (.int .i64 t571_2)]) ∧ storeRow (newA w_3) 0 [(.int .u32 t570_0_2), (.bool t570_1_2), (.bool t570_2_2), (.bool t570_3_2), (.int .u32 t570_4_2), (.int .i64 t570_5_2), (.int .i64 t570_6_2), (.int .i64 t570_7_2), (.int .i64 t570_8_2)] w_8 fun w_9 => law9_BundlePieces.J2 R first k pA pn pc i (newA w_3) t571_2 w_9)) ∧ (letW (w_2.alloc (.cells #[(.int .u32 0), (.bool false), (.bool false), (.bool false), (.int .u32 0), (.int .i64 0), (.int .i64 0), (.int .i64 0), (.int .i64 0)] 54)) fun w_10 => S_ w_10 ∧ Run Try.prog 14 #[(.slice t55A t55n t55c)] w_10 fun v_4 w_11 => ∃ (t56A_2 : Option Addr) (t56n_2 t56c_2 : Nat), v_4 = (.slice t56A_2 t56n_2 t56c_2) ∧ S_ w_11 ∧ Run Try.prog 25 #[(.agg #[(.bool t51_0), (.bool t51_1), (.int .i64 t51_2)]), (.slice t56A_2 t56n_2 t56c_2)] w_11 fun v_5 w_12 => ∃ t570_0_3 : Int, ∃ t570_1_3 : Bool, ∃ t570_2_3 : Bool, ∃ t570_3_3 : Bool, ∃ t570_4_3 : Int, ∃ t570_5_3 : Int, ∃ t570_6_3 : Int, ∃ t570_7_3 : Int, ∃ t570_8_3 : Int, ∃ t571_3 : Int, v_5 = (.tuple #[(.agg #[(.int .u32 t570_0_3), (.bool t570_1_3), (.bool t570_2_3), (.bool t570_3_3), (.int .u32 t570_4_3), (.int .i64 t570_5_3), (.int .i64 t570_6_3), (.int .i64 t570_7_3), (.int .i64 t570_8_3)]), (.int .i64 t571_3)]) ∧ storeRow (newA w_2) 0 [(.int .u32 t570_0_3), (.bool t570_1_3), (.bool t570_2_3), (.bool t570_3_3), (.int .u32 t570_4_3), (.int .i64 t570_5_3), (.int .i64 t570_6_3), (.int .i64 t570_7_3), (.int .i64 t570_8_3)] w_12 fun w_13 => law9_BundlePieces.J2 R first k pA pn pc i (newA w_2) t571_3 w_13))
    (ifP (decide ((((pn : Nat) : Int) : Int) > 0)) (Run Try.prog 18 #[] w fun v_6 w_14 => ∃ t107 : Bool, v_6 = (.bool t107) ∧ law9_BundlePieces.J5 R t107 w_14) (law9_BundlePieces.J5 R false w))

def law9_BundlePieces.J1 (R : Value → World → Prop) (first : Int) (k : Addr) (pA : Option Addr) (pn : Nat) (pc : Nat) (e : Int) (w : World) : Prop :=
  ifP ((e : Int) != 0)
    (R (.bool false) w)
    (law9_BundlePieces.L0 R first k pA pn pc 0 w)

def law9_BundlePieces.J0 (R : Value → World → Prop) (first : Int) (k : Addr) (size : Int) (loadA : Option Addr) (loadn : Nat) (loadc : Nat) (t30 : Bool) (w : World) : Prop :=
  ifP t30
    (Run Try.prog 18 #[] w fun v w_2 => ∃ t31 : Bool, v = (.bool t31) ∧ R (.bool t31) w_2)
    (∃ S_ : World → Prop, S_ w.drew ∧ letW w.drew fun w_3 => ∃ t33_0 : Bool, (∀ u : World, S_ u → u.cell? k = some (.bool t33_0)) ∧ ∃ t33_1 : Bool, (∀ u_2 : World, S_ u_2 → u_2.cell? (k.add 1) = some (.bool t33_1)) ∧ ∃ t33_2 : Int, (∀ u_3 : World, S_ u_3 → u_3.cell? (k.add 2) = some (.int .i64 t33_2)) ∧ Run Try.prog 14 #[(.slice loadA loadn loadc)] w_3 fun v_2 w_4 => ∃ (t35A : Option Addr) (t35n t35c : Nat), v_2 = (.slice t35A t35n t35c) ∧ S_ w_4 ∧ Run Try.prog 12 #[(.agg #[(.bool t33_0), (.bool t33_1), (.int .i64 t33_2)]), (.slice t35A t35n t35c), (.int .i64 size), (.int .u32 (Int.tmod first 16777216))] w_4 fun v_3 w_5 => ∃ (t390A : Option Addr) (t390n t390c : Nat), ∃ t391 : Int, v_3 = (.tuple #[(.slice t390A t390n t390c), (.int .i64 t391)]) ∧ law9_BundlePieces.J1 R first k t390A t390n t390c t391 w_5)

@[reducible] def law9_BundlePieces.vc (R : Value → World → Prop) (bA : Option Addr) (bn : Nat) (bc : Nat) (most : Int) (first : Int) (w : World) : Prop :=
  letW (w.alloc (.cells #[(.bool false), (.bool false), (.int .i64 0)] 23)) fun w_2 => storeRow (newA w) 0 [(.bool false), (.bool false), (.int .i64 2)] w_2 fun w_3 => Run Try.prog 24 #[(.int .i64 most)] w_3 fun v w_4 => ∃ t18 : Int, v = (.int .i64 t18) ∧ letW (w_4.alloc (.cells #[(.int .u8 192), (.int .u8 33)] 5)) fun w_5 => ∃ (v_2 : Value) (w_6 : World), (Builtin.append_ #[24, 24] 24 #[(.slice (some (newA w_4)) 2 2), (.slice bA bn bc)]).run Try.prog w_5 = .ok v_2 w_6 ∧ ∃ (t23A : Option Addr) (t23n t23c : Nat), v_2 = (.slice t23A t23n t23c) ∧ ifP (decide ((((t23n : Nat) : Int) : Int) > 4000)) (law9_BundlePieces.J0 R first (newA w) (IntKind.i64.wrap (1 + (Int.tmod t18 300))) t23A t23n t23c true w_6) (law9_BundlePieces.J0 R first (newA w) (IntKind.i64.wrap (1 + (Int.tmod t18 300))) t23A t23n t23c (decide ((IntKind.i64.wrap (1 + (Int.tmod t18 300)) : Int) < 2)) w_6)

theorem law9_BundlePieces.B0_eq (R : Value → World → Prop) (first : Int) (k : Addr) (pA : Option Addr) (pn : Nat) (pc : Nat) (i : Int) (w : World) (ts : Nat → Value) :
    code Try.prog none law9_BundlePieces.live 0 law9_BundlePieces.c0 (thenK (fun st w => loopVC (fun K => code Try.prog none law9_BundlePieces.live 0 law9_BundlePieces.c0 K) (law9_BundlePieces.live 0) (law9_BundlePieces.K0 R) (clearFrom (law9_BundlePieces.live 0) 0 st) w) (law9_BundlePieces.K0 R)) (mergeFrom (law9_BundlePieces.live 0) ts 0 (clearFrom (law9_BundlePieces.live 0) 0 [undef, undef, (.int .u32 first), undef, undef, undef, undef, (.pointer (some k)), undef, undef, (.slice pA pn pc), undef, (.int .i64 i), undef, undef, undef, undef, undef, undef, undef, undef, undef, undef, undef, undef, undef, undef, undef, undef, undef, undef, undef, undef, undef, undef, undef, undef, undef, undef, undef, undef, undef, undef, undef, undef, undef, undef, undef, undef, undef, undef, undef, undef, undef, undef, undef, undef, undef, undef, undef, undef, undef, undef, undef, undef, undef, undef, undef, undef, undef, undef, undef, undef, undef, undef, undef, undef, undef, undef, undef, undef, undef, undef, undef, undef, undef, undef, undef, undef, undef, undef, undef, undef, undef, undef, undef, undef, undef, undef, undef, undef, undef, undef, undef, undef, undef, undef, undef, undef])) w = law9_BundlePieces.B0 R first k pA pn pc i w := by kernel_rfl
theorem law9_BundlePieces.L0_step {R : Value → World → Prop} {first : Int} {k : Addr} {pA : Option Addr} {pn : Nat} {pc : Nat} {i : Int} {w : World} (h : law9_BundlePieces.B0 R first k pA pn pc i w) : law9_BundlePieces.L0 R first k pA pn pc i w :=
  loop_step (live := law9_BundlePieces.live) (b := 0) (x := law9_BundlePieces.c0) fun ts => Eq.mpr (law9_BundlePieces.B0_eq R first k pA pn pc i w ts) h
theorem law9_BundlePieces.eq (R : Value → World → Prop) (bA : Option Addr) (bn : Nat) (bc : Nat) (most : Int) (first : Int) (w : World) : fnVC Try.prog none law9_BundlePieces.live Try.f9 R [(.slice bA bn bc), (.int .i64 most), (.int .u32 first)] w = law9_BundlePieces.vc R bA bn bc most first w := by kernel_rfl
theorem law9_BundlePieces.ok {R : Value → World → Prop} {bA : Option Addr} {bn : Nat} {bc : Nat} {most : Int} {first : Int} {w : World} (h : law9_BundlePieces.vc R bA bn bc most first w) : Run Try.prog 9 #[(.slice bA bn bc), (.int .i64 most), (.int .u32 first)] w R := by
  have h2 := Eq.mpr (law9_BundlePieces.eq R bA bn bc most first w) h
  exact fn_sound Try.mixed Try.func9 (by kernel_rfl) h2

end
end Go.Proofs.Ytgjabpgkiaojhaa
