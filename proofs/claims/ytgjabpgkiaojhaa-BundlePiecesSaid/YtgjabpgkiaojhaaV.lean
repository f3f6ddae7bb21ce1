/- Printed by a program of this repo (wip/tools/gen.py) out of Lean's own print of the functions: each function's weakest precondition, and the equation that it is one. -/
import Derived.Test.YtgjabpgkiaojhaaProg
import Derived.Test.YtgjabpgkiaojhaaS4
import Derived.KernelRfl
namespace Go.Proofs.Ytgjabpgkiaojhaa
open Go.Rd
set_option linter.unusedVariables false
set_option maxRecDepth 100000
section
theorem Try.mixed : Try.prog.follows .mixedOrders = true := by kernel_rfl

/-! ### riddle/riddleref7.Check: function 43 -/
noncomputable def ref7_Check.body : Code := bodyOf Try.f43
def ref7_Check.live : Nat → List Nat
  | _ => []
def ref7_Check.J0 (R : Value → World → Prop) (t10 : Bool) (w : World) : Prop :=
  ifP t10
    (R (.int .i64 70) w)
    (R (.int .i64 0) w)

@[reducible] def ref7_Check.vc (R : Value → World → Prop) (l_0 : Bool) (l_1 : Bool) (l_2 : Int) (w : World) : Prop :=
  letW (w.alloc (.cells #[(.bool l_0), (.bool l_1), (.int .i64 l_2)] 23)) fun w_2 => ∃ t4 : Int, w_2.cell? ((newA w).add 2) = some (.int .i64 t4) ∧ ifP (decide ((t4 : Int) < 0)) (ref7_Check.J0 R true w_2) (∃ t8 : Int, w_2.cell? ((newA w).add 2) = some (.int .i64 t8) ∧ ref7_Check.J0 R (decide ((t8 : Int) > 2)) w_2)

theorem ref7_Check.eq (R : Value → World → Prop) (l_0 : Bool) (l_1 : Bool) (l_2 : Int) (w : World) : fnVC Try.prog none ref7_Check.live Try.f43 R [(.agg #[(.bool l_0), (.bool l_1), (.int .i64 l_2)])] w = ref7_Check.vc R l_0 l_1 l_2 w := by kernel_rfl
set_option maxHeartbeats 4000000 in
theorem ref7_Check.ok {R : Value → World → Prop} {l_0 : Bool} {l_1 : Bool} {l_2 : Int} {w : World} (h : ref7_Check.vc R l_0 l_1 l_2 w) : Run Try.prog 43 #[(.agg #[(.bool l_0), (.bool l_1), (.int .i64 l_2)])] w R := by
  have h2 := Eq.mpr (ref7_Check.eq R l_0 l_1 l_2 w) h
  exact fn_sound Try.mixed Try.func43 (by kernel_rfl) h2

/-! ### riddle/riddleref9.may: function 26 -/
noncomputable def ref9_may.body : Code := bodyOf Try.f26
def ref9_may.live : Nat → List Nat
  | _ => []
def ref9_may.J0 (R : Value → World → Prop) (t2 : Bool) (w : World) : Prop :=
  R (.bool t2) w

@[reducible] def ref9_may.vc (R : Value → World → Prop) (l_0 : Bool) (l_1 : Bool) (l_2 : Int) (w : World) : Prop :=
  letW (w.alloc (.cells #[(.bool l_0), (.bool l_1), (.int .i64 l_2)] 23)) fun w_2 => ∃ t3_0 : Bool, w_2.cell? (newA w) = some (.bool t3_0) ∧ ∃ t3_1 : Bool, w_2.cell? ((newA w).add 1) = some (.bool t3_1) ∧ ∃ t3_2 : Int, w_2.cell? ((newA w).add 2) = some (.int .i64 t3_2) ∧ Run Try.prog 43 #[(.agg #[(.bool t3_0), (.bool t3_1), (.int .i64 t3_2)])] w_2 fun v w_3 => ∃ t4 : Int, v = (.int .i64 t4) ∧ ifP ((t4 : Int) == 0) (∃ t8 : Int, w_3.cell? ((newA w).add 2) = some (.int .i64 t8) ∧ ref9_may.J0 R ((t8 : Int) != 0) w_3) (ref9_may.J0 R false w_3)

theorem ref9_may.eq (R : Value → World → Prop) (l_0 : Bool) (l_1 : Bool) (l_2 : Int) (w : World) : fnVC Try.prog none ref9_may.live Try.f26 R [(.agg #[(.bool l_0), (.bool l_1), (.int .i64 l_2)])] w = ref9_may.vc R l_0 l_1 l_2 w := by kernel_rfl
set_option maxHeartbeats 4000000 in
theorem ref9_may.ok {R : Value → World → Prop} {l_0 : Bool} {l_1 : Bool} {l_2 : Int} {w : World} (h : ref9_may.vc R l_0 l_1 l_2 w) : Run Try.prog 26 #[(.agg #[(.bool l_0), (.bool l_1), (.int .i64 l_2)])] w R := by
  have h2 := Eq.mpr (ref9_may.eq R l_0 l_1 l_2 w) h
  exact fn_sound Try.mixed Try.func26 (by kernel_rfl) h2

/-! ### riddle/riddleref8.Space: function 27 -/
noncomputable def ref8_Space.body : Code := bodyOf Try.f27
def ref8_Space.live : Nat → List Nat
  | _ => []
@[reducible] def ref8_Space.vc (R : Value → World → Prop) (l_0 : Bool) (l_1 : Bool) (l_2 : Int) (w : World) : Prop :=
  letW (w.alloc (.cells #[(.bool l_0), (.bool l_1), (.int .i64 l_2)] 23)) fun w_2 => ∃ t4 : Int, w_2.cell? ((newA w).add 2) = some (.int .i64 t4) ∧ ifP ((t4 : Int) == 2)
    (R (.int .u32 16777216) w_2)
    (R (.int .u32 4096) w_2)

theorem ref8_Space.eq (R : Value → World → Prop) (l_0 : Bool) (l_1 : Bool) (l_2 : Int) (w : World) : fnVC Try.prog none ref8_Space.live Try.f27 R [(.agg #[(.bool l_0), (.bool l_1), (.int .i64 l_2)])] w = ref8_Space.vc R l_0 l_1 l_2 w := by kernel_rfl
set_option maxHeartbeats 4000000 in
theorem ref8_Space.ok {R : Value → World → Prop} {l_0 : Bool} {l_1 : Bool} {l_2 : Int} {w : World} (h : ref8_Space.vc R l_0 l_1 l_2 w) : Run Try.prog 27 #[(.agg #[(.bool l_0), (.bool l_1), (.int .i64 l_2)])] w R := by
  have h2 := Eq.mpr (ref8_Space.eq R l_0 l_1 l_2 w) h
  exact fn_sound Try.mixed Try.func27 (by kernel_rfl) h2

/-! ### riddle/riddleref1.In: function 61 -/
noncomputable def ref1_In.body : Code := bodyOf Try.f61
def ref1_In.live : Nat → List Nat
  | _ => []
def ref1_In.J0 (R : Value → World → Prop) (t6 : Bool) (w : World) : Prop :=
  R (.bool t6) w

@[reducible] def ref1_In.vc (R : Value → World → Prop) (many : Int) (at_ : Int) (size : Int) (w : World) : Prop :=
  ifP (decide ((at_ : Int) ≥ 0)) (ifP (decide ((size : Int) ≥ 0)) (ifP (decide ((size : Int) ≤ many)) (ref1_In.J0 R (decide ((at_ : Int) ≤ (IntKind.i64.wrap (many - size)))) w) (ref1_In.J0 R false w)) (ref1_In.J0 R false w)) (ref1_In.J0 R false w)

theorem ref1_In.eq (R : Value → World → Prop) (many : Int) (at_ : Int) (size : Int) (w : World) : fnVC Try.prog none ref1_In.live Try.f61 R [(.int .i64 many), (.int .i64 at_), (.int .i64 size)] w = ref1_In.vc R many at_ size w := by kernel_rfl
set_option maxHeartbeats 4000000 in
theorem ref1_In.ok {R : Value → World → Prop} {many : Int} {at_ : Int} {size : Int} {w : World} (h : ref1_In.vc R many at_ size w) : Run Try.prog 61 #[(.int .i64 many), (.int .i64 at_), (.int .i64 size)] w R := by
  have h2 := Eq.mpr (ref1_In.eq R many at_ size w) h
  exact fn_sound Try.mixed Try.func61 (by kernel_rfl) h2

/-! ### riddle/riddleref1.Put: function 57 -/
noncomputable def ref1_Put.body : Code := bodyOf Try.f57
def ref1_Put.live : Nat → List Nat
  | 0 => [1, 3, 10, 11]
  | _ => []
noncomputable def ref1_Put.c0 : Code := sub ref1_Put.body [1, 1, 1, 0, 1, 0, 0]
def ref1_Put.K0 (R : Value → World → Prop) : Ex → St → World → Prop := (blockK 0 (thenK (fun st w => code Try.prog none ref1_Put.live 0 (sub ref1_Put.body [1, 1, 1, 1]) (retK Try.prog Try.f57 R) st w) (retK Try.prog Try.f57 R)))
def ref1_Put.L0 (R : Value → World → Prop) (at_ : Int) (v : Int) (outA : Option Addr) (outn : Nat) (outc : Nat) (i : Int) (w : World) : Prop :=
  loopVC (fun K => code Try.prog none ref1_Put.live 0 ref1_Put.c0 K) (ref1_Put.live 0) (ref1_Put.K0 R) [undef, (.int .i64 at_), undef, (.int .u32 v), undef, undef, undef, undef, undef, undef, (.slice outA outn outc), (.int .i64 i), undef, undef, undef, undef, undef, undef, undef, undef, undef, undef, undef, undef, undef, undef, undef, undef, undef, undef, undef, undef, undef, undef, undef, undef, undef, undef, undef, undef, undef, undef, undef, undef, undef, undef, undef, undef, undef] w
@[reducible] def ref1_Put.B0 (R : Value → World → Prop) (at_ : Int) (v : Int) (outA : Option Addr) (outn : Nat) (outc : Nat) (i : Int) (w : World) : Prop :=
  ifP (decide ((i : Int) ≥ 0))
    (0 ≤ (IntKind.i64.wrap (at_ + i) : Int) ∧ (IntKind.i64.wrap (at_ + i) : Int) < ((outn : Nat) : Int) ∧ ∃ t45p : Addr, outA = some t45p ∧ (∃ u : Value, w.cell? (t45p.add (Int.toNat (IntKind.i64.wrap (at_ + i)) * 1)) = some u) ∧ w.frozen? (t45p.add (Int.toNat (IntKind.i64.wrap (at_ + i)) * 1)) = false ∧ letW (w.setCell (t45p.add (Int.toNat (IntKind.i64.wrap (at_ + i)) * 1)) (.int .u8 (IntKind.u8.wrap v))) fun w_2 => ref1_Put.L0 R at_ (Int.fdiv v (2 ^ 8)) outA outn outc (IntKind.i64.wrap (i - 1)) w_2)
    (R (.tuple #[(.slice outA outn outc), (.bool true)]) w)

def ref1_Put.J0 (R : Value → World → Prop) (bA : Option Addr) (bn : Nat) (bc : Nat) (at_ : Int) (size : Int) (v : Int) (t29 : Bool) (w : World) : Prop :=
  ifP t29
    (R (.tuple #[(.slice none 0 0), (.bool false)]) w)
    (letW (w.alloc (.cells #[] 5)) fun w_2 => ∃ (v_2 : Value) (w_3 : World), (Builtin.append_ #[24, 24] 24 #[(.slice (some (newA w)) 0 0), (.slice bA bn bc)]).run Try.prog w_2 = .ok v_2 w_3 ∧ ∃ (t32A : Option Addr) (t32n t32c : Nat), v_2 = (.slice t32A t32n t32c) ∧ ref1_Put.L0 R at_ v t32A t32n t32c (IntKind.i64.wrap (size - 1)) w_3)

@[reducible] def ref1_Put.vc (R : Value → World → Prop) (bA : Option Addr) (bn : Nat) (bc : Nat) (at_ : Int) (size : Int) (v : Int) (w : World) : Prop :=
  ifP ((size : Int) != 1) (ifP ((size : Int) != 2) (ifP ((size : Int) != 4) (ref1_Put.J0 R bA bn bc at_ size v true w) (Run Try.prog 61 #[(.int .i64 ((bn : Nat) : Int)), (.int .i64 at_), (.int .i64 size)] w fun v_2 w_2 => ∃ t27 : Bool, v_2 = (.bool t27) ∧ ref1_Put.J0 R bA bn bc at_ size v (!t27) w_2)) (Run Try.prog 61 #[(.int .i64 ((bn : Nat) : Int)), (.int .i64 at_), (.int .i64 size)] w fun v_3 w_3 => ∃ t27_2 : Bool, v_3 = (.bool t27_2) ∧ ref1_Put.J0 R bA bn bc at_ size v (!t27_2) w_3)) (Run Try.prog 61 #[(.int .i64 ((bn : Nat) : Int)), (.int .i64 at_), (.int .i64 size)] w fun v_4 w_4 => ∃ t27_3 : Bool, v_4 = (.bool t27_3) ∧ ref1_Put.J0 R bA bn bc at_ size v (!t27_3) w_4)

theorem ref1_Put.B0_eq (R : Value → World → Prop) (at_ : Int) (v : Int) (outA : Option Addr) (outn : Nat) (outc : Nat) (i : Int) (w : World) (ts : Nat → Value) :
    code Try.prog none ref1_Put.live 0 ref1_Put.c0 (thenK (fun st w => loopVC (fun K => code Try.prog none ref1_Put.live 0 ref1_Put.c0 K) (ref1_Put.live 0) (ref1_Put.K0 R) (clearFrom (ref1_Put.live 0) 0 st) w) (ref1_Put.K0 R)) (mergeFrom (ref1_Put.live 0) ts 0 (clearFrom (ref1_Put.live 0) 0 [undef, (.int .i64 at_), undef, (.int .u32 v), undef, undef, undef, undef, undef, undef, (.slice outA outn outc), (.int .i64 i), undef, undef, undef, undef, undef, undef, undef, undef, undef, undef, undef, undef, undef, undef, undef, undef, undef, undef, undef, undef, undef, undef, undef, undef, undef, undef, undef, undef, undef, undef, undef, undef, undef, undef, undef, undef, undef])) w = ref1_Put.B0 R at_ v outA outn outc i w := by kernel_rfl
theorem ref1_Put.L0_step {R : Value → World → Prop} {at_ : Int} {v : Int} {outA : Option Addr} {outn : Nat} {outc : Nat} {i : Int} {w : World} (h : ref1_Put.B0 R at_ v outA outn outc i w) : ref1_Put.L0 R at_ v outA outn outc i w :=
  loop_step (live := ref1_Put.live) (b := 0) (x := ref1_Put.c0) fun ts => Eq.mpr (ref1_Put.B0_eq R at_ v outA outn outc i w ts) h
theorem ref1_Put.eq (R : Value → World → Prop) (bA : Option Addr) (bn : Nat) (bc : Nat) (at_ : Int) (size : Int) (v : Int) (w : World) : fnVC Try.prog none ref1_Put.live Try.f57 R [(.slice bA bn bc), (.int .i64 at_), (.int .i64 size), (.int .u32 v)] w = ref1_Put.vc R bA bn bc at_ size v w := by kernel_rfl
set_option maxHeartbeats 4000000 in
theorem ref1_Put.ok {R : Value → World → Prop} {bA : Option Addr} {bn : Nat} {bc : Nat} {at_ : Int} {size : Int} {v : Int} {w : World} (h : ref1_Put.vc R bA bn bc at_ size v w) : Run Try.prog 57 #[(.slice bA bn bc), (.int .i64 at_), (.int .i64 size), (.int .u32 v)] w R := by
  have h2 := Eq.mpr (ref1_Put.eq R bA bn bc at_ size v w) h
  exact fn_sound Try.mixed Try.func57 (by kernel_rfl) h2

/-! ### riddle/riddleref1.Bytes: function 44 -/
noncomputable def ref1_Bytes.body : Code := bodyOf Try.f44
def ref1_Bytes.live : Nat → List Nat
  | _ => []
@[reducible] def ref1_Bytes.vc (R : Value → World → Prop) (v : Int) (size : Int) (w : World) : Prop :=
  ∃ (v_2 : Value) (w_2 : World), (Instr.makeSlice 24 (.int .i64 size) (.int .i64 size)).run Try.prog w = .ok v_2 w_2 ∧ ∃ (t9A : Option Addr) (t9n t9c : Nat), v_2 = (.slice t9A t9n t9c) ∧ Run Try.prog 57 #[(.slice t9A t9n t9c), (.int .i64 0), (.int .i64 size), (.int .u32 v)] w_2 fun v_3 w_3 => ∃ (t120A : Option Addr) (t120n t120c : Nat), ∃ t121 : Bool, v_3 = (.tuple #[(.slice t120A t120n t120c), (.bool t121)]) ∧ R (.slice t120A t120n t120c) w_3

theorem ref1_Bytes.eq (R : Value → World → Prop) (v : Int) (size : Int) (w : World) : fnVC Try.prog none ref1_Bytes.live Try.f44 R [(.int .u32 v), (.int .i64 size)] w = ref1_Bytes.vc R v size w := by kernel_rfl
set_option maxHeartbeats 4000000 in
theorem ref1_Bytes.ok {R : Value → World → Prop} {v : Int} {size : Int} {w : World} (h : ref1_Bytes.vc R v size w) : Run Try.prog 44 #[(.int .u32 v), (.int .i64 size)] w R := by
  have h2 := Eq.mpr (ref1_Bytes.eq R v size w) h
  exact fn_sound Try.mixed Try.func44 (by kernel_rfl) h2

/-! ### riddle/riddleref8.Head: function 28 -/
noncomputable def ref8_Head.body : Code := bodyOf Try.f28
def ref8_Head.live : Nat → List Nat
  | _ => []
def ref8_Head.J2 (R : Value → World → Prop) (seq : Int) (size : Int) (w : World) : Prop :=
  Run Try.prog 44 #[(.int .u32 seq), (.int .i64 size)] w fun v w_2 => ∃ (t29A : Option Addr) (t29n t29c : Nat), v = (.slice t29A t29n t29c) ∧ R (.slice t29A t29n t29c) w_2

def ref8_Head.J1 (R : Value → World → Prop) (end_ : Bool) (seq : Int) (size : Int) (top : Int) (w : World) : Prop :=
  ifP end_
    (ref8_Head.J2 R (orI .u32 seq (IntKind.u32.wrap (Int.tdiv top 2))) size w)
    (ref8_Head.J2 R seq size w)

def ref8_Head.J0 (R : Value → World → Prop) (begin : Bool) (end_ : Bool) (seq : Int) (size : Int) (w : World) : Prop :=
  0 ≤ (IntKind.i64.wrap ((IntKind.i64.wrap (8 * size)) - 1)) ∧ ifP begin
    (ref8_Head.J1 R end_ (orI .u32 seq (IntKind.u32.wrap (1 * 2 ^ (min (Int.toNat (IntKind.i64.wrap ((IntKind.i64.wrap (8 * size)) - 1))) (IntKind.bits .u32))))) size (IntKind.u32.wrap (1 * 2 ^ (min (Int.toNat (IntKind.i64.wrap ((IntKind.i64.wrap (8 * size)) - 1))) (IntKind.bits .u32)))) w)
    (ref8_Head.J1 R end_ seq size (IntKind.u32.wrap (1 * 2 ^ (min (Int.toNat (IntKind.i64.wrap ((IntKind.i64.wrap (8 * size)) - 1))) (IntKind.bits .u32)))) w)

@[reducible] def ref8_Head.vc (R : Value → World → Prop) (l_0 : Bool) (l_1 : Bool) (l_2 : Int) (begin : Bool) (end_ : Bool) (seq : Int) (w : World) : Prop :=
  letW (w.alloc (.cells #[(.bool l_0), (.bool l_1), (.int .i64 l_2)] 23)) fun w_2 => ∃ t12 : Int, w_2.cell? ((newA w).add 2) = some (.int .i64 t12) ∧ ifP ((t12 : Int) == 2)
    (ref8_Head.J0 R begin end_ seq 4 w_2)
    (ref8_Head.J0 R begin end_ seq 2 w_2)

theorem ref8_Head.eq (R : Value → World → Prop) (l_0 : Bool) (l_1 : Bool) (l_2 : Int) (begin : Bool) (end_ : Bool) (seq : Int) (w : World) : fnVC Try.prog none ref8_Head.live Try.f28 R [(.agg #[(.bool l_0), (.bool l_1), (.int .i64 l_2)]), (.bool begin), (.bool end_), (.int .u32 seq)] w = ref8_Head.vc R l_0 l_1 l_2 begin end_ seq w := by kernel_rfl
set_option maxHeartbeats 4000000 in
theorem ref8_Head.ok {R : Value → World → Prop} {l_0 : Bool} {l_1 : Bool} {l_2 : Int} {begin : Bool} {end_ : Bool} {seq : Int} {w : World} (h : ref8_Head.vc R l_0 l_1 l_2 begin end_ seq w) : Run Try.prog 28 #[(.agg #[(.bool l_0), (.bool l_1), (.int .i64 l_2)]), (.bool begin), (.bool end_), (.int .u32 seq)] w R := by
  have h2 := Eq.mpr (ref8_Head.eq R l_0 l_1 l_2 begin end_ seq w) h
  exact fn_sound Try.mixed Try.func28 (by kernel_rfl) h2

/-! ### riddle/riddleref9.Split: function 10 -/
noncomputable def ref9_Split.body : Code := bodyOf Try.f10
def ref9_Split.live : Nat → List Nat
  | 1 => [1, 2, 4, 10, 11, 12]
  | _ => []
noncomputable def ref9_Split.c1 : Code := sub ref9_Split.body [1, 1, 1, 1, 0, 1, 0, 0]
def ref9_Split.K1 (R : Value → World → Prop) : Ex → St → World → Prop := (blockK 1 (thenK (fun st w => code Try.prog none ref9_Split.live 0 (sub ref9_Split.body [1, 1, 1, 1, 1]) (retK Try.prog Try.f10 R) st w) (retK Try.prog Try.f10 R)))
def ref9_Split.L1 (R : Value → World → Prop) (bA : Option Addr) (bn : Nat) (bc : Nat) (most : Int) (l : Addr) (outA : Option Addr) (outn : Nat) (outc : Nat) (seq : Int) (at_ : Int) (w : World) : Prop :=
  loopVC (fun K => code Try.prog none ref9_Split.live 1 ref9_Split.c1 K) (ref9_Split.live 1) (ref9_Split.K1 R) [undef, (.slice bA bn bc), (.int .i64 most), undef, (.pointer (some l)), undef, undef, undef, undef, undef, (.slice outA outn outc), (.int .u32 seq), (.int .i64 at_), undef, undef, undef, undef, undef, undef, undef, undef, undef, undef, undef, undef, undef, undef, undef, undef, undef, undef, undef, undef, undef, undef, undef, undef, undef, undef, undef, undef, undef, undef, undef, undef, undef, undef, undef, undef, undef, undef, undef, undef, undef, undef, undef, undef, undef, undef, undef, undef, undef, undef, undef, undef, undef, undef, undef, undef, undef, undef, undef, undef, undef, undef, undef, undef, undef, undef, undef, undef, undef, undef, undef, undef, undef, undef, undef, undef, undef, undef, undef] w
def ref9_Split.J2 (R : Value → World → Prop) (bA : Option Addr) (bn : Nat) (bc : Nat) (most : Int) (l : Addr) (outA : Option Addr) (outn : Nat) (outc : Nat) (seq : Int) (at_ : Int) (end_ : Bool) (to : Int) (w : World) : Prop :=
  letW (w.alloc (.cells #[(.int .u8 255), (.int .u8 3), (.int .u8 0), (.int .u8 61)] 5)) fun w_2 => ∃ t70_0 : Bool, w_2.cell? l = some (.bool t70_0) ∧ ∃ t70_1 : Bool, w_2.cell? (l.add 1) = some (.bool t70_1) ∧ ∃ t70_2 : Int, w_2.cell? (l.add 2) = some (.int .i64 t70_2) ∧ Run Try.prog 28 #[(.agg #[(.bool t70_0), (.bool t70_1), (.int .i64 t70_2)]), (.bool ((at_ : Int) == 0)), (.bool end_), (.int .u32 seq)] w_2 fun v w_3 => ∃ (t75A : Option Addr) (t75n t75c : Nat), v = (.slice t75A t75n t75c) ∧ ∃ (v_2 : Value) (w_4 : World), (Builtin.append_ #[24, 24] 24 #[(.slice (some (newA w)) 4 4), (.slice t75A t75n t75c)]).run Try.prog w_3 = .ok v_2 w_4 ∧ ∃ (t76A : Option Addr) (t76n t76c : Nat), v_2 = (.slice t76A t76n t76c) ∧ (0 : Int) ≤ at_ ∧ (at_ : Int) ≤ to ∧ (to : Int) ≤ ((bc : Nat) : Int) ∧ ∃ (v_3 : Value) (w_5 : World), (Builtin.append_ #[24, 24] 24 #[(.slice t76A t76n t76c), (.slice (subA bA bc (Int.toNat at_) 1) ((Int.toNat to) - (Int.toNat at_)) (bc - (Int.toNat at_)))]).run Try.prog w_4 = .ok v_3 w_5 ∧ ∃ (t83A : Option Addr) (t83n t83c : Nat), v_3 = (.slice t83A t83n t83c) ∧ letW (w_5.alloc (.cells #[(.slice t83A t83n t83c)] 24)) fun w_6 => ∃ (v_4 : Value) (w_7 : World), (Builtin.append_ #[26, 26] 26 #[(.slice outA outn outc), (.slice (some (newA w_5)) 1 1)]).run Try.prog w_6 = .ok v_4 w_7 ∧ ∃ (t85A : Option Addr) (t85n t85c : Nat), v_4 = (.slice t85A t85n t85c) ∧ ∃ t88_0 : Bool, w_7.cell? l = some (.bool t88_0) ∧ ∃ t88_1 : Bool, w_7.cell? (l.add 1) = some (.bool t88_1) ∧ ∃ t88_2 : Int, w_7.cell? (l.add 2) = some (.int .i64 t88_2) ∧ Run Try.prog 27 #[(.agg #[(.bool t88_0), (.bool t88_1), (.int .i64 t88_2)])] w_7 fun v_5 w_8 => ∃ t89 : Int, v_5 = (.int .u32 t89) ∧ t89 ≠ 0 ∧ ref9_Split.L1 R bA bn bc most l t85A t85n t85c (Int.tmod (IntKind.u32.wrap (seq + 1)) t89) (IntKind.i64.wrap (at_ + most)) w_8

def ref9_Split.J1 (R : Value → World → Prop) (bA : Option Addr) (bn : Nat) (bc : Nat) (most : Int) (l : Addr) (outA : Option Addr) (outn : Nat) (outc : Nat) (seq : Int) (at_ : Int) (t51 : Bool) (w : World) : Prop :=
  ifP t51
    (ifP (!(decide ((IntKind.i64.wrap (((bn : Nat) : Int) - at_) : Int) ≤ most)))
    (ref9_Split.J2 R bA bn bc most l outA outn outc seq at_ (decide ((IntKind.i64.wrap (((bn : Nat) : Int) - at_) : Int) ≤ most)) (IntKind.i64.wrap (at_ + most)) w)
    (ref9_Split.J2 R bA bn bc most l outA outn outc seq at_ (decide ((IntKind.i64.wrap (((bn : Nat) : Int) - at_) : Int) ≤ most)) ((bn : Nat) : Int) w))
    (R (.tuple #[(.slice outA outn outc), (.int .i64 0)]) w)

@[reducible] def ref9_Split.B1 (R : Value → World → Prop) (bA : Option Addr) (bn : Nat) (bc : Nat) (most : Int) (l : Addr) (outA : Option Addr) (outn : Nat) (outc : Nat) (seq : Int) (at_ : Int) (w : World) : Prop :=
  ifP ((at_ : Int) == 0) (ref9_Split.J1 R bA bn bc most l outA outn outc seq at_ true w) (ref9_Split.J1 R bA bn bc most l outA outn outc seq at_ (decide ((at_ : Int) < ((bn : Nat) : Int))) w)

def ref9_Split.J0 (R : Value → World → Prop) (bA : Option Addr) (bn : Nat) (bc : Nat) (most : Int) (first : Int) (l : Addr) (t20 : Bool) (w : World) : Prop :=
  ifP t20
    (R (.tuple #[(.slice none 0 0), (.int .i64 91)]) w)
    (ifP (decide ((((bn : Nat) : Int) : Int) > 65535))
    (R (.tuple #[(.slice none 0 0), (.int .i64 92)]) w)
    (ifP (decide ((((bn : Nat) : Int) : Int) > (IntKind.i64.wrap (4096 * most))))
    (R (.tuple #[(.slice none 0 0), (.int .i64 93)]) w)
    (ref9_Split.L1 R bA bn bc most l none 0 0 first 0 w)))

@[reducible] def ref9_Split.vc (R : Value → World → Prop) (l_0 : Bool) (l_1 : Bool) (l_2 : Int) (bA : Option Addr) (bn : Nat) (bc : Nat) (most : Int) (first : Int) (w : World) : Prop :=
  letW (w.alloc (.cells #[(.bool l_0), (.bool l_1), (.int .i64 l_2)] 23)) fun w_2 => ∃ t17_0 : Bool, w_2.cell? (newA w) = some (.bool t17_0) ∧ ∃ t17_1 : Bool, w_2.cell? ((newA w).add 1) = some (.bool t17_1) ∧ ∃ t17_2 : Int, w_2.cell? ((newA w).add 2) = some (.int .i64 t17_2) ∧ Run Try.prog 26 #[(.agg #[(.bool t17_0), (.bool t17_1), (.int .i64 t17_2)])] w_2 fun v w_3 => ∃ t18 : Bool, v = (.bool t18) ∧ ifP (!t18)
    (R (.tuple #[(.slice none 0 0), (.int .i64 90)]) w_3)
    (ifP (decide ((most : Int) < 1)) (ref9_Split.J0 R bA bn bc most first (newA w) true w_3) (ifP (decide ((most : Int) > 65527)) (ref9_Split.J0 R bA bn bc most first (newA w) true w_3) (∃ t29_0 : Bool, w_3.cell? (newA w) = some (.bool t29_0) ∧ ∃ t29_1 : Bool, w_3.cell? ((newA w).add 1) = some (.bool t29_1) ∧ ∃ t29_2 : Int, w_3.cell? ((newA w).add 2) = some (.int .i64 t29_2) ∧ Run Try.prog 27 #[(.agg #[(.bool t29_0), (.bool t29_1), (.int .i64 t29_2)])] w_3 fun v_2 w_4 => ∃ t30 : Int, v_2 = (.int .u32 t30) ∧ ref9_Split.J0 R bA bn bc most first (newA w) (decide ((first : Int) ≥ t30)) w_4)))

theorem ref9_Split.B1_eq (R : Value → World → Prop) (bA : Option Addr) (bn : Nat) (bc : Nat) (most : Int) (l : Addr) (outA : Option Addr) (outn : Nat) (outc : Nat) (seq : Int) (at_ : Int) (w : World) (ts : Nat → Value) :
    code Try.prog none ref9_Split.live 1 ref9_Split.c1 (thenK (fun st w => loopVC (fun K => code Try.prog none ref9_Split.live 1 ref9_Split.c1 K) (ref9_Split.live 1) (ref9_Split.K1 R) (clearFrom (ref9_Split.live 1) 0 st) w) (ref9_Split.K1 R)) (mergeFrom (ref9_Split.live 1) ts 0 (clearFrom (ref9_Split.live 1) 0 [undef, (.slice bA bn bc), (.int .i64 most), undef, (.pointer (some l)), undef, undef, undef, undef, undef, (.slice outA outn outc), (.int .u32 seq), (.int .i64 at_), undef, undef, undef, undef, undef, undef, undef, undef, undef, undef, undef, undef, undef, undef, undef, undef, undef, undef, undef, undef, undef, undef, undef, undef, undef, undef, undef, undef, undef, undef, undef, undef, undef, undef, undef, undef, undef, undef, undef, undef, undef, undef, undef, undef, undef, undef, undef, undef, undef, undef, undef, undef, undef, undef, undef, undef, undef, undef, undef, undef, undef, undef, undef, undef, undef, undef, undef, undef, undef, undef, undef, undef, undef, undef, undef, undef, undef, undef, undef])) w = ref9_Split.B1 R bA bn bc most l outA outn outc seq at_ w := by kernel_rfl
theorem ref9_Split.L1_step {R : Value → World → Prop} {bA : Option Addr} {bn : Nat} {bc : Nat} {most : Int} {l : Addr} {outA : Option Addr} {outn : Nat} {outc : Nat} {seq : Int} {at_ : Int} {w : World} (h : ref9_Split.B1 R bA bn bc most l outA outn outc seq at_ w) : ref9_Split.L1 R bA bn bc most l outA outn outc seq at_ w :=
  loop_step (live := ref9_Split.live) (b := 1) (x := ref9_Split.c1) fun ts => Eq.mpr (ref9_Split.B1_eq R bA bn bc most l outA outn outc seq at_ w ts) h
theorem ref9_Split.eq (R : Value → World → Prop) (l_0 : Bool) (l_1 : Bool) (l_2 : Int) (bA : Option Addr) (bn : Nat) (bc : Nat) (most : Int) (first : Int) (w : World) : fnVC Try.prog none ref9_Split.live Try.f10 R [(.agg #[(.bool l_0), (.bool l_1), (.int .i64 l_2)]), (.slice bA bn bc), (.int .i64 most), (.int .u32 first)] w = ref9_Split.vc R l_0 l_1 l_2 bA bn bc most first w := by kernel_rfl
set_option maxHeartbeats 4000000 in
theorem ref9_Split.ok {R : Value → World → Prop} {l_0 : Bool} {l_1 : Bool} {l_2 : Int} {bA : Option Addr} {bn : Nat} {bc : Nat} {most : Int} {first : Int} {w : World} (h : ref9_Split.vc R l_0 l_1 l_2 bA bn bc most first w) : Run Try.prog 10 #[(.agg #[(.bool l_0), (.bool l_1), (.int .i64 l_2)]), (.slice bA bn bc), (.int .i64 most), (.int .u32 first)] w R := by
  have h2 := Eq.mpr (ref9_Split.eq R l_0 l_1 l_2 bA bn bc most first w) h
  exact fn_sound Try.mixed Try.func10 (by kernel_rfl) h2

/-! ### riddle/riddlelaw0.CopyBytes: function 14 -/
noncomputable def law0_CopyBytes.body : Code := bodyOf Try.f14
def law0_CopyBytes.live : Nat → List Nat
  | _ => []
@[reducible] def law0_CopyBytes.vc (R : Value → World → Prop) (aA : Option Addr) (an : Nat) (ac : Nat) (w : World) : Prop :=
  letW (w.alloc (.cells #[] 5)) fun w_2 => ∃ (v : Value) (w_3 : World), (Builtin.append_ #[24, 24] 24 #[(.slice (some (newA w)) 0 0), (.slice aA an ac)]).run Try.prog w_2 = .ok v w_3 ∧ ∃ (t5A : Option Addr) (t5n t5c : Nat), v = (.slice t5A t5n t5c) ∧ R (.slice t5A t5n t5c) w_3

theorem law0_CopyBytes.eq (R : Value → World → Prop) (aA : Option Addr) (an : Nat) (ac : Nat) (w : World) : fnVC Try.prog none law0_CopyBytes.live Try.f14 R [(.slice aA an ac)] w = law0_CopyBytes.vc R aA an ac w := by kernel_rfl
set_option maxHeartbeats 4000000 in
theorem law0_CopyBytes.ok {R : Value → World → Prop} {aA : Option Addr} {an : Nat} {ac : Nat} {w : World} (h : law0_CopyBytes.vc R aA an ac w) : Run Try.prog 14 #[(.slice aA an ac)] w R := by
  have h2 := Eq.mpr (law0_CopyBytes.eq R aA an ac w) h
  exact fn_sound Try.mixed Try.func14 (by kernel_rfl) h2

/-! ### riddle/riddlelaw0.LendBytes: function 11 -/
noncomputable def law0_LendBytes.body : Code := bodyOf Try.f11
def law0_LendBytes.live : Nat → List Nat
  | _ => []
@[reducible] def law0_LendBytes.vc (R : Value → World → Prop) (aA : Option Addr) (an : Nat) (ac : Nat) (w : World) : Prop :=
  Run Try.prog 14 #[(.slice aA an ac)] w fun v w_2 => ∃ (t5A : Option Addr) (t5n t5c : Nat), v = (.slice t5A t5n t5c) ∧ letW (w_2.alloc (.cells #[(.int .u8 201), (.int .u8 201), (.int .u8 201)] 5)) fun w_3 => ∃ (v_2 : Value) (w_4 : World), (Builtin.append_ #[24, 24] 24 #[(.slice t5A t5n t5c), (.slice (some (newA w_2)) 3 3)]).run Try.prog w_3 = .ok v_2 w_4 ∧ ∃ (t7A : Option Addr) (t7n t7c : Nat), v_2 = (.slice t7A t7n t7c) ∧ (0 : Int) ≤ 0 ∧ (0 : Int) ≤ ((an : Nat) : Int) ∧ (((an : Nat) : Int) : Int) ≤ ((t7c : Nat) : Int) ∧ R (.slice (subA t7A t7c 0 1) ((Int.toNat ((an : Nat) : Int)) - 0) (t7c - 0)) w_4

theorem law0_LendBytes.eq (R : Value → World → Prop) (aA : Option Addr) (an : Nat) (ac : Nat) (w : World) : fnVC Try.prog none law0_LendBytes.live Try.f11 R [(.slice aA an ac)] w = law0_LendBytes.vc R aA an ac w := by kernel_rfl
set_option maxHeartbeats 4000000 in
theorem law0_LendBytes.ok {R : Value → World → Prop} {aA : Option Addr} {an : Nat} {ac : Nat} {w : World} (h : law0_LendBytes.vc R aA an ac w) : Run Try.prog 11 #[(.slice aA an ac)] w R := by
  have h2 := Eq.mpr (law0_LendBytes.eq R aA an ac w) h
  exact fn_sound Try.mixed Try.func11 (by kernel_rfl) h2

/-! ### riddle/bundle.kindOf: function 29 -/
noncomputable def bundle_kindOf.body : Code := bodyOf Try.f29
def bundle_kindOf.live : Nat → List Nat
  | _ => []
@[reducible] def bundle_kindOf.vc (R : Value → World → Prop) (l_0 : Bool) (l_1 : Bool) (l_2 : Int) (w : World) : Prop :=
  letW (w.alloc (.cells #[(.bool l_0), (.bool l_1), (.int .i64 l_2)] 23)) fun w_2 => letW (w_2.alloc (.cells #[(.bool false), (.bool false), (.int .i64 0), (.int .i64 0), (.int .u32 0)] 62)) fun w_3 => ∃ t5 : Int, w_3.cell? ((newA w).add 2) = some (.int .i64 t5) ∧ ifP ((t5 : Int) == 1)
    (∃ t8_0 : Bool, w_3.cell? (newA w) = some (.bool t8_0) ∧ ∃ t8_1 : Bool, w_3.cell? ((newA w).add 1) = some (.bool t8_1) ∧ ∃ t8_2 : Int, w_3.cell? ((newA w).add 2) = some (.int .i64 t8_2) ∧ storeRow (newA w_2) 0 [(.bool t8_0), (.bool t8_1), (.int .i64 t8_2), (.int .i64 2), (.int .u32 4096)] w_3 fun w_4 => ∃ t2_0 : Bool, w_4.cell? (newA w_2) = some (.bool t2_0) ∧ ∃ t2_1 : Bool, w_4.cell? ((newA w_2).add 1) = some (.bool t2_1) ∧ ∃ t2_2 : Int, w_4.cell? ((newA w_2).add 2) = some (.int .i64 t2_2) ∧ ∃ t2_3 : Int, w_4.cell? ((newA w_2).add 3) = some (.int .i64 t2_3) ∧ ∃ t2_4 : Int, w_4.cell? ((newA w_2).add 4) = some (.int .u32 t2_4) ∧ R (.tuple #[(.agg #[(.bool t2_0), (.bool t2_1), (.int .i64 t2_2), (.int .i64 t2_3), (.int .u32 t2_4)]), (.bool true)]) w_4)
    (ifP ((t5 : Int) == 2)
    (∃ t12_0 : Bool, w_3.cell? (newA w) = some (.bool t12_0) ∧ ∃ t12_1 : Bool, w_3.cell? ((newA w).add 1) = some (.bool t12_1) ∧ ∃ t12_2 : Int, w_3.cell? ((newA w).add 2) = some (.int .i64 t12_2) ∧ storeRow (newA w_2) 0 [(.bool t12_0), (.bool t12_1), (.int .i64 t12_2), (.int .i64 4), (.int .u32 16777216)] w_3 fun w_5 => ∃ t2_0_2 : Bool, w_5.cell? (newA w_2) = some (.bool t2_0_2) ∧ ∃ t2_1_2 : Bool, w_5.cell? ((newA w_2).add 1) = some (.bool t2_1_2) ∧ ∃ t2_2_2 : Int, w_5.cell? ((newA w_2).add 2) = some (.int .i64 t2_2_2) ∧ ∃ t2_3_2 : Int, w_5.cell? ((newA w_2).add 3) = some (.int .i64 t2_3_2) ∧ ∃ t2_4_2 : Int, w_5.cell? ((newA w_2).add 4) = some (.int .u32 t2_4_2) ∧ R (.tuple #[(.agg #[(.bool t2_0_2), (.bool t2_1_2), (.int .i64 t2_2_2), (.int .i64 t2_3_2), (.int .u32 t2_4_2)]), (.bool true)]) w_5)
    (storeRow (newA w_2) 0 [(.bool false), (.bool false), (.int .i64 0), (.int .i64 0), (.int .u32 0)] w_3 fun w_6 => ∃ t2_0_3 : Bool, w_6.cell? (newA w_2) = some (.bool t2_0_3) ∧ ∃ t2_1_3 : Bool, w_6.cell? ((newA w_2).add 1) = some (.bool t2_1_3) ∧ ∃ t2_2_3 : Int, w_6.cell? ((newA w_2).add 2) = some (.int .i64 t2_2_3) ∧ ∃ t2_3_3 : Int, w_6.cell? ((newA w_2).add 3) = some (.int .i64 t2_3_3) ∧ ∃ t2_4_3 : Int, w_6.cell? ((newA w_2).add 4) = some (.int .u32 t2_4_3) ∧ R (.tuple #[(.agg #[(.bool t2_0_3), (.bool t2_1_3), (.int .i64 t2_2_3), (.int .i64 t2_3_3), (.int .u32 t2_4_3)]), (.bool false)]) w_6))

theorem bundle_kindOf.eq (R : Value → World → Prop) (l_0 : Bool) (l_1 : Bool) (l_2 : Int) (w : World) : fnVC Try.prog none bundle_kindOf.live Try.f29 R [(.agg #[(.bool l_0), (.bool l_1), (.int .i64 l_2)])] w = bundle_kindOf.vc R l_0 l_1 l_2 w := by kernel_rfl
set_option maxHeartbeats 4000000 in
theorem bundle_kindOf.ok {R : Value → World → Prop} {l_0 : Bool} {l_1 : Bool} {l_2 : Int} {w : World} (h : bundle_kindOf.vc R l_0 l_1 l_2 w) : Run Try.prog 29 #[(.agg #[(.bool l_0), (.bool l_1), (.int .i64 l_2)])] w R := by
  have h2 := Eq.mpr (bundle_kindOf.eq R l_0 l_1 l_2 w) h
  exact fn_sound Try.mixed Try.func29 (by kernel_rfl) h2

/-! ### riddle/word.Join: function 30 -/
noncomputable def word_Join.body : Code := bodyOf Try.f30
def word_Join.live : Nat → List Nat
  | 0 => [0, 3, 9, 10, 11]
  | 2 => [6, 22, 23, 24]
  | _ => []
noncomputable def word_Join.c0 : Code := sub word_Join.body [1, 1, 0, 1, 0, 0]
noncomputable def word_Join.c2 : Code := sub word_Join.body [1, 1, 1, 1, 0, 1, 0, 0]
def word_Join.K0 (R : Value → World → Prop) : Ex → St → World → Prop := (blockK 0 (thenK (fun st w => code Try.prog none word_Join.live 0 (sub word_Join.body [1, 1, 1]) (retK Try.prog Try.f30 R) st w) (retK Try.prog Try.f30 R)))
def word_Join.L0 (R : Value → World → Prop) (partsA : Option Addr) (partsn : Nat) (partsc : Nat) (n : Int) (t9A : Option Addr) (t9n : Nat) (t9c : Nat) (t10 : Int) (t11 : Int) (w : World) : Prop :=
  loopVC (fun K => code Try.prog none word_Join.live 0 word_Join.c0 K) (word_Join.live 0) (word_Join.K0 R) [(.slice partsA partsn partsc), undef, undef, (.int .i64 n), undef, undef, undef, undef, undef, (.slice t9A t9n t9c), (.int .i64 t10), (.int .i64 t11), undef, undef, undef, undef, undef, undef, undef, undef, undef, undef, undef, undef, undef, undef, undef, undef, undef, undef, undef, undef, undef] w
def word_Join.K2 (R : Value → World → Prop) : Ex → St → World → Prop := (blockK 2 (thenK (fun st w => code Try.prog none word_Join.live 0 (sub word_Join.body [1, 1, 1, 1, 1]) (retK Try.prog Try.f30 R) st w) (retK Try.prog Try.f30 R)))
def word_Join.L2 (R : Value → World → Prop) (outA : Option Addr) (outn : Nat) (outc : Nat) (t22A : Option Addr) (t22n : Nat) (t22c : Nat) (t23 : Int) (t24 : Int) (w : World) : Prop :=
  loopVC (fun K => code Try.prog none word_Join.live 2 word_Join.c2 K) (word_Join.live 2) (word_Join.K2 R) [undef, undef, undef, undef, undef, undef, (.slice outA outn outc), undef, undef, undef, undef, undef, undef, undef, undef, undef, undef, undef, undef, undef, undef, undef, (.slice t22A t22n t22c), (.int .i64 t23), (.int .i64 t24), undef, undef, undef, undef, undef, undef, undef, undef] w
@[reducible] def word_Join.B2 (R : Value → World → Prop) (outA : Option Addr) (outn : Nat) (outc : Nat) (t22A : Option Addr) (t22n : Nat) (t22c : Nat) (t23 : Int) (t24 : Int) (w : World) : Prop :=
  ifP (decide ((t24 : Int) < t23))
    (0 ≤ (t24 : Int) ∧ (t24 : Int) < ((t22n : Nat) : Int) ∧ ∃ t26p : Addr, t22A = some t26p ∧ ∃ (t27A : Option Addr) (t27n t27c : Nat), w.cell? (t26p.add (Int.toNat t24 * 1)) = some (.slice t27A t27n t27c) ∧ ∃ (v : Value) (w_2 : World), (Builtin.append_ #[24, 24] 24 #[(.slice outA outn outc), (.slice t27A t27n t27c)]).run Try.prog w = .ok v w_2 ∧ ∃ (t30A : Option Addr) (t30n t30c : Nat), v = (.slice t30A t30n t30c) ∧ word_Join.L2 R t30A t30n t30c t22A t22n t22c t23 (IntKind.i64.wrap (t24 + 1)) w_2)
    (R (.slice outA outn outc) w)

@[reducible] def word_Join.B0 (R : Value → World → Prop) (partsA : Option Addr) (partsn : Nat) (partsc : Nat) (n : Int) (t9A : Option Addr) (t9n : Nat) (t9c : Nat) (t10 : Int) (t11 : Int) (w : World) : Prop :=
  ifP (decide ((t11 : Int) < t10))
    (0 ≤ (t11 : Int) ∧ (t11 : Int) < ((t9n : Nat) : Int) ∧ ∃ t13p : Addr, t9A = some t13p ∧ ∃ (t14A : Option Addr) (t14n t14c : Nat), w.cell? (t13p.add (Int.toNat t11 * 1)) = some (.slice t14A t14n t14c) ∧ word_Join.L0 R partsA partsn partsc (IntKind.i64.wrap (n + ((t14n : Nat) : Int))) t9A t9n t9c t10 (IntKind.i64.wrap (t11 + 1)) w)
    (∃ (v : Value) (w_2 : World), (Instr.makeSlice 24 (.int .i64 0) (.int .i64 n)).run Try.prog w = .ok v w_2 ∧ ∃ (t21A : Option Addr) (t21n t21c : Nat), v = (.slice t21A t21n t21c) ∧ word_Join.L2 R t21A t21n t21c partsA partsn partsc ((partsn : Nat) : Int) 0 w_2)

@[reducible] def word_Join.vc (R : Value → World → Prop) (partsA : Option Addr) (partsn : Nat) (partsc : Nat) (w : World) : Prop :=
  word_Join.L0 R partsA partsn partsc 0 partsA partsn partsc ((partsn : Nat) : Int) 0 w

theorem word_Join.B0_eq (R : Value → World → Prop) (partsA : Option Addr) (partsn : Nat) (partsc : Nat) (n : Int) (t9A : Option Addr) (t9n : Nat) (t9c : Nat) (t10 : Int) (t11 : Int) (w : World) (ts : Nat → Value) :
    code Try.prog none word_Join.live 0 word_Join.c0 (thenK (fun st w => loopVC (fun K => code Try.prog none word_Join.live 0 word_Join.c0 K) (word_Join.live 0) (word_Join.K0 R) (clearFrom (word_Join.live 0) 0 st) w) (word_Join.K0 R)) (mergeFrom (word_Join.live 0) ts 0 (clearFrom (word_Join.live 0) 0 [(.slice partsA partsn partsc), undef, undef, (.int .i64 n), undef, undef, undef, undef, undef, (.slice t9A t9n t9c), (.int .i64 t10), (.int .i64 t11), undef, undef, undef, undef, undef, undef, undef, undef, undef, undef, undef, undef, undef, undef, undef, undef, undef, undef, undef, undef, undef])) w = word_Join.B0 R partsA partsn partsc n t9A t9n t9c t10 t11 w := by kernel_rfl
theorem word_Join.L0_step {R : Value → World → Prop} {partsA : Option Addr} {partsn : Nat} {partsc : Nat} {n : Int} {t9A : Option Addr} {t9n : Nat} {t9c : Nat} {t10 : Int} {t11 : Int} {w : World} (h : word_Join.B0 R partsA partsn partsc n t9A t9n t9c t10 t11 w) : word_Join.L0 R partsA partsn partsc n t9A t9n t9c t10 t11 w :=
  loop_step (live := word_Join.live) (b := 0) (x := word_Join.c0) fun ts => Eq.mpr (word_Join.B0_eq R partsA partsn partsc n t9A t9n t9c t10 t11 w ts) h
theorem word_Join.B2_eq (R : Value → World → Prop) (outA : Option Addr) (outn : Nat) (outc : Nat) (t22A : Option Addr) (t22n : Nat) (t22c : Nat) (t23 : Int) (t24 : Int) (w : World) (ts : Nat → Value) :
    code Try.prog none word_Join.live 2 word_Join.c2 (thenK (fun st w => loopVC (fun K => code Try.prog none word_Join.live 2 word_Join.c2 K) (word_Join.live 2) (word_Join.K2 R) (clearFrom (word_Join.live 2) 0 st) w) (word_Join.K2 R)) (mergeFrom (word_Join.live 2) ts 0 (clearFrom (word_Join.live 2) 0 [undef, undef, undef, undef, undef, undef, (.slice outA outn outc), undef, undef, undef, undef, undef, undef, undef, undef, undef, undef, undef, undef, undef, undef, undef, (.slice t22A t22n t22c), (.int .i64 t23), (.int .i64 t24), undef, undef, undef, undef, undef, undef, undef, undef])) w = word_Join.B2 R outA outn outc t22A t22n t22c t23 t24 w := by kernel_rfl
theorem word_Join.L2_step {R : Value → World → Prop} {outA : Option Addr} {outn : Nat} {outc : Nat} {t22A : Option Addr} {t22n : Nat} {t22c : Nat} {t23 : Int} {t24 : Int} {w : World} (h : word_Join.B2 R outA outn outc t22A t22n t22c t23 t24 w) : word_Join.L2 R outA outn outc t22A t22n t22c t23 t24 w :=
  loop_step (live := word_Join.live) (b := 2) (x := word_Join.c2) fun ts => Eq.mpr (word_Join.B2_eq R outA outn outc t22A t22n t22c t23 t24 w ts) h
theorem word_Join.eq (R : Value → World → Prop) (partsA : Option Addr) (partsn : Nat) (partsc : Nat) (w : World) : fnVC Try.prog none word_Join.live Try.f30 R [(.slice partsA partsn partsc)] w = word_Join.vc R partsA partsn partsc w := by kernel_rfl
set_option maxHeartbeats 4000000 in
theorem word_Join.ok {R : Value → World → Prop} {partsA : Option Addr} {partsn : Nat} {partsc : Nat} {w : World} (h : word_Join.vc R partsA partsn partsc w) : Run Try.prog 30 #[(.slice partsA partsn partsc)] w R := by
  have h2 := Eq.mpr (word_Join.eq R partsA partsn partsc w) h
  exact fn_sound Try.mixed Try.func30 (by kernel_rfl) h2

/-! ### (riddle/bundle.kind).begin: function 45 -/
noncomputable def bundle_kind_begin.body : Code := bodyOf Try.f45
def bundle_kind_begin.live : Nat → List Nat
  | _ => []
@[reducible] def bundle_kind_begin.vc (R : Value → World → Prop) (k_0 : Bool) (k_1 : Bool) (k_2 : Int) (k_3 : Int) (k_4 : Int) (w : World) : Prop :=
  letW (w.alloc (.cells #[(.bool k_0), (.bool k_1), (.int .i64 k_2), (.int .i64 k_3), (.int .u32 k_4)] 62)) fun w_2 => ∃ t4 : Int, w_2.cell? ((newA w).add 3) = some (.int .i64 t4) ∧ 0 ≤ (IntKind.i64.wrap ((IntKind.i64.wrap (8 * t4)) - 1)) ∧ R (.int .u32 (IntKind.u32.wrap (1 * 2 ^ (min (Int.toNat (IntKind.i64.wrap ((IntKind.i64.wrap (8 * t4)) - 1))) (IntKind.bits .u32))))) w_2

theorem bundle_kind_begin.eq (R : Value → World → Prop) (k_0 : Bool) (k_1 : Bool) (k_2 : Int) (k_3 : Int) (k_4 : Int) (w : World) : fnVC Try.prog none bundle_kind_begin.live Try.f45 R [(.agg #[(.bool k_0), (.bool k_1), (.int .i64 k_2), (.int .i64 k_3), (.int .u32 k_4)])] w = bundle_kind_begin.vc R k_0 k_1 k_2 k_3 k_4 w := by kernel_rfl
set_option maxHeartbeats 4000000 in
theorem bundle_kind_begin.ok {R : Value → World → Prop} {k_0 : Bool} {k_1 : Bool} {k_2 : Int} {k_3 : Int} {k_4 : Int} {w : World} (h : bundle_kind_begin.vc R k_0 k_1 k_2 k_3 k_4 w) : Run Try.prog 45 #[(.agg #[(.bool k_0), (.bool k_1), (.int .i64 k_2), (.int .i64 k_3), (.int .u32 k_4)])] w R := by
  have h2 := Eq.mpr (bundle_kind_begin.eq R k_0 k_1 k_2 k_3 k_4 w) h
  exact fn_sound Try.mixed Try.func45 (by kernel_rfl) h2

/-! ### (riddle/bundle.kind).end: function 46 -/
noncomputable def bundle_kind_end.body : Code := bodyOf Try.f46
def bundle_kind_end.live : Nat → List Nat
  | _ => []
@[reducible] def bundle_kind_end.vc (R : Value → World → Prop) (k_0 : Bool) (k_1 : Bool) (k_2 : Int) (k_3 : Int) (k_4 : Int) (w : World) : Prop :=
  letW (w.alloc (.cells #[(.bool k_0), (.bool k_1), (.int .i64 k_2), (.int .i64 k_3), (.int .u32 k_4)] 62)) fun w_2 => ∃ t4 : Int, w_2.cell? ((newA w).add 3) = some (.int .i64 t4) ∧ 0 ≤ (IntKind.i64.wrap ((IntKind.i64.wrap (8 * t4)) - 2)) ∧ R (.int .u32 (IntKind.u32.wrap (1 * 2 ^ (min (Int.toNat (IntKind.i64.wrap ((IntKind.i64.wrap (8 * t4)) - 2))) (IntKind.bits .u32))))) w_2

theorem bundle_kind_end.eq (R : Value → World → Prop) (k_0 : Bool) (k_1 : Bool) (k_2 : Int) (k_3 : Int) (k_4 : Int) (w : World) : fnVC Try.prog none bundle_kind_end.live Try.f46 R [(.agg #[(.bool k_0), (.bool k_1), (.int .i64 k_2), (.int .i64 k_3), (.int .u32 k_4)])] w = bundle_kind_end.vc R k_0 k_1 k_2 k_3 k_4 w := by kernel_rfl
set_option maxHeartbeats 4000000 in
theorem bundle_kind_end.ok {R : Value → World → Prop} {k_0 : Bool} {k_1 : Bool} {k_2 : Int} {k_3 : Int} {k_4 : Int} {w : World} (h : bundle_kind_end.vc R k_0 k_1 k_2 k_3 k_4 w) : Run Try.prog 46 #[(.agg #[(.bool k_0), (.bool k_1), (.int .i64 k_2), (.int .i64 k_3), (.int .u32 k_4)])] w R := by
  have h2 := Eq.mpr (bundle_kind_end.eq R k_0 k_1 k_2 k_3 k_4 w) h
  exact fn_sound Try.mixed Try.func46 (by kernel_rfl) h2

/-! ### riddle/word.fits: function 58 -/
noncomputable def word_fits.body : Code := bodyOf Try.f58
def word_fits.live : Nat → List Nat
  | _ => []
def word_fits.J0 (R : Value → World → Prop) (t6 : Bool) (w : World) : Prop :=
  R (.bool t6) w

@[reducible] def word_fits.vc (R : Value → World → Prop) (n : Int) (at_ : Int) (size : Int) (w : World) : Prop :=
  ifP ((size : Int) == 1) (ifP (decide ((at_ : Int) ≥ 0)) (word_fits.J0 R (decide ((at_ : Int) ≤ (IntKind.i64.wrap (n - size)))) w) (word_fits.J0 R false w)) (ifP ((size : Int) == 2) (ifP (decide ((at_ : Int) ≥ 0)) (word_fits.J0 R (decide ((at_ : Int) ≤ (IntKind.i64.wrap (n - size)))) w) (word_fits.J0 R false w)) (ifP ((size : Int) == 4) (ifP (decide ((at_ : Int) ≥ 0)) (word_fits.J0 R (decide ((at_ : Int) ≤ (IntKind.i64.wrap (n - size)))) w) (word_fits.J0 R false w)) (word_fits.J0 R false w)))

theorem word_fits.eq (R : Value → World → Prop) (n : Int) (at_ : Int) (size : Int) (w : World) : fnVC Try.prog none word_fits.live Try.f58 R [(.int .i64 n), (.int .i64 at_), (.int .i64 size)] w = word_fits.vc R n at_ size w := by kernel_rfl
set_option maxHeartbeats 4000000 in
theorem word_fits.ok {R : Value → World → Prop} {n : Int} {at_ : Int} {size : Int} {w : World} (h : word_fits.vc R n at_ size w) : Run Try.prog 58 #[(.int .i64 n), (.int .i64 at_), (.int .i64 size)] w R := by
  have h2 := Eq.mpr (word_fits.eq R n at_ size w) h
  exact fn_sound Try.mixed Try.func58 (by kernel_rfl) h2

/-! ### riddle/word.Put: function 47 -/
noncomputable def word_Put.body : Code := bodyOf Try.f47
def word_Put.live : Nat → List Nat
  | 0 => [1, 3, 10, 11]
  | _ => []
noncomputable def word_Put.c0 : Code := sub word_Put.body [1, 1, 1, 0, 1, 0, 0]
def word_Put.K0 (R : Value → World → Prop) : Ex → St → World → Prop := (blockK 0 (thenK (fun st w => code Try.prog none word_Put.live 0 (sub word_Put.body [1, 1, 1, 1]) (retK Try.prog Try.f47 R) st w) (retK Try.prog Try.f47 R)))
def word_Put.L0 (R : Value → World → Prop) (at_ : Int) (v : Int) (outA : Option Addr) (outn : Nat) (outc : Nat) (i : Int) (w : World) : Prop :=
  loopVC (fun K => code Try.prog none word_Put.live 0 word_Put.c0 K) (word_Put.live 0) (word_Put.K0 R) [undef, (.int .i64 at_), undef, (.int .u32 v), undef, undef, undef, undef, undef, undef, (.slice outA outn outc), (.int .i64 i), undef, undef, undef, undef, undef, undef, undef, undef, undef, undef, undef, undef, undef, undef, undef, undef, undef, undef, undef, undef, undef, undef, undef, undef, undef, undef] w
@[reducible] def word_Put.B0 (R : Value → World → Prop) (at_ : Int) (v : Int) (outA : Option Addr) (outn : Nat) (outc : Nat) (i : Int) (w : World) : Prop :=
  ifP (decide ((i : Int) ≥ at_))
    (0 ≤ (i : Int) ∧ (i : Int) < ((outn : Nat) : Int) ∧ ∃ t34p : Addr, outA = some t34p ∧ (∃ u : Value, w.cell? (t34p.add (Int.toNat i * 1)) = some u) ∧ w.frozen? (t34p.add (Int.toNat i * 1)) = false ∧ letW (w.setCell (t34p.add (Int.toNat i * 1)) (.int .u8 (IntKind.u8.wrap v))) fun w_2 => word_Put.L0 R at_ (Int.fdiv v (2 ^ 8)) outA outn outc (IntKind.i64.wrap (i - 1)) w_2)
    (R (.tuple #[(.slice outA outn outc), (.bool true)]) w)

@[reducible] def word_Put.vc (R : Value → World → Prop) (bA : Option Addr) (bn : Nat) (bc : Nat) (at_ : Int) (size : Int) (v : Int) (w : World) : Prop :=
  Run Try.prog 58 #[(.int .i64 ((bn : Nat) : Int)), (.int .i64 at_), (.int .i64 size)] w fun v_2 w_2 => ∃ t16 : Bool, v_2 = (.bool t16) ∧ ifP (!t16)
    (R (.tuple #[(.slice none 0 0), (.bool false)]) w_2)
    (letW (w_2.alloc (.cells #[(.slice bA bn bc)] 24)) fun w_3 => Run Try.prog 30 #[(.slice (some (newA w_2)) 1 1)] w_3 fun v_3 w_4 => ∃ (t20A : Option Addr) (t20n t20c : Nat), v_3 = (.slice t20A t20n t20c) ∧ word_Put.L0 R at_ v t20A t20n t20c (IntKind.i64.wrap ((IntKind.i64.wrap (at_ + size)) - 1)) w_4)

theorem word_Put.B0_eq (R : Value → World → Prop) (at_ : Int) (v : Int) (outA : Option Addr) (outn : Nat) (outc : Nat) (i : Int) (w : World) (ts : Nat → Value) :
    code Try.prog none word_Put.live 0 word_Put.c0 (thenK (fun st w => loopVC (fun K => code Try.prog none word_Put.live 0 word_Put.c0 K) (word_Put.live 0) (word_Put.K0 R) (clearFrom (word_Put.live 0) 0 st) w) (word_Put.K0 R)) (mergeFrom (word_Put.live 0) ts 0 (clearFrom (word_Put.live 0) 0 [undef, (.int .i64 at_), undef, (.int .u32 v), undef, undef, undef, undef, undef, undef, (.slice outA outn outc), (.int .i64 i), undef, undef, undef, undef, undef, undef, undef, undef, undef, undef, undef, undef, undef, undef, undef, undef, undef, undef, undef, undef, undef, undef, undef, undef, undef, undef])) w = word_Put.B0 R at_ v outA outn outc i w := by kernel_rfl
theorem word_Put.L0_step {R : Value → World → Prop} {at_ : Int} {v : Int} {outA : Option Addr} {outn : Nat} {outc : Nat} {i : Int} {w : World} (h : word_Put.B0 R at_ v outA outn outc i w) : word_Put.L0 R at_ v outA outn outc i w :=
  loop_step (live := word_Put.live) (b := 0) (x := word_Put.c0) fun ts => Eq.mpr (word_Put.B0_eq R at_ v outA outn outc i w ts) h
theorem word_Put.eq (R : Value → World → Prop) (bA : Option Addr) (bn : Nat) (bc : Nat) (at_ : Int) (size : Int) (v : Int) (w : World) : fnVC Try.prog none word_Put.live Try.f47 R [(.slice bA bn bc), (.int .i64 at_), (.int .i64 size), (.int .u32 v)] w = word_Put.vc R bA bn bc at_ size v w := by kernel_rfl
set_option maxHeartbeats 4000000 in
theorem word_Put.ok {R : Value → World → Prop} {bA : Option Addr} {bn : Nat} {bc : Nat} {at_ : Int} {size : Int} {v : Int} {w : World} (h : word_Put.vc R bA bn bc at_ size v w) : Run Try.prog 47 #[(.slice bA bn bc), (.int .i64 at_), (.int .i64 size), (.int .u32 v)] w R := by
  have h2 := Eq.mpr (word_Put.eq R bA bn bc at_ size v w) h
  exact fn_sound Try.mixed Try.func47 (by kernel_rfl) h2

/-! ### (riddle/bundle.kind).header: function 31 -/
noncomputable def bundle_kind_header.body : Code := bodyOf Try.f31
def bundle_kind_header.live : Nat → List Nat
  | _ => []
def bundle_kind_header.J2 (R : Value → World → Prop) (bA : Option Addr) (bn : Nat) (bc : Nat) (w : World) : Prop :=
  R (.slice bA bn bc) w

def bundle_kind_header.J1 (R : Value → World → Prop) (k : Addr) (h_ : Int) (w : World) : Prop :=
  ∃ S_ : World → Prop, S_ w.drew ∧ letW w.drew fun w_2 => ∃ t25 : Int, (∀ u : World, S_ u → u.cell? (k.add 3) = some (.int .i64 t25)) ∧ ∃ t28 : Int, (∀ u_2 : World, S_ u_2 → u_2.cell? (k.add 3) = some (.int .i64 t28)) ∧ ∃ (v : Value) (w_3 : World), (Instr.makeSlice 24 (.int .i64 t25) (.int .i64 t25)).run Try.prog w_2 = .ok v w_3 ∧ ∃ (t26A : Option Addr) (t26n t26c : Nat), v = (.slice t26A t26n t26c) ∧ S_ w_3 ∧ Run Try.prog 47 #[(.slice t26A t26n t26c), (.int .i64 0), (.int .i64 t28), (.int .u32 h_)] w_3 fun v_2 w_4 => ∃ (t300A : Option Addr) (t300n t300c : Nat), ∃ t301 : Bool, v_2 = (.tuple #[(.slice t300A t300n t300c), (.bool t301)]) ∧ bundle_kind_header.J2 R t300A t300n t300c w_4

def bundle_kind_header.J0 (R : Value → World → Prop) (last : Bool) (k : Addr) (h_ : Int) (w : World) : Prop :=
  ifP last
    (∃ t20_0 : Bool, w.cell? k = some (.bool t20_0) ∧ ∃ t20_1 : Bool, w.cell? (k.add 1) = some (.bool t20_1) ∧ ∃ t20_2 : Int, w.cell? (k.add 2) = some (.int .i64 t20_2) ∧ ∃ t20_3 : Int, w.cell? (k.add 3) = some (.int .i64 t20_3) ∧ ∃ t20_4 : Int, w.cell? (k.add 4) = some (.int .u32 t20_4) ∧ Run Try.prog 46 #[(.agg #[(.bool t20_0), (.bool t20_1), (.int .i64 t20_2), (.int .i64 t20_3), (.int .u32 t20_4)])] w fun v w_2 => ∃ t21 : Int, v = (.int .u32 t21) ∧ bundle_kind_header.J1 R k (orI .u32 h_ t21) w_2)
    (bundle_kind_header.J1 R k h_ w)

@[reducible] def bundle_kind_header.vc (R : Value → World → Prop) (k_0 : Bool) (k_1 : Bool) (k_2 : Int) (k_3 : Int) (k_4 : Int) (seq : Int) (first : Bool) (last : Bool) (w : World) : Prop :=
  letW (w.alloc (.cells #[(.bool k_0), (.bool k_1), (.int .i64 k_2), (.int .i64 k_3), (.int .u32 k_4)] 62)) fun w_2 => ifP first
    (∃ t15_0 : Bool, w_2.cell? (newA w) = some (.bool t15_0) ∧ ∃ t15_1 : Bool, w_2.cell? ((newA w).add 1) = some (.bool t15_1) ∧ ∃ t15_2 : Int, w_2.cell? ((newA w).add 2) = some (.int .i64 t15_2) ∧ ∃ t15_3 : Int, w_2.cell? ((newA w).add 3) = some (.int .i64 t15_3) ∧ ∃ t15_4 : Int, w_2.cell? ((newA w).add 4) = some (.int .u32 t15_4) ∧ Run Try.prog 45 #[(.agg #[(.bool t15_0), (.bool t15_1), (.int .i64 t15_2), (.int .i64 t15_3), (.int .u32 t15_4)])] w_2 fun v w_3 => ∃ t16 : Int, v = (.int .u32 t16) ∧ bundle_kind_header.J0 R last (newA w) (orI .u32 seq t16) w_3)
    (bundle_kind_header.J0 R last (newA w) seq w_2)

theorem bundle_kind_header.eq (R : Value → World → Prop) (k_0 : Bool) (k_1 : Bool) (k_2 : Int) (k_3 : Int) (k_4 : Int) (seq : Int) (first : Bool) (last : Bool) (w : World) : fnVC Try.prog none bundle_kind_header.live Try.f31 R [(.agg #[(.bool k_0), (.bool k_1), (.int .i64 k_2), (.int .i64 k_3), (.int .u32 k_4)]), (.int .u32 seq), (.bool first), (.bool last)] w = bundle_kind_header.vc R k_0 k_1 k_2 k_3 k_4 seq first last w := by kernel_rfl
set_option maxHeartbeats 4000000 in
theorem bundle_kind_header.ok {R : Value → World → Prop} {k_0 : Bool} {k_1 : Bool} {k_2 : Int} {k_3 : Int} {k_4 : Int} {seq : Int} {first : Bool} {last : Bool} {w : World} (h : bundle_kind_header.vc R k_0 k_1 k_2 k_3 k_4 seq first last w) : Run Try.prog 31 #[(.agg #[(.bool k_0), (.bool k_1), (.int .i64 k_2), (.int .i64 k_3), (.int .u32 k_4)]), (.int .u32 seq), (.bool first), (.bool last)] w R := by
  have h2 := Eq.mpr (bundle_kind_header.eq R k_0 k_1 k_2 k_3 k_4 seq first last w) h
  exact fn_sound Try.mixed Try.func31 (by kernel_rfl) h2

/-! ### riddle/bundle.Split: function 12 -/
noncomputable def bundle_Split.body : Code := bodyOf Try.f12
def bundle_Split.live : Nat → List Nat
  | 1 => [1, 2, 3, 10, 12, 13]
  | _ => []
noncomputable def bundle_Split.c1 : Code := sub bundle_Split.body [1, 1, 1, 1, 0, 1, 0, 0]
def bundle_Split.K1 (R : Value → World → Prop) : Ex → St → World → Prop := (blockK 1 (thenK (fun st w => code Try.prog none bundle_Split.live 0 (sub bundle_Split.body [1, 1, 1, 1, 1]) (retK Try.prog Try.f12 R) st w) (retK Try.prog Try.f12 R)))
def bundle_Split.L1 (R : Value → World → Prop) (bA : Option Addr) (bn : Nat) (bc : Nat) (most : Int) (first : Int) (k : Addr) (outA : Option Addr) (outn : Nat) (outc : Nat) (at_ : Int) (w : World) : Prop :=
  loopVC (fun K => code Try.prog none bundle_Split.live 1 bundle_Split.c1 K) (bundle_Split.live 1) (bundle_Split.K1 R) [undef, (.slice bA bn bc), (.int .i64 most), (.int .u32 first), undef, undef, undef, undef, undef, undef, (.pointer (some k)), undef, (.slice outA outn outc), (.int .i64 at_), undef, undef, undef, undef, undef, undef, undef, undef, undef, undef, undef, undef, undef, undef, undef, undef, undef, undef, undef, undef, undef, undef, undef, undef, undef, undef, undef, undef, undef, undef, undef, undef, undef, undef, undef, undef, undef, undef, undef, undef, undef, undef, undef, undef, undef, undef, undef, undef, undef, undef, undef, undef, undef, undef, undef, undef, undef, undef, undef, undef, undef, undef, undef, undef, undef, undef, undef, undef, undef, undef, undef, undef, undef, undef, undef, undef, undef, undef] w
def bundle_Split.J2 (R : Value → World → Prop) (bA : Option Addr) (bn : Nat) (bc : Nat) (most : Int) (first : Int) (k : Addr) (outA : Option Addr) (outn : Nat) (outc : Nat) (at_ : Int) (w : World) : Prop :=
  bundle_Split.L1 R bA bn bc most first k outA outn outc (IntKind.i64.wrap (at_ + most)) w

def bundle_Split.J1 (R : Value → World → Prop) (bA : Option Addr) (bn : Nat) (bc : Nat) (most : Int) (first : Int) (k : Addr) (outA : Option Addr) (outn : Nat) (outc : Nat) (at_ : Int) (t54 : Bool) (w : World) : Prop :=
  ifP t54
    (∃ t70 : Int, w.cell? (k.add 4) = some (.int .u32 t70) ∧ t70 ≠ 0 ∧ ∃ S_ : World → Prop, S_ w.drew ∧ letW w.drew fun w_2 => ∃ t74_0 : Bool, (∀ u : World, S_ u → u.cell? k = some (.bool t74_0)) ∧ ∃ t74_1 : Bool, (∀ u_2 : World, S_ u_2 → u_2.cell? (k.add 1) = some (.bool t74_1)) ∧ ∃ t74_2 : Int, (∀ u_3 : World, S_ u_3 → u_3.cell? (k.add 2) = some (.int .i64 t74_2)) ∧ ∃ t74_3 : Int, (∀ u_4 : World, S_ u_4 → u_4.cell? (k.add 3) = some (.int .i64 t74_3)) ∧ ∃ t74_4 : Int, (∀ u_5 : World, S_ u_5 → u_5.cell? (k.add 4) = some (.int .u32 t74_4)) ∧ (0 : Int) ≤ at_ ∧ (at_ : Int) ≤ minI (IntKind.i64.wrap (at_ + most)) ((bn : Nat) : Int) ∧ (minI (IntKind.i64.wrap (at_ + most)) ((bn : Nat) : Int) : Int) ≤ ((bc : Nat) : Int) ∧ (letW (w_2.alloc (.cells #[(.int .u8 255), (.int .u8 3), (.int .u8 0), (.int .u8 61)] 5)) fun w_3 => S_ w_3 ∧ Run Try.prog 31 #[(.agg #[(.bool t74_0), (.bool t74_1), (.int .i64 t74_2), (.int .i64 t74_3), (.int .u32 t74_4)]), (.int .u32 (Int.tmod (IntKind.u32.wrap (first + (IntKind.u32.wrap ((outn : Nat) : Int)))) t70)), (.bool ((at_ : Int) == 0)), (.bool ((minI (IntKind.i64.wrap (at_ + most)) ((bn : Nat) : Int) : Int) == ((bn : Nat) : Int)))] w_3 fun v w_4 => ∃ (t82A : Option Addr) (t82n t82c : Nat), v = (.slice t82A t82n t82c) ∧ letW (w_4.alloc (.cells #[(.slice (some (newA w_2)) 4 4), (.slice t82A t82n t82c), (.slice (subA bA bc (Int.toNat at_) 1) ((Int.toNat (minI (IntKind.i64.wrap (at_ + most)) ((bn : Nat) : Int))) - (Int.toNat at_)) (bc - (Int.toNat at_)))] 24)) fun w_5 => Run Try.prog 30 #[(.slice (some (newA w_4)) 3 3)] w_5 fun v_2 w_6 => ∃ (t88A : Option Addr) (t88n t88c : Nat), v_2 = (.slice t88A t88n t88c) ∧ letW (w_6.alloc (.cells #[(.slice t88A t88n t88c)] 24)) fun w_7 => ∃ (v_3 : Value) (w_8 : World), (Builtin.append_ #[26, 26] 26 #[(.slice outA outn outc), (.slice (some (newA w_6)) 1 1)]).run Try.prog w_7 = .ok v_3 w_8 ∧ ∃ (t90A : Option Addr) (t90n t90c : Nat), v_3 = (.slice t90A t90n t90c) ∧ bundle_Split.J2 R bA bn bc most first k t90A t90n t90c at_ w_8) ∧ (Run Try.prog 31 #[(.agg #[(.bool t74_0), (.bool t74_1), (.int .i64 t74_2), (.int .i64 t74_3), (.int .u32 t74_4)]), (.int .u32 (Int.tmod (IntKind.u32.wrap (first + (IntKind.u32.wrap ((outn : Nat) : Int)))) t70)), (.bool ((at_ : Int) == 0)), (.bool ((minI (IntKind.i64.wrap (at_ + most)) ((bn : Nat) : Int) : Int) == ((bn : Nat) : Int)))] w_2 fun v_4 w_9 => ∃ (t82A_2 : Option Addr) (t82n_2 t82c_2 : Nat), v_4 = (.slice t82A_2 t82n_2 t82c_2) ∧ letW (w_9.alloc (.cells #[(.int .u8 255), (.int .u8 3), (.int .u8 0), (.int .u8 61)] 5)) fun w_10 => letW (w_10.alloc (.cells #[(.slice (some (newA w_9)) 4 4), (.slice t82A_2 t82n_2 t82c_2), (.slice (subA bA bc (Int.toNat at_) 1) ((Int.toNat (minI (IntKind.i64.wrap (at_ + most)) ((bn : Nat) : Int))) - (Int.toNat at_)) (bc - (Int.toNat at_)))] 24)) fun w_11 => Run Try.prog 30 #[(.slice (some (newA w_10)) 3 3)] w_11 fun v_5 w_12 => ∃ (t88A_2 : Option Addr) (t88n_2 t88c_2 : Nat), v_5 = (.slice t88A_2 t88n_2 t88c_2) ∧ letW (w_12.alloc (.cells #[(.slice t88A_2 t88n_2 t88c_2)] 24)) fun w_13 => ∃ (v_6 : Value) (w_14 : World), (Builtin.append_ #[26, 26] 26 #[(.slice outA outn outc), (.slice (some (newA w_12)) 1 1)]).run Try.prog w_13 = .ok v_6 w_14 ∧ ∃ (t90A_2 : Option Addr) (t90n_2 t90c_2 : Nat), v_6 = (.slice t90A_2 t90n_2 t90c_2) ∧ bundle_Split.J2 R bA bn bc most first k t90A_2 t90n_2 t90c_2 at_ w_14))
    (R (.tuple #[(.slice outA outn outc), (.int .i64 0)]) w)

@[reducible] def bundle_Split.B1 (R : Value → World → Prop) (bA : Option Addr) (bn : Nat) (bc : Nat) (most : Int) (first : Int) (k : Addr) (outA : Option Addr) (outn : Nat) (outc : Nat) (at_ : Int) (w : World) : Prop :=
  ifP ((at_ : Int) == 0) (bundle_Split.J1 R bA bn bc most first k outA outn outc at_ true w) (bundle_Split.J1 R bA bn bc most first k outA outn outc at_ (decide ((at_ : Int) < ((bn : Nat) : Int))) w)

def bundle_Split.J0 (R : Value → World → Prop) (bA : Option Addr) (bn : Nat) (bc : Nat) (most : Int) (first : Int) (k : Addr) (t24 : Bool) (w : World) : Prop :=
  ifP t24
    (R (.tuple #[(.slice none 0 0), (.int .i64 91)]) w)
    (ifP (decide ((((bn : Nat) : Int) : Int) > 65535))
    (R (.tuple #[(.slice none 0 0), (.int .i64 92)]) w)
    (ifP (decide ((((bn : Nat) : Int) : Int) > (IntKind.i64.wrap (most * 4096))))
    (R (.tuple #[(.slice none 0 0), (.int .i64 93)]) w)
    (bundle_Split.L1 R bA bn bc most first k none 0 0 0 w)))

@[reducible] def bundle_Split.vc (R : Value → World → Prop) (l_0 : Bool) (l_1 : Bool) (l_2 : Int) (bA : Option Addr) (bn : Nat) (bc : Nat) (most : Int) (first : Int) (w : World) : Prop :=
  letW (w.alloc (.cells #[(.bool l_0), (.bool l_1), (.int .i64 l_2)] 23)) fun w_2 => ∃ t17_0 : Bool, w_2.cell? (newA w) = some (.bool t17_0) ∧ ∃ t17_1 : Bool, w_2.cell? ((newA w).add 1) = some (.bool t17_1) ∧ ∃ t17_2 : Int, w_2.cell? ((newA w).add 2) = some (.int .i64 t17_2) ∧ Run Try.prog 29 #[(.agg #[(.bool t17_0), (.bool t17_1), (.int .i64 t17_2)])] w_2 fun v w_3 => ∃ t180_0 : Bool, ∃ t180_1 : Bool, ∃ t180_2 : Int, ∃ t180_3 : Int, ∃ t180_4 : Int, ∃ t181 : Bool, v = (.tuple #[(.agg #[(.bool t180_0), (.bool t180_1), (.int .i64 t180_2), (.int .i64 t180_3), (.int .u32 t180_4)]), (.bool t181)]) ∧ letW (w_3.alloc (.cells #[(.bool false), (.bool false), (.int .i64 0), (.int .i64 0), (.int .u32 0)] 62)) fun w_4 => storeRow (newA w_3) 0 [(.bool t180_0), (.bool t180_1), (.int .i64 t180_2), (.int .i64 t180_3), (.int .u32 t180_4)] w_4 fun w_5 => ifP (!t181)
    (R (.tuple #[(.slice none 0 0), (.int .i64 90)]) w_5)
    (ifP (decide ((most : Int) < 1)) (bundle_Split.J0 R bA bn bc most first (newA w_3) true w_5) (ifP (decide ((most : Int) > 65527)) (bundle_Split.J0 R bA bn bc most first (newA w_3) true w_5) (∃ t34 : Int, w_5.cell? ((newA w_3).add 4) = some (.int .u32 t34) ∧ bundle_Split.J0 R bA bn bc most first (newA w_3) (decide ((first : Int) ≥ t34)) w_5)))

theorem bundle_Split.B1_eq (R : Value → World → Prop) (bA : Option Addr) (bn : Nat) (bc : Nat) (most : Int) (first : Int) (k : Addr) (outA : Option Addr) (outn : Nat) (outc : Nat) (at_ : Int) (w : World) (ts : Nat → Value) :
    code Try.prog none bundle_Split.live 1 bundle_Split.c1 (thenK (fun st w => loopVC (fun K => code Try.prog none bundle_Split.live 1 bundle_Split.c1 K) (bundle_Split.live 1) (bundle_Split.K1 R) (clearFrom (bundle_Split.live 1) 0 st) w) (bundle_Split.K1 R)) (mergeFrom (bundle_Split.live 1) ts 0 (clearFrom (bundle_Split.live 1) 0 [undef, (.slice bA bn bc), (.int .i64 most), (.int .u32 first), undef, undef, undef, undef, undef, undef, (.pointer (some k)), undef, (.slice outA outn outc), (.int .i64 at_), undef, undef, undef, undef, undef, undef, undef, undef, undef, undef, undef, undef, undef, undef, undef, undef, undef, undef, undef, undef, undef, undef, undef, undef, undef, undef, undef, undef, undef, undef, undef, undef, undef, undef, undef, undef, undef, undef, undef, undef, undef, undef, undef, undef, undef, undef, undef, undef, undef, undef, undef, undef, undef, undef, undef, undef, undef, undef, undef, undef, undef, undef, undef, undef, undef, undef, undef, undef, undef, undef, undef, undef, undef, undef, undef, undef, undef, undef])) w = bundle_Split.B1 R bA bn bc most first k outA outn outc at_ w := by kernel_rfl
theorem bundle_Split.L1_step {R : Value → World → Prop} {bA : Option Addr} {bn : Nat} {bc : Nat} {most : Int} {first : Int} {k : Addr} {outA : Option Addr} {outn : Nat} {outc : Nat} {at_ : Int} {w : World} (h : bundle_Split.B1 R bA bn bc most first k outA outn outc at_ w) : bundle_Split.L1 R bA bn bc most first k outA outn outc at_ w :=
  loop_step (live := bundle_Split.live) (b := 1) (x := bundle_Split.c1) fun ts => Eq.mpr (bundle_Split.B1_eq R bA bn bc most first k outA outn outc at_ w ts) h
theorem bundle_Split.eq (R : Value → World → Prop) (l_0 : Bool) (l_1 : Bool) (l_2 : Int) (bA : Option Addr) (bn : Nat) (bc : Nat) (most : Int) (first : Int) (w : World) : fnVC Try.prog none bundle_Split.live Try.f12 R [(.agg #[(.bool l_0), (.bool l_1), (.int .i64 l_2)]), (.slice bA bn bc), (.int .i64 most), (.int .u32 first)] w = bundle_Split.vc R l_0 l_1 l_2 bA bn bc most first w := by kernel_rfl
set_option maxHeartbeats 4000000 in
theorem bundle_Split.ok {R : Value → World → Prop} {l_0 : Bool} {l_1 : Bool} {l_2 : Int} {bA : Option Addr} {bn : Nat} {bc : Nat} {most : Int} {first : Int} {w : World} (h : bundle_Split.vc R l_0 l_1 l_2 bA bn bc most first w) : Run Try.prog 12 #[(.agg #[(.bool l_0), (.bool l_1), (.int .i64 l_2)]), (.slice bA bn bc), (.int .i64 most), (.int .u32 first)] w R := by
  have h2 := Eq.mpr (bundle_Split.eq R l_0 l_1 l_2 bA bn bc most first w) h
  exact fn_sound Try.mixed Try.func12 (by kernel_rfl) h2

/-! ### riddle/riddlelaw0.SpoilBytes: function 16 -/
noncomputable def law0_SpoilBytes.body : Code := bodyOf Try.f16
def law0_SpoilBytes.live : Nat → List Nat
  | 0 => [0, 2, 3]
  | 2 => [0, 4]
  | _ => []
noncomputable def law0_SpoilBytes.c0 : Code := sub law0_SpoilBytes.body [1, 0, 1, 0, 0]
noncomputable def law0_SpoilBytes.c2 : Code := sub law0_SpoilBytes.body [1, 1, 1, 0, 0]
def law0_SpoilBytes.K0 (R : Value → World → Prop) : Ex → St → World → Prop := (blockK 0 (thenK (fun st w => code Try.prog none law0_SpoilBytes.live 0 (sub law0_SpoilBytes.body [1, 1]) (retK Try.prog Try.f16 R) st w) (retK Try.prog Try.f16 R)))
def law0_SpoilBytes.L0 (R : Value → World → Prop) (aA : Option Addr) (an : Nat) (ac : Nat) (fullA : Option Addr) (fulln : Nat) (fullc : Nat) (i : Int) (w : World) : Prop :=
  loopVC (fun K => code Try.prog none law0_SpoilBytes.live 0 law0_SpoilBytes.c0 K) (law0_SpoilBytes.live 0) (law0_SpoilBytes.K0 R) [(.slice aA an ac), undef, (.slice fullA fulln fullc), (.int .i64 i), undef, undef, undef, undef, undef, undef, undef, undef, undef, undef, undef, undef, undef, undef, undef, undef, undef, undef, undef, undef, undef, undef] w
def law0_SpoilBytes.K2 (R : Value → World → Prop) : Ex → St → World → Prop := (blockK 2 (retK Try.prog Try.f16 R))
def law0_SpoilBytes.L2 (R : Value → World → Prop) (aA : Option Addr) (an : Nat) (ac : Nat) (i : Int) (w : World) : Prop :=
  loopVC (fun K => code Try.prog none law0_SpoilBytes.live 2 law0_SpoilBytes.c2 K) (law0_SpoilBytes.live 2) (law0_SpoilBytes.K2 R) [(.slice aA an ac), undef, undef, undef, (.int .i64 i), undef, undef, undef, undef, undef, undef, undef, undef, undef, undef, undef, undef, undef, undef, undef, undef, undef, undef, undef, undef, undef] w
@[reducible] def law0_SpoilBytes.B2 (R : Value → World → Prop) (aA : Option Addr) (an : Nat) (ac : Nat) (i : Int) (w : World) : Prop :=
  ifP (decide ((i : Int) < ((an : Nat) : Int)))
    (0 ≤ (i : Int) ∧ (i : Int) < ((an : Nat) : Int) ∧ ∃ t25p : Addr, aA = some t25p ∧ (∃ u : Value, w.cell? (t25p.add (Int.toNat i * 1)) = some u) ∧ w.frozen? (t25p.add (Int.toNat i * 1)) = false ∧ letW (w.setCell (t25p.add (Int.toNat i * 1)) (.int .u8 201)) fun w_2 => law0_SpoilBytes.L2 R aA an ac (IntKind.i64.wrap (i + 1)) w_2)
    (R (.tuple #[]) w)

@[reducible] def law0_SpoilBytes.B0 (R : Value → World → Prop) (aA : Option Addr) (an : Nat) (ac : Nat) (fullA : Option Addr) (fulln : Nat) (fullc : Nat) (i : Int) (w : World) : Prop :=
  ifP (decide ((i : Int) < ((fulln : Nat) : Int)))
    (0 ≤ (i : Int) ∧ (i : Int) < ((fulln : Nat) : Int) ∧ ∃ t16p : Addr, fullA = some t16p ∧ (∃ u : Value, w.cell? (t16p.add (Int.toNat i * 1)) = some u) ∧ w.frozen? (t16p.add (Int.toNat i * 1)) = false ∧ letW (w.setCell (t16p.add (Int.toNat i * 1)) (.int .u8 201)) fun w_2 => law0_SpoilBytes.L0 R aA an ac fullA fulln fullc (IntKind.i64.wrap (i + 1)) w_2)
    (law0_SpoilBytes.L2 R aA an ac 0 w)

@[reducible] def law0_SpoilBytes.vc (R : Value → World → Prop) (aA : Option Addr) (an : Nat) (ac : Nat) (w : World) : Prop :=
  letW (w.alloc (.cells #[(.int .u8 201)] 5)) fun w_2 => ∃ (v : Value) (w_3 : World), (Builtin.append_ #[24, 24] 24 #[(.slice aA an ac), (.slice (some (newA w)) 1 1)]).run Try.prog w_2 = .ok v w_3 ∧ ∃ (t7A : Option Addr) (t7n t7c : Nat), v = (.slice t7A t7n t7c) ∧ law0_SpoilBytes.L0 R aA an ac t7A t7n t7c 0 w_3

theorem law0_SpoilBytes.B0_eq (R : Value → World → Prop) (aA : Option Addr) (an : Nat) (ac : Nat) (fullA : Option Addr) (fulln : Nat) (fullc : Nat) (i : Int) (w : World) (ts : Nat → Value) :
    code Try.prog none law0_SpoilBytes.live 0 law0_SpoilBytes.c0 (thenK (fun st w => loopVC (fun K => code Try.prog none law0_SpoilBytes.live 0 law0_SpoilBytes.c0 K) (law0_SpoilBytes.live 0) (law0_SpoilBytes.K0 R) (clearFrom (law0_SpoilBytes.live 0) 0 st) w) (law0_SpoilBytes.K0 R)) (mergeFrom (law0_SpoilBytes.live 0) ts 0 (clearFrom (law0_SpoilBytes.live 0) 0 [(.slice aA an ac), undef, (.slice fullA fulln fullc), (.int .i64 i), undef, undef, undef, undef, undef, undef, undef, undef, undef, undef, undef, undef, undef, undef, undef, undef, undef, undef, undef, undef, undef, undef])) w = law0_SpoilBytes.B0 R aA an ac fullA fulln fullc i w := by kernel_rfl
theorem law0_SpoilBytes.L0_step {R : Value → World → Prop} {aA : Option Addr} {an : Nat} {ac : Nat} {fullA : Option Addr} {fulln : Nat} {fullc : Nat} {i : Int} {w : World} (h : law0_SpoilBytes.B0 R aA an ac fullA fulln fullc i w) : law0_SpoilBytes.L0 R aA an ac fullA fulln fullc i w :=
  loop_step (live := law0_SpoilBytes.live) (b := 0) (x := law0_SpoilBytes.c0) fun ts => Eq.mpr (law0_SpoilBytes.B0_eq R aA an ac fullA fulln fullc i w ts) h
theorem law0_SpoilBytes.B2_eq (R : Value → World → Prop) (aA : Option Addr) (an : Nat) (ac : Nat) (i : Int) (w : World) (ts : Nat → Value) :
    code Try.prog none law0_SpoilBytes.live 2 law0_SpoilBytes.c2 (thenK (fun st w => loopVC (fun K => code Try.prog none law0_SpoilBytes.live 2 law0_SpoilBytes.c2 K) (law0_SpoilBytes.live 2) (law0_SpoilBytes.K2 R) (clearFrom (law0_SpoilBytes.live 2) 0 st) w) (law0_SpoilBytes.K2 R)) (mergeFrom (law0_SpoilBytes.live 2) ts 0 (clearFrom (law0_SpoilBytes.live 2) 0 [(.slice aA an ac), undef, undef, undef, (.int .i64 i), undef, undef, undef, undef, undef, undef, undef, undef, undef, undef, undef, undef, undef, undef, undef, undef, undef, undef, undef, undef, undef])) w = law0_SpoilBytes.B2 R aA an ac i w := by kernel_rfl
theorem law0_SpoilBytes.L2_step {R : Value → World → Prop} {aA : Option Addr} {an : Nat} {ac : Nat} {i : Int} {w : World} (h : law0_SpoilBytes.B2 R aA an ac i w) : law0_SpoilBytes.L2 R aA an ac i w :=
  loop_step (live := law0_SpoilBytes.live) (b := 2) (x := law0_SpoilBytes.c2) fun ts => Eq.mpr (law0_SpoilBytes.B2_eq R aA an ac i w ts) h
theorem law0_SpoilBytes.eq (R : Value → World → Prop) (aA : Option Addr) (an : Nat) (ac : Nat) (w : World) : fnVC Try.prog none law0_SpoilBytes.live Try.f16 R [(.slice aA an ac)] w = law0_SpoilBytes.vc R aA an ac w := by kernel_rfl
set_option maxHeartbeats 4000000 in
theorem law0_SpoilBytes.ok {R : Value → World → Prop} {aA : Option Addr} {an : Nat} {ac : Nat} {w : World} (h : law0_SpoilBytes.vc R aA an ac w) : Run Try.prog 16 #[(.slice aA an ac)] w R := by
  have h2 := Eq.mpr (law0_SpoilBytes.eq R aA an ac w) h
  exact fn_sound Try.mixed Try.func16 (by kernel_rfl) h2

/-! ### riddle/riddlelaw0.SameBytes: function 17 -/
noncomputable def law0_SameBytes.body : Code := bodyOf Try.f17
def law0_SameBytes.live : Nat → List Nat
  | 0 => [0, 1, 5]
  | _ => []
noncomputable def law0_SameBytes.c0 : Code := sub law0_SameBytes.body [1, 1, 0, 1, 0, 0]
def law0_SameBytes.K0 (R : Value → World → Prop) : Ex → St → World → Prop := (blockK 0 (thenK (fun st w => code Try.prog none law0_SameBytes.live 0 (sub law0_SameBytes.body [1, 1, 1]) (retK Try.prog Try.f17 R) st w) (retK Try.prog Try.f17 R)))
def law0_SameBytes.L0 (R : Value → World → Prop) (aA : Option Addr) (an : Nat) (ac : Nat) (bA : Option Addr) (bn : Nat) (bc : Nat) (i : Int) (w : World) : Prop :=
  loopVC (fun K => code Try.prog none law0_SameBytes.live 0 law0_SameBytes.c0 K) (law0_SameBytes.live 0) (law0_SameBytes.K0 R) [(.slice aA an ac), (.slice bA bn bc), undef, undef, undef, (.int .i64 i), undef, undef, undef, undef, undef, undef, undef, undef, undef, undef, undef, undef, undef, undef, undef, undef, undef, undef, undef, undef] w
@[reducible] def law0_SameBytes.B0 (R : Value → World → Prop) (aA : Option Addr) (an : Nat) (ac : Nat) (bA : Option Addr) (bn : Nat) (bc : Nat) (i : Int) (w : World) : Prop :=
  ifP (decide ((i : Int) < ((an : Nat) : Int)))
    (letW w.drew fun w_2 => 0 ≤ (i : Int) ∧ (i : Int) < ((an : Nat) : Int) ∧ ∃ t19p : Addr, aA = some t19p ∧ ∃ t20 : Int, w_2.cell? (t19p.add (Int.toNat i * 1)) = some (.int .u8 t20) ∧ 0 ≤ (i : Int) ∧ (i : Int) < ((bn : Nat) : Int) ∧ ∃ t23p : Addr, bA = some t23p ∧ ∃ t24 : Int, w_2.cell? (t23p.add (Int.toNat i * 1)) = some (.int .u8 t24) ∧ ifP ((t20 : Int) != t24)
    (R (.bool false) w_2)
    (law0_SameBytes.L0 R aA an ac bA bn bc (IntKind.i64.wrap (i + 1)) w_2))
    (R (.bool true) w)

@[reducible] def law0_SameBytes.vc (R : Value → World → Prop) (aA : Option Addr) (an : Nat) (ac : Nat) (bA : Option Addr) (bn : Nat) (bc : Nat) (w : World) : Prop :=
  ifP ((((an : Nat) : Int) : Int) != ((bn : Nat) : Int))
    (R (.bool false) w)
    (law0_SameBytes.L0 R aA an ac bA bn bc 0 w)

theorem law0_SameBytes.B0_eq (R : Value → World → Prop) (aA : Option Addr) (an : Nat) (ac : Nat) (bA : Option Addr) (bn : Nat) (bc : Nat) (i : Int) (w : World) (ts : Nat → Value) :
    code Try.prog none law0_SameBytes.live 0 law0_SameBytes.c0 (thenK (fun st w => loopVC (fun K => code Try.prog none law0_SameBytes.live 0 law0_SameBytes.c0 K) (law0_SameBytes.live 0) (law0_SameBytes.K0 R) (clearFrom (law0_SameBytes.live 0) 0 st) w) (law0_SameBytes.K0 R)) (mergeFrom (law0_SameBytes.live 0) ts 0 (clearFrom (law0_SameBytes.live 0) 0 [(.slice aA an ac), (.slice bA bn bc), undef, undef, undef, (.int .i64 i), undef, undef, undef, undef, undef, undef, undef, undef, undef, undef, undef, undef, undef, undef, undef, undef, undef, undef, undef, undef])) w = law0_SameBytes.B0 R aA an ac bA bn bc i w := by kernel_rfl
theorem law0_SameBytes.L0_step {R : Value → World → Prop} {aA : Option Addr} {an : Nat} {ac : Nat} {bA : Option Addr} {bn : Nat} {bc : Nat} {i : Int} {w : World} (h : law0_SameBytes.B0 R aA an ac bA bn bc i w) : law0_SameBytes.L0 R aA an ac bA bn bc i w :=
  loop_step (live := law0_SameBytes.live) (b := 0) (x := law0_SameBytes.c0) fun ts => Eq.mpr (law0_SameBytes.B0_eq R aA an ac bA bn bc i w ts) h
theorem law0_SameBytes.eq (R : Value → World → Prop) (aA : Option Addr) (an : Nat) (ac : Nat) (bA : Option Addr) (bn : Nat) (bc : Nat) (w : World) : fnVC Try.prog none law0_SameBytes.live Try.f17 R [(.slice aA an ac), (.slice bA bn bc)] w = law0_SameBytes.vc R aA an ac bA bn bc w := by kernel_rfl
set_option maxHeartbeats 4000000 in
theorem law0_SameBytes.ok {R : Value → World → Prop} {aA : Option Addr} {an : Nat} {ac : Nat} {bA : Option Addr} {bn : Nat} {bc : Nat} {w : World} (h : law0_SameBytes.vc R aA an ac bA bn bc w) : Run Try.prog 17 #[(.slice aA an ac), (.slice bA bn bc)] w R := by
  have h2 := Eq.mpr (law0_SameBytes.eq R aA an ac bA bn bc w) h
  exact fn_sound Try.mixed Try.func17 (by kernel_rfl) h2

/-! ### riddle/riddlelaw0.KeptBytes: function 13 -/
noncomputable def law0_KeptBytes.body : Code := bodyOf Try.f13
def law0_KeptBytes.live : Nat → List Nat
  | _ => []
def law0_KeptBytes.J0 (R : Value → World → Prop) (fullA : Option Addr) (fulln : Nat) (fullc : Nat) (ok_ : Bool) (w : World) : Prop :=
  Run Try.prog 16 #[(.slice fullA fulln fullc)] w fun v w_2 => v = (.tuple #[]) ∧ R (.bool ok_) w_2

@[reducible] def law0_KeptBytes.vc (R : Value → World → Prop) (lentA : Option Addr) (lentn : Nat) (lentc : Nat) (aA : Option Addr) (an : Nat) (ac : Nat) (w : World) : Prop :=
  (0 : Int) ≤ 0 ∧ (0 : Int) ≤ IntKind.i64.wrap (((lentn : Nat) : Int) + 3) ∧ (IntKind.i64.wrap (((lentn : Nat) : Int) + 3) : Int) ≤ ((lentc : Nat) : Int) ∧ Run Try.prog 17 #[(.slice lentA lentn lentc), (.slice aA an ac)] w fun v w_2 => ∃ t14 : Bool, v = (.bool t14) ∧ ifP t14 ((0 : Int) ≤ ((an : Nat) : Int) ∧ (((an : Nat) : Int) : Int) ≤ (((Int.toNat (IntKind.i64.wrap (((lentn : Nat) : Int) + 3))) - 0 : Nat) : Int) ∧ ((((Int.toNat (IntKind.i64.wrap (((lentn : Nat) : Int) + 3))) - 0 : Nat) : Int) : Int) ≤ ((lentc - 0 : Nat) : Int) ∧ letW (w_2.alloc (.cells #[(.int .u8 201), (.int .u8 201), (.int .u8 201)] 5)) fun w_3 => Run Try.prog 17 #[(.slice (subA (subA lentA lentc 0 1) (lentc - 0) (Int.toNat ((an : Nat) : Int)) 1) (((Int.toNat (IntKind.i64.wrap (((lentn : Nat) : Int) + 3))) - 0) - (Int.toNat ((an : Nat) : Int))) ((lentc - 0) - (Int.toNat ((an : Nat) : Int)))), (.slice (some (newA w_2)) 3 3)] w_3 fun v_2 w_4 => ∃ t21 : Bool, v_2 = (.bool t21) ∧ law0_KeptBytes.J0 R (subA lentA lentc 0 1) ((Int.toNat (IntKind.i64.wrap (((lentn : Nat) : Int) + 3))) - 0) (lentc - 0) t21 w_4) (law0_KeptBytes.J0 R (subA lentA lentc 0 1) ((Int.toNat (IntKind.i64.wrap (((lentn : Nat) : Int) + 3))) - 0) (lentc - 0) false w_2)

theorem law0_KeptBytes.eq (R : Value → World → Prop) (lentA : Option Addr) (lentn : Nat) (lentc : Nat) (aA : Option Addr) (an : Nat) (ac : Nat) (w : World) : fnVC Try.prog none law0_KeptBytes.live Try.f13 R [(.slice lentA lentn lentc), (.slice aA an ac)] w = law0_KeptBytes.vc R lentA lentn lentc aA an ac w := by kernel_rfl
set_option maxHeartbeats 4000000 in
theorem law0_KeptBytes.ok {R : Value → World → Prop} {lentA : Option Addr} {lentn : Nat} {lentc : Nat} {aA : Option Addr} {an : Nat} {ac : Nat} {w : World} (h : law0_KeptBytes.vc R lentA lentn lentc aA an ac w) : Run Try.prog 13 #[(.slice lentA lentn lentc), (.slice aA an ac)] w R := by
  have h2 := Eq.mpr (law0_KeptBytes.eq R lentA lentn lentc aA an ac w) h
  exact fn_sound Try.mixed Try.func13 (by kernel_rfl) h2

/-! ### riddle/riddlelaw0.SameLists: function 15 -/
noncomputable def law0_SameLists.body : Code := bodyOf Try.f15
def law0_SameLists.live : Nat → List Nat
  | 0 => [0, 1, 5]
  | _ => []
noncomputable def law0_SameLists.c0 : Code := sub law0_SameLists.body [1, 1, 0, 1, 0, 0]
def law0_SameLists.K0 (R : Value → World → Prop) : Ex → St → World → Prop := (blockK 0 (thenK (fun st w => code Try.prog none law0_SameLists.live 0 (sub law0_SameLists.body [1, 1, 1]) (retK Try.prog Try.f15 R) st w) (retK Try.prog Try.f15 R)))
def law0_SameLists.L0 (R : Value → World → Prop) (aA : Option Addr) (an : Nat) (ac : Nat) (bA : Option Addr) (bn : Nat) (bc : Nat) (i : Int) (w : World) : Prop :=
  loopVC (fun K => code Try.prog none law0_SameLists.live 0 law0_SameLists.c0 K) (law0_SameLists.live 0) (law0_SameLists.K0 R) [(.slice aA an ac), (.slice bA bn bc), undef, undef, undef, (.int .i64 i), undef, undef, undef, undef, undef, undef, undef, undef, undef, undef, undef, undef, undef, undef, undef, undef, undef, undef, undef, undef, undef] w
@[reducible] def law0_SameLists.B0 (R : Value → World → Prop) (aA : Option Addr) (an : Nat) (ac : Nat) (bA : Option Addr) (bn : Nat) (bc : Nat) (i : Int) (w : World) : Prop :=
  ifP (decide ((i : Int) < ((an : Nat) : Int)))
    (∃ S_ : World → Prop, S_ w.drew ∧ letW w.drew fun w_2 => 0 ≤ (i : Int) ∧ (i : Int) < ((an : Nat) : Int) ∧ ∃ t19p : Addr, aA = some t19p ∧ ∃ (t20A : Option Addr) (t20n t20c : Nat), (∀ u : World, S_ u → u.cell? (t19p.add (Int.toNat i * 1)) = some (.slice t20A t20n t20c)) ∧ 0 ≤ (i : Int) ∧ (i : Int) < ((bn : Nat) : Int) ∧ ∃ t23p : Addr, bA = some t23p ∧ ∃ (t24A : Option Addr) (t24n t24c : Nat), (∀ u_2 : World, S_ u_2 → u_2.cell? (t23p.add (Int.toNat i * 1)) = some (.slice t24A t24n t24c)) ∧ Run Try.prog 17 #[(.slice t20A t20n t20c), (.slice t24A t24n t24c)] w_2 fun v w_3 => ∃ t25 : Bool, v = (.bool t25) ∧ ifP (!t25)
    (R (.bool false) w_3)
    (law0_SameLists.L0 R aA an ac bA bn bc (IntKind.i64.wrap (i + 1)) w_3))
    (R (.bool true) w)

@[reducible] def law0_SameLists.vc (R : Value → World → Prop) (aA : Option Addr) (an : Nat) (ac : Nat) (bA : Option Addr) (bn : Nat) (bc : Nat) (w : World) : Prop :=
  ifP ((((an : Nat) : Int) : Int) != ((bn : Nat) : Int))
    (R (.bool false) w)
    (law0_SameLists.L0 R aA an ac bA bn bc 0 w)

theorem law0_SameLists.B0_eq (R : Value → World → Prop) (aA : Option Addr) (an : Nat) (ac : Nat) (bA : Option Addr) (bn : Nat) (bc : Nat) (i : Int) (w : World) (ts : Nat → Value) :
    code Try.prog none law0_SameLists.live 0 law0_SameLists.c0 (thenK (fun st w => loopVC (fun K => code Try.prog none law0_SameLists.live 0 law0_SameLists.c0 K) (law0_SameLists.live 0) (law0_SameLists.K0 R) (clearFrom (law0_SameLists.live 0) 0 st) w) (law0_SameLists.K0 R)) (mergeFrom (law0_SameLists.live 0) ts 0 (clearFrom (law0_SameLists.live 0) 0 [(.slice aA an ac), (.slice bA bn bc), undef, undef, undef, (.int .i64 i), undef, undef, undef, undef, undef, undef, undef, undef, undef, undef, undef, undef, undef, undef, undef, undef, undef, undef, undef, undef, undef])) w = law0_SameLists.B0 R aA an ac bA bn bc i w := by kernel_rfl
theorem law0_SameLists.L0_step {R : Value → World → Prop} {aA : Option Addr} {an : Nat} {ac : Nat} {bA : Option Addr} {bn : Nat} {bc : Nat} {i : Int} {w : World} (h : law0_SameLists.B0 R aA an ac bA bn bc i w) : law0_SameLists.L0 R aA an ac bA bn bc i w :=
  loop_step (live := law0_SameLists.live) (b := 0) (x := law0_SameLists.c0) fun ts => Eq.mpr (law0_SameLists.B0_eq R aA an ac bA bn bc i w ts) h
theorem law0_SameLists.eq (R : Value → World → Prop) (aA : Option Addr) (an : Nat) (ac : Nat) (bA : Option Addr) (bn : Nat) (bc : Nat) (w : World) : fnVC Try.prog none law0_SameLists.live Try.f15 R [(.slice aA an ac), (.slice bA bn bc)] w = law0_SameLists.vc R aA an ac bA bn bc w := by kernel_rfl
set_option maxHeartbeats 4000000 in
theorem law0_SameLists.ok {R : Value → World → Prop} {aA : Option Addr} {an : Nat} {ac : Nat} {bA : Option Addr} {bn : Nat} {bc : Nat} {w : World} (h : law0_SameLists.vc R aA an ac bA bn bc w) : Run Try.prog 15 #[(.slice aA an ac), (.slice bA bn bc)] w R := by
  have h2 := Eq.mpr (law0_SameLists.eq R aA an ac bA bn bc w) h
  exact fn_sound Try.mixed Try.func15 (by kernel_rfl) h2

/-! ### riddle/bundle.New: function 20 -/
noncomputable def bundle_New.body : Code := bodyOf Try.f20
def bundle_New.live : Nat → List Nat
  | _ => []
@[reducible] def bundle_New.vc (R : Value → World → Prop) (l_0 : Bool) (l_1 : Bool) (l_2 : Int) (next : Int) (w : World) : Prop :=
  letW (w.alloc (.cells #[(.bool l_0), (.bool l_1), (.int .i64 l_2)] 23)) fun w_2 => ∃ t9_0 : Bool, w_2.cell? (newA w) = some (.bool t9_0) ∧ ∃ t9_1 : Bool, w_2.cell? ((newA w).add 1) = some (.bool t9_1) ∧ ∃ t9_2 : Int, w_2.cell? ((newA w).add 2) = some (.int .i64 t9_2) ∧ Run Try.prog 29 #[(.agg #[(.bool t9_0), (.bool t9_1), (.int .i64 t9_2)])] w_2 fun v w_3 => ∃ t100_0 : Bool, ∃ t100_1 : Bool, ∃ t100_2 : Int, ∃ t100_3 : Int, ∃ t100_4 : Int, ∃ t101 : Bool, v = (.tuple #[(.agg #[(.bool t100_0), (.bool t100_1), (.int .i64 t100_2), (.int .i64 t100_3), (.int .u32 t100_4)]), (.bool t101)]) ∧ letW (w_3.alloc (.cells #[(.bool false), (.bool false), (.int .i64 0), (.int .i64 0), (.int .u32 0)] 62)) fun w_4 => storeRow (newA w_3) 0 [(.bool t100_0), (.bool t100_1), (.int .i64 t100_2), (.int .i64 t100_3), (.int .u32 t100_4)] w_4 fun w_5 => ifP (!t101)
    (R (.tuple #[(.pointer none), (.int .i64 90)]) w_5)
    (∃ t17 : Int, w_5.cell? ((newA w_3).add 4) = some (.int .u32 t17) ∧ ifP (decide ((next : Int) ≥ t17))
    (R (.tuple #[(.pointer none), (.int .i64 91)]) w_5)
    (∃ t21_0 : Bool, w_5.cell? (newA w_3) = some (.bool t21_0) ∧ ∃ t21_1 : Bool, w_5.cell? ((newA w_3).add 1) = some (.bool t21_1) ∧ ∃ t21_2 : Int, w_5.cell? ((newA w_3).add 2) = some (.int .i64 t21_2) ∧ ∃ t21_3 : Int, w_5.cell? ((newA w_3).add 3) = some (.int .i64 t21_3) ∧ ∃ t21_4 : Int, w_5.cell? ((newA w_3).add 4) = some (.int .u32 t21_4) ∧ letW (w_5.alloc (.cells #[(.int .u32 next), (.bool t21_0), (.bool t21_1), (.int .i64 t21_2), (.int .i64 t21_3), (.int .u32 t21_4), (.bool false), (.slice none 0 0)] 70)) fun w_6 => R (.tuple #[(.pointer (some (newA w_5))), (.int .i64 0)]) w_6))

theorem bundle_New.eq (R : Value → World → Prop) (l_0 : Bool) (l_1 : Bool) (l_2 : Int) (next : Int) (w : World) : fnVC Try.prog none bundle_New.live Try.f20 R [(.agg #[(.bool l_0), (.bool l_1), (.int .i64 l_2)]), (.int .u32 next)] w = bundle_New.vc R l_0 l_1 l_2 next w := by kernel_rfl
set_option maxHeartbeats 4000000 in
theorem bundle_New.ok {R : Value → World → Prop} {l_0 : Bool} {l_1 : Bool} {l_2 : Int} {next : Int} {w : World} (h : bundle_New.vc R l_0 l_1 l_2 next w) : Run Try.prog 20 #[(.agg #[(.bool l_0), (.bool l_1), (.int .i64 l_2)]), (.int .u32 next)] w R := by
  have h2 := Eq.mpr (bundle_New.eq R l_0 l_1 l_2 next w) h
  exact fn_sound Try.mixed Try.func20 (by kernel_rfl) h2

/-! ### riddle/word.Get: function 52 -/
noncomputable def word_Get.body : Code := bodyOf Try.f52
def word_Get.live : Nat → List Nat
  | 0 => [8, 22, 23, 24]
  | _ => []
noncomputable def word_Get.c0 : Code := sub word_Get.body [1, 1, 1, 0, 1, 0, 0]
def word_Get.K0 (R : Value → World → Prop) : Ex → St → World → Prop := (blockK 0 (thenK (fun st w => code Try.prog none word_Get.live 0 (sub word_Get.body [1, 1, 1, 1]) (retK Try.prog Try.f52 R) st w) (retK Try.prog Try.f52 R)))
def word_Get.L0 (R : Value → World → Prop) (v : Int) (t22A : Option Addr) (t22n : Nat) (t22c : Nat) (t23 : Int) (t24 : Int) (w : World) : Prop :=
  loopVC (fun K => code Try.prog none word_Get.live 0 word_Get.c0 K) (word_Get.live 0) (word_Get.K0 R) [undef, undef, undef, undef, undef, undef, undef, undef, (.int .u32 v), undef, undef, undef, undef, undef, undef, undef, undef, undef, undef, undef, undef, undef, (.slice t22A t22n t22c), (.int .i64 t23), (.int .i64 t24), undef, undef, undef, undef, undef, undef, undef, undef, undef, undef] w
@[reducible] def word_Get.B0 (R : Value → World → Prop) (v : Int) (t22A : Option Addr) (t22n : Nat) (t22c : Nat) (t23 : Int) (t24 : Int) (w : World) : Prop :=
  ifP (decide ((t24 : Int) < t23))
    (0 ≤ (t24 : Int) ∧ (t24 : Int) < ((t22n : Nat) : Int) ∧ ∃ t26p : Addr, t22A = some t26p ∧ ∃ t27 : Int, w.cell? (t26p.add (Int.toNat t24 * 1)) = some (.int .u8 t27) ∧ word_Get.L0 R (orI .u32 (IntKind.u32.wrap (v * 2 ^ 8)) (IntKind.u32.wrap t27)) t22A t22n t22c t23 (IntKind.i64.wrap (t24 + 1)) w)
    (R (.tuple #[(.int .u32 v), (.bool true)]) w)

@[reducible] def word_Get.vc (R : Value → World → Prop) (bA : Option Addr) (bn : Nat) (bc : Nat) (at_ : Int) (size : Int) (w : World) : Prop :=
  Run Try.prog 58 #[(.int .i64 ((bn : Nat) : Int)), (.int .i64 at_), (.int .i64 size)] w fun v w_2 => ∃ t15 : Bool, v = (.bool t15) ∧ ifP (!t15)
    (R (.tuple #[(.int .u32 0), (.bool false)]) w_2)
    ((0 : Int) ≤ at_ ∧ (at_ : Int) ≤ IntKind.i64.wrap (at_ + size) ∧ (IntKind.i64.wrap (at_ + size) : Int) ≤ ((bc : Nat) : Int) ∧ word_Get.L0 R 0 (subA bA bc (Int.toNat at_) 1) ((Int.toNat (IntKind.i64.wrap (at_ + size))) - (Int.toNat at_)) (bc - (Int.toNat at_)) (((Int.toNat (IntKind.i64.wrap (at_ + size))) - (Int.toNat at_) : Nat) : Int) 0 w_2)

theorem word_Get.B0_eq (R : Value → World → Prop) (v : Int) (t22A : Option Addr) (t22n : Nat) (t22c : Nat) (t23 : Int) (t24 : Int) (w : World) (ts : Nat → Value) :
    code Try.prog none word_Get.live 0 word_Get.c0 (thenK (fun st w => loopVC (fun K => code Try.prog none word_Get.live 0 word_Get.c0 K) (word_Get.live 0) (word_Get.K0 R) (clearFrom (word_Get.live 0) 0 st) w) (word_Get.K0 R)) (mergeFrom (word_Get.live 0) ts 0 (clearFrom (word_Get.live 0) 0 [undef, undef, undef, undef, undef, undef, undef, undef, (.int .u32 v), undef, undef, undef, undef, undef, undef, undef, undef, undef, undef, undef, undef, undef, (.slice t22A t22n t22c), (.int .i64 t23), (.int .i64 t24), undef, undef, undef, undef, undef, undef, undef, undef, undef, undef])) w = word_Get.B0 R v t22A t22n t22c t23 t24 w := by kernel_rfl
theorem word_Get.L0_step {R : Value → World → Prop} {v : Int} {t22A : Option Addr} {t22n : Nat} {t22c : Nat} {t23 : Int} {t24 : Int} {w : World} (h : word_Get.B0 R v t22A t22n t22c t23 t24 w) : word_Get.L0 R v t22A t22n t22c t23 t24 w :=
  loop_step (live := word_Get.live) (b := 0) (x := word_Get.c0) fun ts => Eq.mpr (word_Get.B0_eq R v t22A t22n t22c t23 t24 w ts) h
theorem word_Get.eq (R : Value → World → Prop) (bA : Option Addr) (bn : Nat) (bc : Nat) (at_ : Int) (size : Int) (w : World) : fnVC Try.prog none word_Get.live Try.f52 R [(.slice bA bn bc), (.int .i64 at_), (.int .i64 size)] w = word_Get.vc R bA bn bc at_ size w := by kernel_rfl
set_option maxHeartbeats 4000000 in
theorem word_Get.ok {R : Value → World → Prop} {bA : Option Addr} {bn : Nat} {bc : Nat} {at_ : Int} {size : Int} {w : World} (h : word_Get.vc R bA bn bc at_ size w) : Run Try.prog 52 #[(.slice bA bn bc), (.int .i64 at_), (.int .i64 size)] w R := by
  have h2 := Eq.mpr (word_Get.eq R bA bn bc at_ size w) h
  exact fn_sound Try.mixed Try.func52 (by kernel_rfl) h2

/-! ### (riddle/bundle.kind).protocol: function 60 -/
noncomputable def bundle_kind_protocol.body : Code := bodyOf Try.f60
def bundle_kind_protocol.live : Nat → List Nat
  | _ => []
def bundle_kind_protocol.J0 (R : Value → World → Prop) (bA : Option Addr) (bn : Nat) (bc : Nat) (t13 : Bool) (w : World) : Prop :=
  ifP t13
    (0 ≤ (0 : Int) ∧ (0 : Int) < ((bn : Nat) : Int) ∧ ∃ t25p : Addr, bA = some t25p ∧ ∃ t26 : Int, w.cell? (t25p.add (Int.toNat 0 * 1)) = some (.int .u8 t26) ∧ R (.tuple #[(.int .u32 (IntKind.u32.wrap t26)), (.int .i64 1), (.int .i64 0)]) w)
    (0 ≤ (0 : Int) ∧ (0 : Int) < ((bn : Nat) : Int) ∧ ∃ t30p : Addr, bA = some t30p ∧ ∃ t31 : Int, w.cell? (t30p.add (Int.toNat 0 * 1)) = some (.int .u8 t31) ∧ ifP ((andI .u8 t31 1 : Int) == 1)
    (R (.tuple #[(.int .u32 0), (.int .i64 0), (.int .i64 74)]) w)
    (Run Try.prog 52 #[(.slice bA bn bc), (.int .i64 0), (.int .i64 2)] w fun v w_2 => ∃ t360 : Int, ∃ t361 : Bool, v = (.tuple #[(.int .u32 t360), (.bool t361)]) ∧ ifP (!t361)
    (R (.tuple #[(.int .u32 0), (.int .i64 0), (.int .i64 72)]) w_2)
    (ifP ((andI .u32 t360 1 : Int) == 0)
    (R (.tuple #[(.int .u32 0), (.int .i64 0), (.int .i64 74)]) w_2)
    (R (.tuple #[(.int .u32 t360), (.int .i64 2), (.int .i64 0)]) w_2))))

@[reducible] def bundle_kind_protocol.vc (R : Value → World → Prop) (k_0 : Bool) (k_1 : Bool) (k_2 : Int) (k_3 : Int) (k_4 : Int) (bA : Option Addr) (bn : Nat) (bc : Nat) (w : World) : Prop :=
  letW (w.alloc (.cells #[(.bool k_0), (.bool k_1), (.int .i64 k_2), (.int .i64 k_3), (.int .u32 k_4)] 62)) fun w_2 => ifP ((((bn : Nat) : Int) : Int) == 0)
    (R (.tuple #[(.int .u32 0), (.int .i64 0), (.int .i64 72)]) w_2)
    (0 ≤ (0 : Int) ∧ (0 : Int) < ((bn : Nat) : Int) ∧ ∃ t15p : Addr, bA = some t15p ∧ ∃ t16 : Int, w_2.cell? (t15p.add (Int.toNat 0 * 1)) = some (.int .u8 t16) ∧ ifP ((andI .u8 t16 1 : Int) == 1) (∃ t22 : Bool, w_2.cell? ((newA w).add 1) = some (.bool t22) ∧ bundle_kind_protocol.J0 R bA bn bc t22 w_2) (bundle_kind_protocol.J0 R bA bn bc false w_2))

theorem bundle_kind_protocol.eq (R : Value → World → Prop) (k_0 : Bool) (k_1 : Bool) (k_2 : Int) (k_3 : Int) (k_4 : Int) (bA : Option Addr) (bn : Nat) (bc : Nat) (w : World) : fnVC Try.prog none bundle_kind_protocol.live Try.f60 R [(.agg #[(.bool k_0), (.bool k_1), (.int .i64 k_2), (.int .i64 k_3), (.int .u32 k_4)]), (.slice bA bn bc)] w = bundle_kind_protocol.vc R k_0 k_1 k_2 k_3 k_4 bA bn bc w := by kernel_rfl
set_option maxHeartbeats 4000000 in
theorem bundle_kind_protocol.ok {R : Value → World → Prop} {k_0 : Bool} {k_1 : Bool} {k_2 : Int} {k_3 : Int} {k_4 : Int} {bA : Option Addr} {bn : Nat} {bc : Nat} {w : World} (h : bundle_kind_protocol.vc R k_0 k_1 k_2 k_3 k_4 bA bn bc w) : Run Try.prog 60 #[(.agg #[(.bool k_0), (.bool k_1), (.int .i64 k_2), (.int .i64 k_3), (.int .u32 k_4)]), (.slice bA bn bc)] w R := by
  have h2 := Eq.mpr (bundle_kind_protocol.eq R k_0 k_1 k_2 k_3 k_4 bA bn bc w) h
  exact fn_sound Try.mixed Try.func60 (by kernel_rfl) h2

/-! ### (riddle/bundle.kind).past: function 51 -/
noncomputable def bundle_kind_past.body : Code := bodyOf Try.f51
def bundle_kind_past.live : Nat → List Nat
  | _ => []
def bundle_kind_past.J3 (R : Value → World → Prop) (at_ : Int) (size : Int) (e : Int) (w : World) : Prop :=
  R (.tuple #[(.int .i64 (IntKind.i64.wrap (at_ + size))), (.int .i64 e)]) w

def bundle_kind_past.J2 (R : Value → World → Prop) (at_ : Int) (size : Int) (e : Int) (t59 : Bool) (w : World) : Prop :=
  ifP t59
    (bundle_kind_past.J3 R at_ size 94 w)
    (bundle_kind_past.J3 R at_ size e w)

def bundle_kind_past.J1 (R : Value → World → Prop) (bA : Option Addr) (bn : Nat) (bc : Nat) (k : Addr) (at_ : Int) (w : World) : Prop :=
  ∃ S_ : World → Prop, S_ w.drew ∧ letW w.drew fun w_2 => ∃ t46_0 : Bool, (∀ u : World, S_ u → u.cell? k = some (.bool t46_0)) ∧ ∃ t46_1 : Bool, (∀ u_2 : World, S_ u_2 → u_2.cell? (k.add 1) = some (.bool t46_1)) ∧ ∃ t46_2 : Int, (∀ u_3 : World, S_ u_3 → u_3.cell? (k.add 2) = some (.int .i64 t46_2)) ∧ ∃ t46_3 : Int, (∀ u_4 : World, S_ u_4 → u_4.cell? (k.add 3) = some (.int .i64 t46_3)) ∧ ∃ t46_4 : Int, (∀ u_5 : World, S_ u_5 → u_5.cell? (k.add 4) = some (.int .u32 t46_4)) ∧ (0 : Int) ≤ at_ ∧ (at_ : Int) ≤ ((bn : Nat) : Int) ∧ (((bn : Nat) : Int) : Int) ≤ ((bc : Nat) : Int) ∧ Run Try.prog 60 #[(.agg #[(.bool t46_0), (.bool t46_1), (.int .i64 t46_2), (.int .i64 t46_3), (.int .u32 t46_4)]), (.slice (subA bA bc (Int.toNat at_) 1) (bn - (Int.toNat at_)) (bc - (Int.toNat at_)))] w_2 fun v w_3 => ∃ t500 : Int, ∃ t501 : Int, ∃ t502 : Int, v = (.tuple #[(.int .u32 t500), (.int .i64 t501), (.int .i64 t502)]) ∧ ifP ((t502 : Int) == 0) (bundle_kind_past.J2 R at_ t501 t502 ((t500 : Int) != 61) w_3) (bundle_kind_past.J2 R at_ t501 t502 false w_3)

def bundle_kind_past.J4 (R : Value → World → Prop) (bA : Option Addr) (bn : Nat) (bc : Nat) (k : Addr) (at_ : Int) (t30 : Bool) (w : World) : Prop :=
  ifP t30
    (R (.tuple #[(.int .i64 0), (.int .i64 72)]) w)
    (∃ t43 : Bool, w.cell? k = some (.bool t43) ∧ ifP (!t43)
    (R (.tuple #[(.int .i64 0), (.int .i64 73)]) w)
    (bundle_kind_past.J1 R bA bn bc k at_ w))

def bundle_kind_past.J0 (R : Value → World → Prop) (bA : Option Addr) (bn : Nat) (bc : Nat) (k : Addr) (at_ : Int) (t14 : Bool) (w : World) : Prop :=
  ifP t14
    (bundle_kind_past.J1 R bA bn bc k 2 w)
    (∃ t33 : Bool, w.cell? k = some (.bool t33) ∧ ifP (!t33) (bundle_kind_past.J4 R bA bn bc k at_ (decide ((((bn : Nat) : Int) : Int) < 2)) w) (bundle_kind_past.J4 R bA bn bc k at_ false w))

@[reducible] def bundle_kind_past.vc (R : Value → World → Prop) (k_0 : Bool) (k_1 : Bool) (k_2 : Int) (k_3 : Int) (k_4 : Int) (bA : Option Addr) (bn : Nat) (bc : Nat) (w : World) : Prop :=
  letW (w.alloc (.cells #[(.bool k_0), (.bool k_1), (.int .i64 k_2), (.int .i64 k_3), (.int .u32 k_4)] 62)) fun w_2 => ifP (decide ((((bn : Nat) : Int) : Int) > 65535))
    (R (.tuple #[(.int .i64 0), (.int .i64 71)]) w_2)
    (ifP (decide ((((bn : Nat) : Int) : Int) ≥ 2)) (0 ≤ (0 : Int) ∧ (0 : Int) < ((bn : Nat) : Int) ∧ ∃ t20p : Addr, bA = some t20p ∧ ∃ t21 : Int, w_2.cell? (t20p.add (Int.toNat 0 * 1)) = some (.int .u8 t21) ∧ ifP ((t21 : Int) == 255) (0 ≤ (1 : Int) ∧ (1 : Int) < ((bn : Nat) : Int) ∧ ∃ t26p : Addr, bA = some t26p ∧ ∃ t27 : Int, w_2.cell? (t26p.add (Int.toNat 1 * 1)) = some (.int .u8 t27) ∧ bundle_kind_past.J0 R bA bn bc (newA w) 0 ((t27 : Int) == 3) w_2) (bundle_kind_past.J0 R bA bn bc (newA w) 0 false w_2)) (bundle_kind_past.J0 R bA bn bc (newA w) 0 false w_2))

theorem bundle_kind_past.eq (R : Value → World → Prop) (k_0 : Bool) (k_1 : Bool) (k_2 : Int) (k_3 : Int) (k_4 : Int) (bA : Option Addr) (bn : Nat) (bc : Nat) (w : World) : fnVC Try.prog none bundle_kind_past.live Try.f51 R [(.agg #[(.bool k_0), (.bool k_1), (.int .i64 k_2), (.int .i64 k_3), (.int .u32 k_4)]), (.slice bA bn bc)] w = bundle_kind_past.vc R k_0 k_1 k_2 k_3 k_4 bA bn bc w := by kernel_rfl
set_option maxHeartbeats 4000000 in
theorem bundle_kind_past.ok {R : Value → World → Prop} {k_0 : Bool} {k_1 : Bool} {k_2 : Int} {k_3 : Int} {k_4 : Int} {bA : Option Addr} {bn : Nat} {bc : Nat} {w : World} (h : bundle_kind_past.vc R k_0 k_1 k_2 k_3 k_4 bA bn bc w) : Run Try.prog 51 #[(.agg #[(.bool k_0), (.bool k_1), (.int .i64 k_2), (.int .i64 k_3), (.int .u32 k_4)]), (.slice bA bn bc)] w R := by
  have h2 := Eq.mpr (bundle_kind_past.eq R k_0 k_1 k_2 k_3 k_4 bA bn bc w) h
  exact fn_sound Try.mixed Try.func51 (by kernel_rfl) h2

/-! ### (riddle/bundle.kind).read: function 33 -/
noncomputable def bundle_kind_read.body : Code := bodyOf Try.f33
def bundle_kind_read.live : Nat → List Nat
  | _ => []
def bundle_kind_read.J1 (R : Value → World → Prop) (t4 : Addr) (t5 : Int) (w : World) : Prop :=
  ∃ t4_0 : Int, w.cell? t4 = some (.int .u32 t4_0) ∧ ∃ t4_1 : Bool, w.cell? (t4.add 1) = some (.bool t4_1) ∧ ∃ t4_2 : Bool, w.cell? (t4.add 2) = some (.bool t4_2) ∧ ∃ (t4_3A : Option Addr) (t4_3n t4_3c : Nat), w.cell? (t4.add 3) = some (.slice t4_3A t4_3n t4_3c) ∧ R (.tuple #[(.agg #[(.int .u32 t4_0), (.bool t4_1), (.bool t4_2), (.slice t4_3A t4_3n t4_3c)]), (.int .i64 t5)]) w

def bundle_kind_read.J0 (R : Value → World → Prop) (bA : Option Addr) (bn : Nat) (bc : Nat) (k : Addr) (t4 : Addr) (at_ : Int) (h_ : Int) (t42 : Bool) (w : World) : Prop :=
  ifP t42
    (storeRow t4 0 [(.int .u32 0), (.bool false), (.bool false), (.slice none 0 0)] w fun w_2 => ∃ t4_0 : Int, w_2.cell? t4 = some (.int .u32 t4_0) ∧ ∃ t4_1 : Bool, w_2.cell? (t4.add 1) = some (.bool t4_1) ∧ ∃ t4_2 : Bool, w_2.cell? (t4.add 2) = some (.bool t4_2) ∧ ∃ (t4_3A : Option Addr) (t4_3n t4_3c : Nat), w_2.cell? (t4.add 3) = some (.slice t4_3A t4_3n t4_3c) ∧ R (.tuple #[(.agg #[(.int .u32 t4_0), (.bool t4_1), (.bool t4_2), (.slice t4_3A t4_3n t4_3c)]), (.int .i64 75)]) w_2)
    (∃ S_ : World → Prop, S_ w.drew ∧ letW w.drew fun w_3 => ∃ t46 : Int, (∀ u : World, S_ u → u.cell? (k.add 4) = some (.int .u32 t46)) ∧ ∃ t50_0 : Bool, (∀ u_2 : World, S_ u_2 → u_2.cell? k = some (.bool t50_0)) ∧ ∃ t50_1 : Bool, (∀ u_3 : World, S_ u_3 → u_3.cell? (k.add 1) = some (.bool t50_1)) ∧ ∃ t50_2 : Int, (∀ u_4 : World, S_ u_4 → u_4.cell? (k.add 2) = some (.int .i64 t50_2)) ∧ ∃ t50_3 : Int, (∀ u_5 : World, S_ u_5 → u_5.cell? (k.add 3) = some (.int .i64 t50_3)) ∧ ∃ t50_4 : Int, (∀ u_6 : World, S_ u_6 → u_6.cell? (k.add 4) = some (.int .u32 t50_4)) ∧ ∃ t55_0 : Bool, (∀ u_7 : World, S_ u_7 → u_7.cell? k = some (.bool t55_0)) ∧ ∃ t55_1 : Bool, (∀ u_8 : World, S_ u_8 → u_8.cell? (k.add 1) = some (.bool t55_1)) ∧ ∃ t55_2 : Int, (∀ u_9 : World, S_ u_9 → u_9.cell? (k.add 2) = some (.int .i64 t55_2)) ∧ ∃ t55_3 : Int, (∀ u_10 : World, S_ u_10 → u_10.cell? (k.add 3) = some (.int .i64 t55_3)) ∧ ∃ t55_4 : Int, (∀ u_11 : World, S_ u_11 → u_11.cell? (k.add 4) = some (.int .u32 t55_4)) ∧ ∃ t62 : Int, (∀ u_12 : World, S_ u_12 → u_12.cell? (k.add 3) = some (.int .i64 t62)) ∧ (0 : Int) ≤ IntKind.i64.wrap (at_ + t62) ∧ (IntKind.i64.wrap (at_ + t62) : Int) ≤ ((bn : Nat) : Int) ∧ (((bn : Nat) : Int) : Int) ≤ ((bc : Nat) : Int) ∧ Run Try.prog 45 #[(.agg #[(.bool t50_0), (.bool t50_1), (.int .i64 t50_2), (.int .i64 t50_3), (.int .u32 t50_4)])] w_3 fun v w_4 => ∃ t51 : Int, v = (.int .u32 t51) ∧ S_ w_4 ∧ Run Try.prog 46 #[(.agg #[(.bool t55_0), (.bool t55_1), (.int .i64 t55_2), (.int .i64 t55_3), (.int .u32 t55_4)])] w_4 fun v_2 w_5 => ∃ t56 : Int, v_2 = (.int .u32 t56) ∧ S_ w_5 ∧ storeRow t4 0 [(.int .u32 (andI .u32 h_ (IntKind.u32.wrap (t46 - 1)))), (.bool ((andI .u32 h_ t51 : Int) != 0)), (.bool ((andI .u32 h_ t56 : Int) != 0)), (.slice (subA bA bc (Int.toNat (IntKind.i64.wrap (at_ + t62))) 1) (bn - (Int.toNat (IntKind.i64.wrap (at_ + t62)))) (bc - (Int.toNat (IntKind.i64.wrap (at_ + t62)))))] w_5 fun w_6 => bundle_kind_read.J1 R t4 0 w_6)

@[reducible] def bundle_kind_read.vc (R : Value → World → Prop) (k_0 : Bool) (k_1 : Bool) (k_2 : Int) (k_3 : Int) (k_4 : Int) (bA : Option Addr) (bn : Nat) (bc : Nat) (w : World) : Prop :=
  letW (w.alloc (.cells #[(.bool k_0), (.bool k_1), (.int .i64 k_2), (.int .i64 k_3), (.int .u32 k_4)] 62)) fun w_2 => letW (w_2.alloc (.cells #[(.int .u32 0), (.bool false), (.bool false), (.slice none 0 0)] 73)) fun w_3 => ∃ t11_0 : Bool, w_3.cell? (newA w) = some (.bool t11_0) ∧ ∃ t11_1 : Bool, w_3.cell? ((newA w).add 1) = some (.bool t11_1) ∧ ∃ t11_2 : Int, w_3.cell? ((newA w).add 2) = some (.int .i64 t11_2) ∧ ∃ t11_3 : Int, w_3.cell? ((newA w).add 3) = some (.int .i64 t11_3) ∧ ∃ t11_4 : Int, w_3.cell? ((newA w).add 4) = some (.int .u32 t11_4) ∧ Run Try.prog 51 #[(.agg #[(.bool t11_0), (.bool t11_1), (.int .i64 t11_2), (.int .i64 t11_3), (.int .u32 t11_4)]), (.slice bA bn bc)] w_3 fun v w_4 => ∃ t130 : Int, ∃ t131 : Int, v = (.tuple #[(.int .i64 t130), (.int .i64 t131)]) ∧ ifP ((t131 : Int) != 0)
    (storeRow (newA w_2) 0 [(.int .u32 0), (.bool false), (.bool false), (.slice none 0 0)] w_4 fun w_5 => ∃ t4_0 : Int, w_5.cell? (newA w_2) = some (.int .u32 t4_0) ∧ ∃ t4_1 : Bool, w_5.cell? ((newA w_2).add 1) = some (.bool t4_1) ∧ ∃ t4_2 : Bool, w_5.cell? ((newA w_2).add 2) = some (.bool t4_2) ∧ ∃ (t4_3A : Option Addr) (t4_3n t4_3c : Nat), w_5.cell? ((newA w_2).add 3) = some (.slice t4_3A t4_3n t4_3c) ∧ R (.tuple #[(.agg #[(.int .u32 t4_0), (.bool t4_1), (.bool t4_2), (.slice t4_3A t4_3n t4_3c)]), (.int .i64 t131)]) w_5)
    (∃ t24 : Int, w_4.cell? ((newA w).add 3) = some (.int .i64 t24) ∧ Run Try.prog 52 #[(.slice bA bn bc), (.int .i64 t130), (.int .i64 t24)] w_4 fun v_2 w_6 => ∃ t250 : Int, ∃ t251 : Bool, v_2 = (.tuple #[(.int .u32 t250), (.bool t251)]) ∧ ifP (!t251)
    (storeRow (newA w_2) 0 [(.int .u32 0), (.bool false), (.bool false), (.slice none 0 0)] w_6 fun w_7 => ∃ t4_0_2 : Int, w_7.cell? (newA w_2) = some (.int .u32 t4_0_2) ∧ ∃ t4_1_2 : Bool, w_7.cell? ((newA w_2).add 1) = some (.bool t4_1_2) ∧ ∃ t4_2_2 : Bool, w_7.cell? ((newA w_2).add 2) = some (.bool t4_2_2) ∧ ∃ (t4_3A_2 : Option Addr) (t4_3n_2 t4_3c_2 : Nat), w_7.cell? ((newA w_2).add 3) = some (.slice t4_3A_2 t4_3n_2 t4_3c_2) ∧ R (.tuple #[(.agg #[(.int .u32 t4_0_2), (.bool t4_1_2), (.bool t4_2_2), (.slice t4_3A_2 t4_3n_2 t4_3c_2)]), (.int .i64 72)]) w_7)
    (∃ S_ : World → Prop, S_ w_6.drew ∧ letW w_6.drew fun w_8 => ∃ t32_0 : Bool, (∀ u : World, S_ u → u.cell? (newA w) = some (.bool t32_0)) ∧ ∃ t32_1 : Bool, (∀ u_2 : World, S_ u_2 → u_2.cell? ((newA w).add 1) = some (.bool t32_1)) ∧ ∃ t32_2 : Int, (∀ u_3 : World, S_ u_3 → u_3.cell? ((newA w).add 2) = some (.int .i64 t32_2)) ∧ ∃ t32_3 : Int, (∀ u_4 : World, S_ u_4 → u_4.cell? ((newA w).add 3) = some (.int .i64 t32_3)) ∧ ∃ t32_4 : Int, (∀ u_5 : World, S_ u_5 → u_5.cell? ((newA w).add 4) = some (.int .u32 t32_4)) ∧ ∃ t34_0 : Bool, (∀ u_6 : World, S_ u_6 → u_6.cell? (newA w) = some (.bool t34_0)) ∧ ∃ t34_1 : Bool, (∀ u_7 : World, S_ u_7 → u_7.cell? ((newA w).add 1) = some (.bool t34_1)) ∧ ∃ t34_2 : Int, (∀ u_8 : World, S_ u_8 → u_8.cell? ((newA w).add 2) = some (.int .i64 t34_2)) ∧ ∃ t34_3 : Int, (∀ u_9 : World, S_ u_9 → u_9.cell? ((newA w).add 3) = some (.int .i64 t34_3)) ∧ ∃ t34_4 : Int, (∀ u_10 : World, S_ u_10 → u_10.cell? ((newA w).add 4) = some (.int .u32 t34_4)) ∧ ∃ t38 : Int, (∀ u_11 : World, S_ u_11 → u_11.cell? ((newA w).add 4) = some (.int .u32 t38)) ∧ Run Try.prog 45 #[(.agg #[(.bool t32_0), (.bool t32_1), (.int .i64 t32_2), (.int .i64 t32_3), (.int .u32 t32_4)])] w_8 fun v_3 w_9 => ∃ t33 : Int, v_3 = (.int .u32 t33) ∧ S_ w_9 ∧ Run Try.prog 46 #[(.agg #[(.bool t34_0), (.bool t34_1), (.int .i64 t34_2), (.int .i64 t34_3), (.int .u32 t34_4)])] w_9 fun v_4 w_10 => ∃ t35 : Int, v_4 = (.int .u32 t35) ∧ S_ w_10 ∧ bundle_kind_read.J0 R bA bn bc (newA w) (newA w_2) t130 t250 ((andNotI .u32 t250 (orI .u32 (orI .u32 t33 t35) (IntKind.u32.wrap (t38 - 1))) : Int) != 0) w_10))

theorem bundle_kind_read.eq (R : Value → World → Prop) (k_0 : Bool) (k_1 : Bool) (k_2 : Int) (k_3 : Int) (k_4 : Int) (bA : Option Addr) (bn : Nat) (bc : Nat) (w : World) : fnVC Try.prog none bundle_kind_read.live Try.f33 R [(.agg #[(.bool k_0), (.bool k_1), (.int .i64 k_2), (.int .i64 k_3), (.int .u32 k_4)]), (.slice bA bn bc)] w = bundle_kind_read.vc R k_0 k_1 k_2 k_3 k_4 bA bn bc w := by kernel_rfl
set_option maxHeartbeats 4000000 in
theorem bundle_kind_read.ok {R : Value → World → Prop} {k_0 : Bool} {k_1 : Bool} {k_2 : Int} {k_3 : Int} {k_4 : Int} {bA : Option Addr} {bn : Nat} {bc : Nat} {w : World} (h : bundle_kind_read.vc R k_0 k_1 k_2 k_3 k_4 bA bn bc w) : Run Try.prog 33 #[(.agg #[(.bool k_0), (.bool k_1), (.int .i64 k_2), (.int .i64 k_3), (.int .u32 k_4)]), (.slice bA bn bc)] w R := by
  have h2 := Eq.mpr (bundle_kind_read.eq R k_0 k_1 k_2 k_3 k_4 bA bn bc w) h
  exact fn_sound Try.mixed Try.func33 (by kernel_rfl) h2

/-! ### (*riddle/bundle.Bundle).forget: function 34 -/
noncomputable def bundle_Bundle_forget.body : Code := bodyOf Try.f34
def bundle_Bundle_forget.live : Nat → List Nat
  | _ => []
@[reducible] def bundle_Bundle_forget.vc (R : Value → World → Prop) (u : Option Addr) (w : World) : Prop :=
  ∃ t4p : Addr, u = some t4p ∧ (∃ u : Value, w.cell? (t4p.add 6) = some u) ∧ w.frozen? (t4p.add 6) = false ∧ letW (w.setCell (t4p.add 6) (.bool false)) fun w_2 => ∃ t6p : Addr, u = some t6p ∧ (∃ u : Value, w_2.cell? (t6p.add 7) = some u) ∧ w_2.frozen? (t6p.add 7) = false ∧ letW (w_2.setCell (t6p.add 7) (.slice none 0 0)) fun w_3 => R (.tuple #[]) w_3

theorem bundle_Bundle_forget.eq (R : Value → World → Prop) (u : Option Addr) (w : World) : fnVC Try.prog none bundle_Bundle_forget.live Try.f34 R [(.pointer u)] w = bundle_Bundle_forget.vc R u w := by kernel_rfl
set_option maxHeartbeats 4000000 in
theorem bundle_Bundle_forget.ok {R : Value → World → Prop} {u : Option Addr} {w : World} (h : bundle_Bundle_forget.vc R u w) : Run Try.prog 34 #[(.pointer u)] w R := by
  have h2 := Eq.mpr (bundle_Bundle_forget.eq R u w) h
  exact fn_sound Try.mixed Try.func34 (by kernel_rfl) h2

/-! ### (*riddle/bundle.waits).pass: function 35 -/
noncomputable def bundle_waits_pass.body : Code := bodyOf Try.f35
def bundle_waits_pass.live : Nat → List Nat
  | _ => []
@[reducible] def bundle_waits_pass.vc (R : Value → World → Prop) (w : Option Addr) (seq : Int) (space : Int) (w_2 : World) : Prop :=
  space ≠ 0 ∧ ∃ t11p : Addr, w = some t11p ∧ (∃ u : Value, w_2.cell? t11p = some u) ∧ w_2.frozen? t11p = false ∧ letW (w_2.setCell t11p (.int .u32 (Int.tmod (IntKind.u32.wrap (seq + 1)) space))) fun w_3 => R (.tuple #[]) w_3

theorem bundle_waits_pass.eq (R : Value → World → Prop) (w : Option Addr) (seq : Int) (space : Int) (w_2 : World) : fnVC Try.prog none bundle_waits_pass.live Try.f35 R [(.pointer w), (.int .u32 seq), (.int .u32 space)] w_2 = bundle_waits_pass.vc R w seq space w_2 := by kernel_rfl
set_option maxHeartbeats 4000000 in
theorem bundle_waits_pass.ok {R : Value → World → Prop} {w : Option Addr} {seq : Int} {space : Int} {w_2 : World} (h : bundle_waits_pass.vc R w seq space w_2) : Run Try.prog 35 #[(.pointer w), (.int .u32 seq), (.int .u32 space)] w_2 R := by
  have h2 := Eq.mpr (bundle_waits_pass.eq R w seq space w_2) h
  exact fn_sound Try.mixed Try.func35 (by kernel_rfl) h2

/-! ### (*riddle/bundle.Bundle).Feed: function 22 -/
noncomputable def bundle_Bundle_Feed.body : Code := bodyOf Try.f22
def bundle_Bundle_Feed.live : Nat → List Nat
  | _ => []
def bundle_Bundle_Feed.J2 (R : Value → World → Prop) (u : Option Addr) (p : Addr) (w : World) : Prop :=
  ∃ t66p : Addr, u = some t66p ∧ ∃ (t68A : Option Addr) (t68n t68c : Nat), w.cell? (t66p.add 7) = some (.slice t68A t68n t68c) ∧ ifP (decide ((((t68n : Nat) : Int) : Int) > 65535))
    (Run Try.prog 34 #[(.pointer u)] w fun v w_2 => v = (.tuple #[]) ∧ R (.tuple #[(.slice none 0 0), (.bool false), (.int .i64 0)]) w_2)
    (∃ t74 : Bool, w.cell? (p.add 2) = some (.bool t74) ∧ ifP (!t74)
    (R (.tuple #[(.slice none 0 0), (.bool false), (.int .i64 0)]) w)
    (∃ t77p : Addr, u = some t77p ∧ ∃ (t79A : Option Addr) (t79n t79c : Nat), w.cell? (t77p.add 7) = some (.slice t79A t79n t79c) ∧ letW (w.alloc (.cells #[(.slice t79A t79n t79c)] 24)) fun w_3 => Run Try.prog 30 #[(.slice (some (newA w)) 1 1)] w_3 fun v_2 w_4 => ∃ (t81A : Option Addr) (t81n t81c : Nat), v_2 = (.slice t81A t81n t81c) ∧ Run Try.prog 34 #[(.pointer u)] w_4 fun v_3 w_5 => v_3 = (.tuple #[]) ∧ R (.tuple #[(.slice t81A t81n t81c), (.bool true), (.int .i64 0)]) w_5))

def bundle_Bundle_Feed.J1 (R : Value → World → Prop) (u : Option Addr) (p : Addr) (w : World) : Prop :=
  ∃ t51p : Addr, u = some t51p ∧ ∃ t53 : Bool, w.cell? (t51p.add 6) = some (.bool t53) ∧ ifP (!t53)
    (R (.tuple #[(.slice none 0 0), (.bool false), (.int .i64 0)]) w)
    (∃ S_ : World → Prop, S_ w.drew ∧ letW w.drew fun w_2 => ∃ t57p : Addr, u = some t57p ∧ ∃ (t59A : Option Addr) (t59n t59c : Nat), (∀ u_2 : World, S_ u_2 → u_2.cell? (t57p.add 7) = some (.slice t59A t59n t59c)) ∧ ∃ (t61A : Option Addr) (t61n t61c : Nat), (∀ u_3 : World, S_ u_3 → u_3.cell? (p.add 3) = some (.slice t61A t61n t61c)) ∧ ∃ (v : Value) (w_3 : World), (Builtin.append_ #[24, 24] 24 #[(.slice t59A t59n t59c), (.slice t61A t61n t61c)]).run Try.prog w_2 = .ok v w_3 ∧ ∃ (t62A : Option Addr) (t62n t62c : Nat), v = (.slice t62A t62n t62c) ∧ ∃ t63p : Addr, u = some t63p ∧ (∃ u : Value, w_3.cell? (t63p.add 7) = some u) ∧ w_3.frozen? (t63p.add 7) = false ∧ letW (w_3.setCell (t63p.add 7) (.slice t62A t62n t62c)) fun w_4 => bundle_Bundle_Feed.J2 R u p w_4)

def bundle_Bundle_Feed.J0 (R : Value → World → Prop) (u : Option Addr) (p : Addr) (w : World) : Prop :=
  ∃ S_ : World → Prop, S_ w.drew ∧ letW w.drew fun w_2 => ∃ t33p : Addr, u = some t33p ∧ ∃ t36 : Int, (∀ u_2 : World, S_ u_2 → u_2.cell? p = some (.int .u32 t36)) ∧ ∃ t38p : Addr, u = some t38p ∧ ∃ t41 : Int, (∀ u_3 : World, S_ u_3 → u_3.cell? ((t38p.add 1).add 4) = some (.int .u32 t41)) ∧ Run Try.prog 35 #[(.pointer (some t33p)), (.int .u32 t36), (.int .u32 t41)] w_2 fun v w_3 => v = (.tuple #[]) ∧ ∃ t44 : Bool, w_3.cell? (p.add 1) = some (.bool t44) ∧ ifP t44
    (Run Try.prog 34 #[(.pointer u)] w_3 fun v_2 w_4 => v_2 = (.tuple #[]) ∧ ∃ t48p : Addr, u = some t48p ∧ (∃ u : Value, w_4.cell? (t48p.add 6) = some u) ∧ w_4.frozen? (t48p.add 6) = false ∧ letW (w_4.setCell (t48p.add 6) (.bool true)) fun w_5 => bundle_Bundle_Feed.J1 R u p w_5)
    (bundle_Bundle_Feed.J1 R u p w_3)

@[reducible] def bundle_Bundle_Feed.vc (R : Value → World → Prop) (u : Option Addr) (bA : Option Addr) (bn : Nat) (bc : Nat) (w : World) : Prop :=
  ∃ t12p : Addr, u = some t12p ∧ ∃ t14_0 : Bool, w.cell? (t12p.add 1) = some (.bool t14_0) ∧ ∃ t14_1 : Bool, w.cell? ((t12p.add 1).add 1) = some (.bool t14_1) ∧ ∃ t14_2 : Int, w.cell? ((t12p.add 1).add 2) = some (.int .i64 t14_2) ∧ ∃ t14_3 : Int, w.cell? ((t12p.add 1).add 3) = some (.int .i64 t14_3) ∧ ∃ t14_4 : Int, w.cell? ((t12p.add 1).add 4) = some (.int .u32 t14_4) ∧ Run Try.prog 33 #[(.agg #[(.bool t14_0), (.bool t14_1), (.int .i64 t14_2), (.int .i64 t14_3), (.int .u32 t14_4)]), (.slice bA bn bc)] w fun v w_2 => ∃ t160_0 : Int, ∃ t160_1 : Bool, ∃ t160_2 : Bool, ∃ (t160_3A : Option Addr) (t160_3n t160_3c : Nat), ∃ t161 : Int, v = (.tuple #[(.agg #[(.int .u32 t160_0), (.bool t160_1), (.bool t160_2), (.slice t160_3A t160_3n t160_3c)]), (.int .i64 t161)]) ∧ letW (w_2.alloc (.cells #[(.int .u32 0), (.bool false), (.bool false), (.slice none 0 0)] 73)) fun w_3 => storeRow (newA w_2) 0 [(.int .u32 t160_0), (.bool t160_1), (.bool t160_2), (.slice t160_3A t160_3n t160_3c)] w_3 fun w_4 => ifP ((t161 : Int) != 0)
    (R (.tuple #[(.slice none 0 0), (.bool false), (.int .i64 t161)]) w_4)
    (letW w_4.drew fun w_5 => ∃ t23 : Int, w_5.cell? (newA w_2) = some (.int .u32 t23) ∧ ∃ t25p : Addr, u = some t25p ∧ ∃ t28 : Int, w_5.cell? t25p = some (.int .u32 t28) ∧ ifP ((t23 : Int) != t28)
    (Run Try.prog 34 #[(.pointer u)] w_5 fun v_2 w_6 => v_2 = (.tuple #[]) ∧ bundle_Bundle_Feed.J0 R u (newA w_2) w_6)
    (bundle_Bundle_Feed.J0 R u (newA w_2) w_5))

theorem bundle_Bundle_Feed.eq (R : Value → World → Prop) (u : Option Addr) (bA : Option Addr) (bn : Nat) (bc : Nat) (w : World) : fnVC Try.prog none bundle_Bundle_Feed.live Try.f22 R [(.pointer u), (.slice bA bn bc)] w = bundle_Bundle_Feed.vc R u bA bn bc w := by kernel_rfl
set_option maxHeartbeats 4000000 in
theorem bundle_Bundle_Feed.ok {R : Value → World → Prop} {u : Option Addr} {bA : Option Addr} {bn : Nat} {bc : Nat} {w : World} (h : bundle_Bundle_Feed.vc R u bA bn bc w) : Run Try.prog 22 #[(.pointer u), (.slice bA bn bc)] w R := by
  have h2 := Eq.mpr (bundle_Bundle_Feed.eq R u bA bn bc w) h
  exact fn_sound Try.mixed Try.func22 (by kernel_rfl) h2

/-! ### (*riddle/bundle.Bundle).Waits: function 23 -/
noncomputable def bundle_Bundle_Waits.body : Code := bodyOf Try.f23
def bundle_Bundle_Waits.live : Nat → List Nat
  | _ => []
@[reducible] def bundle_Bundle_Waits.vc (R : Value → World → Prop) (u : Option Addr) (w : World) : Prop :=
  letW w.drew fun w_2 => ∃ t5p : Addr, u = some t5p ∧ ∃ t8 : Int, w_2.cell? t5p = some (.int .u32 t8) ∧ ∃ t10p : Addr, u = some t10p ∧ ∃ (t12A : Option Addr) (t12n t12c : Nat), w_2.cell? (t10p.add 7) = some (.slice t12A t12n t12c) ∧ R (.tuple #[(.int .u32 t8), (.int .i64 ((t12n : Nat) : Int))]) w_2

theorem bundle_Bundle_Waits.eq (R : Value → World → Prop) (u : Option Addr) (w : World) : fnVC Try.prog none bundle_Bundle_Waits.live Try.f23 R [(.pointer u)] w = bundle_Bundle_Waits.vc R u w := by kernel_rfl
set_option maxHeartbeats 4000000 in
theorem bundle_Bundle_Waits.ok {R : Value → World → Prop} {u : Option Addr} {w : World} (h : bundle_Bundle_Waits.vc R u w) : Run Try.prog 23 #[(.pointer u)] w R := by
  have h2 := Eq.mpr (bundle_Bundle_Waits.eq R u w) h
  exact fn_sound Try.mixed Try.func23 (by kernel_rfl) h2

/-! ### riddle/riddlelaw9.awake: function 18 -/
noncomputable def law9_awake.body : Code := bodyOf Try.f18
def law9_awake.live : Nat → List Nat
  | _ => []
def law9_awake.J1 (R : Value → World → Prop) (t0 : Bool) (w : World) : Prop :=
  R (.bool t0) w

def law9_awake.J0 (R : Value → World → Prop) (pA : Option Addr) (pn : Nat) (pc : Nat) (u : Option Addr) (t48 : Bool) (w : World) : Prop :=
  ifP t48
    (R (.bool false) w)
    (0 ≤ (0 : Int) ∧ (0 : Int) < ((pn : Nat) : Int) ∧ ∃ t52p : Addr, pA = some t52p ∧ ∃ (t53A : Option Addr) (t53n t53c : Nat), w.cell? (t52p.add (Int.toNat 0 * 1)) = some (.slice t53A t53n t53c) ∧ Run Try.prog 14 #[(.slice t53A t53n t53c)] w fun v w_2 => ∃ (t54A : Option Addr) (t54n t54c : Nat), v = (.slice t54A t54n t54c) ∧ Run Try.prog 22 #[(.pointer u), (.slice t54A t54n t54c)] w_2 fun v_2 w_3 => ∃ (t550A : Option Addr) (t550n t550c : Nat), ∃ t551 : Bool, ∃ t552 : Int, v_2 = (.tuple #[(.slice t550A t550n t550c), (.bool t551), (.int .i64 t552)]) ∧ 0 ≤ (1 : Int) ∧ (1 : Int) < ((pn : Nat) : Int) ∧ ∃ t62p : Addr, pA = some t62p ∧ ∃ (t63A : Option Addr) (t63n t63c : Nat), w_3.cell? (t62p.add (Int.toNat 1 * 1)) = some (.slice t63A t63n t63c) ∧ Run Try.prog 14 #[(.slice t63A t63n t63c)] w_3 fun v_3 w_4 => ∃ (t64A : Option Addr) (t64n t64c : Nat), v_3 = (.slice t64A t64n t64c) ∧ Run Try.prog 22 #[(.pointer u), (.slice t64A t64n t64c)] w_4 fun v_4 w_5 => ∃ (t650A : Option Addr) (t650n t650c : Nat), ∃ t651 : Bool, ∃ t652 : Int, v_4 = (.tuple #[(.slice t650A t650n t650c), (.bool t651), (.int .i64 t652)]) ∧ Run Try.prog 23 #[(.pointer u)] w_5 fun v_5 w_6 => ∃ t710 : Int, ∃ t711 : Int, v_5 = (.tuple #[(.int .u32 t710), (.int .i64 t711)]) ∧ ifP (!t551) (ifP t651 (ifP ((t652 : Int) == 0) (letW (w_6.alloc (.cells #[(.int .u8 1), (.int .u8 2), (.int .u8 3)] 5)) fun w_7 => Run Try.prog 17 #[(.slice t650A t650n t650c), (.slice (some (newA w_6)) 3 3)] w_7 fun v_6 w_8 => ∃ t86 : Bool, v_6 = (.bool t86) ∧ ifP t86 (ifP ((t710 : Int) == 1) (law9_awake.J1 R ((t711 : Int) == 0) w_8) (law9_awake.J1 R false w_8)) (law9_awake.J1 R false w_8)) (law9_awake.J1 R false w_6)) (law9_awake.J1 R false w_6)) (law9_awake.J1 R false w_6))

@[reducible] def law9_awake.vc (R : Value → World → Prop) (w : World) : Prop :=
  letW (w.alloc (.cells #[(.bool false), (.bool false), (.int .i64 0)] 23)) fun w_2 => storeRow (newA w) 0 [(.bool false), (.bool false), (.int .i64 1)] w_2 fun w_3 => ∃ t16_0 : Bool, w_3.cell? (newA w) = some (.bool t16_0) ∧ ∃ t16_1 : Bool, w_3.cell? ((newA w).add 1) = some (.bool t16_1) ∧ ∃ t16_2 : Int, w_3.cell? ((newA w).add 2) = some (.int .i64 t16_2) ∧ letW (w_3.alloc (.cells #[(.int .u8 1), (.int .u8 2), (.int .u8 3)] 5)) fun w_4 => Run Try.prog 12 #[(.agg #[(.bool t16_0), (.bool t16_1), (.int .i64 t16_2)]), (.slice (some (newA w_3)) 3 3), (.int .i64 2), (.int .u32 4095)] w_4 fun v w_5 => ∃ (t180A : Option Addr) (t180n t180c : Nat), ∃ t181 : Int, v = (.tuple #[(.slice t180A t180n t180c), (.int .i64 t181)]) ∧ ∃ t22_0 : Bool, w_5.cell? (newA w) = some (.bool t22_0) ∧ ∃ t22_1 : Bool, w_5.cell? ((newA w).add 1) = some (.bool t22_1) ∧ ∃ t22_2 : Int, w_5.cell? ((newA w).add 2) = some (.int .i64 t22_2) ∧ Run Try.prog 20 #[(.agg #[(.bool t22_0), (.bool t22_1), (.int .i64 t22_2)]), (.int .u32 4095)] w_5 fun v_2 w_6 => ∃ t230 : Option Addr, ∃ t231 : Int, v_2 = (.tuple #[(.pointer t230), (.int .i64 t231)]) ∧ ifP ((t181 : Int) != 0) (law9_awake.J0 R t180A t180n t180c t230 true w_6) (ifP ((t231 : Int) != 0) (law9_awake.J0 R t180A t180n t180c t230 true w_6) (ifP (Option.isNone t230) (law9_awake.J0 R t180A t180n t180c t230 true w_6) (ifP ((((t180n : Nat) : Int) : Int) != 2) (law9_awake.J0 R t180A t180n t180c t230 true w_6) (0 ≤ (1 : Int) ∧ (1 : Int) < ((t180n : Nat) : Int) ∧ ∃ t43p : Addr, t180A = some t43p ∧ ∃ (t44A : Option Addr) (t44n t44c : Nat), w_6.cell? (t43p.add (Int.toNat 1 * 1)) = some (.slice t44A t44n t44c) ∧ letW (w_6.alloc (.cells #[(.int .u8 255), (.int .u8 3), (.int .u8 0), (.int .u8 61), (.int .u8 64), (.int .u8 0), (.int .u8 3)] 5)) fun w_7 => Run Try.prog 17 #[(.slice t44A t44n t44c), (.slice (some (newA w_6)) 7 7)] w_7 fun v_3 w_8 => ∃ t46 : Bool, v_3 = (.bool t46) ∧ law9_awake.J0 R t180A t180n t180c t230 (!t46) w_8))))

theorem law9_awake.eq (R : Value → World → Prop) (w : World) : fnVC Try.prog none law9_awake.live Try.f18 R [] w = law9_awake.vc R  w := by kernel_rfl
set_option maxHeartbeats 4000000 in
theorem law9_awake.ok {R : Value → World → Prop} {w : World} (h : law9_awake.vc R  w) : Run Try.prog 18 #[] w R := by
  have h2 := Eq.mpr (law9_awake.eq R  w) h
  exact fn_sound Try.mixed Try.func18 (by kernel_rfl) h2

/-! ### riddle/riddlelaw9.BundleSplits: function 3 -/
noncomputable def law9_BundleSplits.body : Code := bodyOf Try.f3
def law9_BundleSplits.live : Nat → List Nat
  | 0 => [9, 12, 14, 16]
  | _ => []
noncomputable def law9_BundleSplits.c0 : Code := sub law9_BundleSplits.body [1, 1, 1, 1, 1, 1, 1, 0, 1, 0, 0]
def law9_BundleSplits.K0 (R : Value → World → Prop) : Ex → St → World → Prop := (blockK 0 (thenK (fun st w => code Try.prog none law9_BundleSplits.live 0 (sub law9_BundleSplits.body [1, 1, 1, 1, 1, 1, 1, 1]) (retK Try.prog Try.f3 R) st w) (retK Try.prog Try.f3 R)))
def law9_BundleSplits.L0 (R : Value → World → Prop) (wantA : Option Addr) (wantn : Nat) (wantc : Nat) (xA : Option Addr) (xn : Nat) (xc : Nat) (yA : Option Addr) (yn : Nat) (yc : Nat) (i : Int) (w : World) : Prop :=
  loopVC (fun K => code Try.prog none law9_BundleSplits.live 0 law9_BundleSplits.c0 K) (law9_BundleSplits.live 0) (law9_BundleSplits.K0 R) [undef, undef, undef, undef, undef, undef, undef, undef, undef, (.slice wantA wantn wantc), undef, undef, (.slice xA xn xc), undef, (.slice yA yn yc), undef, (.int .i64 i), undef, undef, undef, undef, undef, undef, undef, undef, undef, undef, undef, undef, undef, undef, undef, undef, undef, undef, undef, undef, undef, undef, undef, undef, undef, undef, undef, undef, undef, undef, undef, undef, undef, undef, undef, undef, undef, undef, undef, undef, undef, undef, undef, undef, undef, undef, undef, undef, undef, undef, undef, undef, undef, undef, undef, undef, undef, undef, undef, undef, undef, undef, undef, undef, undef, undef, undef, undef, undef, undef, undef, undef, undef, undef, undef, undef, undef, undef, undef, undef, undef] w
def law9_BundleSplits.J2 (R : Value → World → Prop) (wantA : Option Addr) (wantn : Nat) (wantc : Nat) (xA : Option Addr) (xn : Nat) (xc : Nat) (yA : Option Addr) (yn : Nat) (yc : Nat) (i : Int) (t91 : Bool) (w : World) : Prop :=
  ifP t91
    (R (.bool false) w)
    (law9_BundleSplits.L0 R wantA wantn wantc xA xn xc yA yn yc (IntKind.i64.wrap (i + 1)) w)

def law9_BundleSplits.J3 (R : Value → World → Prop) (t8 : Bool) (w : World) : Prop :=
  R (.bool t8) w

@[reducible] def law9_BundleSplits.B0 (R : Value → World → Prop) (wantA : Option Addr) (wantn : Nat) (wantc : Nat) (xA : Option Addr) (xn : Nat) (xc : Nat) (yA : Option Addr) (yn : Nat) (yc : Nat) (i : Int) (w : World) : Prop :=
  ifP (decide ((i : Int) < ((xn : Nat) : Int)))
    (0 ≤ (i : Int) ∧ (i : Int) < ((xn : Nat) : Int) ∧ ∃ t70p : Addr, xA = some t70p ∧ ∃ (t71A : Option Addr) (t71n t71c : Nat), w.cell? (t70p.add (Int.toNat i * 1)) = some (.slice t71A t71n t71c) ∧ Run Try.prog 16 #[(.slice t71A t71n t71c)] w fun v w_2 => v = (.tuple #[]) ∧ ∃ S_ : World → Prop, S_ w_2.drew ∧ letW w_2.drew fun w_3 => ifP (decide ((IntKind.i64.wrap (i + 1) : Int) < ((xn : Nat) : Int))) (0 ≤ (IntKind.i64.wrap (i + 1) : Int) ∧ (IntKind.i64.wrap (i + 1) : Int) < ((xn : Nat) : Int) ∧ ∃ t82p : Addr, xA = some t82p ∧ ∃ (t83A : Option Addr) (t83n t83c : Nat), (∀ u : World, S_ u → u.cell? (t82p.add (Int.toNat (IntKind.i64.wrap (i + 1)) * 1)) = some (.slice t83A t83n t83c)) ∧ 0 ≤ (IntKind.i64.wrap (i + 1) : Int) ∧ (IntKind.i64.wrap (i + 1) : Int) < ((wantn : Nat) : Int) ∧ ∃ t87p : Addr, wantA = some t87p ∧ ∃ (t88A : Option Addr) (t88n t88c : Nat), (∀ u_2 : World, S_ u_2 → u_2.cell? (t87p.add (Int.toNat (IntKind.i64.wrap (i + 1)) * 1)) = some (.slice t88A t88n t88c)) ∧ Run Try.prog 17 #[(.slice t83A t83n t83c), (.slice t88A t88n t88c)] w_3 fun v_2 w_4 => ∃ t89 : Bool, v_2 = (.bool t89) ∧ law9_BundleSplits.J2 R wantA wantn wantc xA xn xc yA yn yc i (!t89) w_4) (law9_BundleSplits.J2 R wantA wantn wantc xA xn xc yA yn yc i false w_3))
    (Run Try.prog 15 #[(.slice yA yn yc), (.slice wantA wantn wantc)] w fun v_3 w_5 => ∃ t94 : Bool, v_3 = (.bool t94) ∧ ifP t94 (Run Try.prog 18 #[] w_5 fun v_4 w_6 => ∃ t96 : Bool, v_4 = (.bool t96) ∧ law9_BundleSplits.J3 R t96 w_6) (law9_BundleSplits.J3 R false w_5))

def law9_BundleSplits.J1 (R : Value → World → Prop) (wantA : Option Addr) (wantn : Nat) (wantc : Nat) (xA : Option Addr) (xn : Nat) (xc : Nat) (yA : Option Addr) (yn : Nat) (yc : Nat) (t61 : Bool) (w : World) : Prop :=
  ifP t61
    (R (.bool false) w)
    (law9_BundleSplits.L0 R wantA wantn wantc xA xn xc yA yn yc 0 w)

def law9_BundleSplits.J0 (R : Value → World → Prop) (wantA : Option Addr) (wantn : Nat) (wantc : Nat) (code_ : Int) (xA : Option Addr) (xn : Nat) (xc : Nat) (e : Int) (yA : Option Addr) (yn : Nat) (yc : Nat) (f : Int) (w : World) : Prop :=
  ifP ((e : Int) != code_) (law9_BundleSplits.J1 R wantA wantn wantc xA xn xc yA yn yc true w) (ifP ((f : Int) != code_) (law9_BundleSplits.J1 R wantA wantn wantc xA xn xc yA yn yc true w) (Run Try.prog 15 #[(.slice xA xn xc), (.slice wantA wantn wantc)] w fun v w_2 => ∃ t59 : Bool, v = (.bool t59) ∧ law9_BundleSplits.J1 R wantA wantn wantc xA xn xc yA yn yc (!t59) w_2))

@[reducible] def law9_BundleSplits.vc (R : Value → World → Prop) (k_0 : Bool) (k_1 : Bool) (k_2 : Int) (bA : Option Addr) (bn : Nat) (bc : Nat) (most : Int) (first : Int) (w : World) : Prop :=
  letW (w.alloc (.cells #[(.bool k_0), (.bool k_1), (.int .i64 k_2)] 23)) fun w_2 => ∃ t18_0 : Bool, w_2.cell? (newA w) = some (.bool t18_0) ∧ ∃ t18_1 : Bool, w_2.cell? ((newA w).add 1) = some (.bool t18_1) ∧ ∃ t18_2 : Int, w_2.cell? ((newA w).add 2) = some (.int .i64 t18_2) ∧ Run Try.prog 10 #[(.agg #[(.bool t18_0), (.bool t18_1), (.int .i64 t18_2)]), (.slice bA bn bc), (.int .i64 most), (.int .u32 first)] w_2 fun v w_3 => ∃ (t220A : Option Addr) (t220n t220c : Nat), ∃ t221 : Int, v = (.tuple #[(.slice t220A t220n t220c), (.int .i64 t221)]) ∧ Run Try.prog 11 #[(.slice bA bn bc)] w_3 fun v_2 w_4 => ∃ (t26A : Option Addr) (t26n t26c : Nat), v_2 = (.slice t26A t26n t26c) ∧ ∃ t28_0 : Bool, w_4.cell? (newA w) = some (.bool t28_0) ∧ ∃ t28_1 : Bool, w_4.cell? ((newA w).add 1) = some (.bool t28_1) ∧ ∃ t28_2 : Int, w_4.cell? ((newA w).add 2) = some (.int .i64 t28_2) ∧ Run Try.prog 12 #[(.agg #[(.bool t28_0), (.bool t28_1), (.int .i64 t28_2)]), (.slice t26A t26n t26c), (.int .i64 most), (.int .u32 first)] w_4 fun v_3 w_5 => ∃ (t320A : Option Addr) (t320n t320c : Nat), ∃ t321 : Int, v_3 = (.tuple #[(.slice t320A t320n t320c), (.int .i64 t321)]) ∧ Run Try.prog 13 #[(.slice t26A t26n t26c), (.slice bA bn bc)] w_5 fun v_4 w_6 => ∃ t37 : Bool, v_4 = (.bool t37) ∧ ifP (!t37)
    (R (.bool false) w_6)
    (∃ S_ : World → Prop, S_ w_6.drew ∧ letW w_6.drew fun w_7 => ∃ t40_0 : Bool, (∀ u : World, S_ u → u.cell? (newA w) = some (.bool t40_0)) ∧ ∃ t40_1 : Bool, (∀ u_2 : World, S_ u_2 → u_2.cell? ((newA w).add 1) = some (.bool t40_1)) ∧ ∃ t40_2 : Int, (∀ u_3 : World, S_ u_3 → u_3.cell? ((newA w).add 2) = some (.int .i64 t40_2)) ∧ Run Try.prog 14 #[(.slice bA bn bc)] w_7 fun v_5 w_8 => ∃ (t42A : Option Addr) (t42n t42c : Nat), v_5 = (.slice t42A t42n t42c) ∧ S_ w_8 ∧ Run Try.prog 12 #[(.agg #[(.bool t40_0), (.bool t40_1), (.int .i64 t40_2)]), (.slice t42A t42n t42c), (.int .i64 most), (.int .u32 first)] w_8 fun v_6 w_9 => ∃ (t450A : Option Addr) (t450n t450c : Nat), ∃ t451 : Int, v_6 = (.tuple #[(.slice t450A t450n t450c), (.int .i64 t451)]) ∧ law9_BundleSplits.J0 R t220A t220n t220c t221 t320A t320n t320c t321 t450A t450n t450c t451 w_9)

theorem law9_BundleSplits.B0_eq (R : Value → World → Prop) (wantA : Option Addr) (wantn : Nat) (wantc : Nat) (xA : Option Addr) (xn : Nat) (xc : Nat) (yA : Option Addr) (yn : Nat) (yc : Nat) (i : Int) (w : World) (ts : Nat → Value) :
    code Try.prog none law9_BundleSplits.live 0 law9_BundleSplits.c0 (thenK (fun st w => loopVC (fun K => code Try.prog none law9_BundleSplits.live 0 law9_BundleSplits.c0 K) (law9_BundleSplits.live 0) (law9_BundleSplits.K0 R) (clearFrom (law9_BundleSplits.live 0) 0 st) w) (law9_BundleSplits.K0 R)) (mergeFrom (law9_BundleSplits.live 0) ts 0 (clearFrom (law9_BundleSplits.live 0) 0 [undef, undef, undef, undef, undef, undef, undef, undef, undef, (.slice wantA wantn wantc), undef, undef, (.slice xA xn xc), undef, (.slice yA yn yc), undef, (.int .i64 i), undef, undef, undef, undef, undef, undef, undef, undef, undef, undef, undef, undef, undef, undef, undef, undef, undef, undef, undef, undef, undef, undef, undef, undef, undef, undef, undef, undef, undef, undef, undef, undef, undef, undef, undef, undef, undef, undef, undef, undef, undef, undef, undef, undef, undef, undef, undef, undef, undef, undef, undef, undef, undef, undef, undef, undef, undef, undef, undef, undef, undef, undef, undef, undef, undef, undef, undef, undef, undef, undef, undef, undef, undef, undef, undef, undef, undef, undef, undef, undef, undef])) w = law9_BundleSplits.B0 R wantA wantn wantc xA xn xc yA yn yc i w := by kernel_rfl
theorem law9_BundleSplits.L0_step {R : Value → World → Prop} {wantA : Option Addr} {wantn : Nat} {wantc : Nat} {xA : Option Addr} {xn : Nat} {xc : Nat} {yA : Option Addr} {yn : Nat} {yc : Nat} {i : Int} {w : World} (h : law9_BundleSplits.B0 R wantA wantn wantc xA xn xc yA yn yc i w) : law9_BundleSplits.L0 R wantA wantn wantc xA xn xc yA yn yc i w :=
  loop_step (live := law9_BundleSplits.live) (b := 0) (x := law9_BundleSplits.c0) fun ts => Eq.mpr (law9_BundleSplits.B0_eq R wantA wantn wantc xA xn xc yA yn yc i w ts) h
theorem law9_BundleSplits.eq (R : Value → World → Prop) (k_0 : Bool) (k_1 : Bool) (k_2 : Int) (bA : Option Addr) (bn : Nat) (bc : Nat) (most : Int) (first : Int) (w : World) : fnVC Try.prog none law9_BundleSplits.live Try.f3 R [(.agg #[(.bool k_0), (.bool k_1), (.int .i64 k_2)]), (.slice bA bn bc), (.int .i64 most), (.int .u32 first)] w = law9_BundleSplits.vc R k_0 k_1 k_2 bA bn bc most first w := by kernel_rfl
set_option maxHeartbeats 4000000 in
theorem law9_BundleSplits.ok {R : Value → World → Prop} {k_0 : Bool} {k_1 : Bool} {k_2 : Int} {bA : Option Addr} {bn : Nat} {bc : Nat} {most : Int} {first : Int} {w : World} (h : law9_BundleSplits.vc R k_0 k_1 k_2 bA bn bc most first w) : Run Try.prog 3 #[(.agg #[(.bool k_0), (.bool k_1), (.int .i64 k_2)]), (.slice bA bn bc), (.int .i64 most), (.int .u32 first)] w R := by
  have h2 := Eq.mpr (law9_BundleSplits.eq R k_0 k_1 k_2 bA bn bc most first w) h
  exact fn_sound Try.mixed Try.func3 (by kernel_rfl) h2

/-! ### riddle/riddleref9.New: function 19 -/
noncomputable def ref9_New.body : Code := bodyOf Try.f19
def ref9_New.live : Nat → List Nat
  | _ => []
@[reducible] def ref9_New.vc (R : Value → World → Prop) (l_0 : Bool) (l_1 : Bool) (l_2 : Int) (next : Int) (w : World) : Prop :=
  letW (w.alloc (.cells #[(.bool l_0), (.bool l_1), (.int .i64 l_2)] 23)) fun w_2 => letW (w_2.alloc (.cells #[(.bool false), (.bool false), (.int .i64 0), (.int .u32 0), (.bool false), (.slice none 0 0)] 37)) fun w_3 => ∃ t7_0 : Bool, w_3.cell? (newA w) = some (.bool t7_0) ∧ ∃ t7_1 : Bool, w_3.cell? ((newA w).add 1) = some (.bool t7_1) ∧ ∃ t7_2 : Int, w_3.cell? ((newA w).add 2) = some (.int .i64 t7_2) ∧ Run Try.prog 26 #[(.agg #[(.bool t7_0), (.bool t7_1), (.int .i64 t7_2)])] w_3 fun v w_4 => ∃ t8 : Bool, v = (.bool t8) ∧ ifP (!t8)
    (storeRow (newA w_2) 0 [(.bool false), (.bool false), (.int .i64 0), (.int .u32 0), (.bool false), (.slice none 0 0)] w_4 fun w_5 => ∃ t4_0 : Bool, w_5.cell? (newA w_2) = some (.bool t4_0) ∧ ∃ t4_1 : Bool, w_5.cell? ((newA w_2).add 1) = some (.bool t4_1) ∧ ∃ t4_2 : Int, w_5.cell? ((newA w_2).add 2) = some (.int .i64 t4_2) ∧ ∃ t4_3 : Int, w_5.cell? ((newA w_2).add 3) = some (.int .u32 t4_3) ∧ ∃ t4_4 : Bool, w_5.cell? ((newA w_2).add 4) = some (.bool t4_4) ∧ ∃ (t4_5A : Option Addr) (t4_5n t4_5c : Nat), w_5.cell? ((newA w_2).add 5) = some (.slice t4_5A t4_5n t4_5c) ∧ R (.tuple #[(.agg #[(.bool t4_0), (.bool t4_1), (.int .i64 t4_2), (.int .u32 t4_3), (.bool t4_4), (.slice t4_5A t4_5n t4_5c)]), (.int .i64 90)]) w_5)
    (∃ t13_0 : Bool, w_4.cell? (newA w) = some (.bool t13_0) ∧ ∃ t13_1 : Bool, w_4.cell? ((newA w).add 1) = some (.bool t13_1) ∧ ∃ t13_2 : Int, w_4.cell? ((newA w).add 2) = some (.int .i64 t13_2) ∧ Run Try.prog 27 #[(.agg #[(.bool t13_0), (.bool t13_1), (.int .i64 t13_2)])] w_4 fun v_2 w_6 => ∃ t14 : Int, v_2 = (.int .u32 t14) ∧ ifP (decide ((next : Int) ≥ t14))
    (storeRow (newA w_2) 0 [(.bool false), (.bool false), (.int .i64 0), (.int .u32 0), (.bool false), (.slice none 0 0)] w_6 fun w_7 => ∃ t4_0_2 : Bool, w_7.cell? (newA w_2) = some (.bool t4_0_2) ∧ ∃ t4_1_2 : Bool, w_7.cell? ((newA w_2).add 1) = some (.bool t4_1_2) ∧ ∃ t4_2_2 : Int, w_7.cell? ((newA w_2).add 2) = some (.int .i64 t4_2_2) ∧ ∃ t4_3_2 : Int, w_7.cell? ((newA w_2).add 3) = some (.int .u32 t4_3_2) ∧ ∃ t4_4_2 : Bool, w_7.cell? ((newA w_2).add 4) = some (.bool t4_4_2) ∧ ∃ (t4_5A_2 : Option Addr) (t4_5n_2 t4_5c_2 : Nat), w_7.cell? ((newA w_2).add 5) = some (.slice t4_5A_2 t4_5n_2 t4_5c_2) ∧ R (.tuple #[(.agg #[(.bool t4_0_2), (.bool t4_1_2), (.int .i64 t4_2_2), (.int .u32 t4_3_2), (.bool t4_4_2), (.slice t4_5A_2 t4_5n_2 t4_5c_2)]), (.int .i64 91)]) w_7)
    (∃ t17_0 : Bool, w_6.cell? (newA w) = some (.bool t17_0) ∧ ∃ t17_1 : Bool, w_6.cell? ((newA w).add 1) = some (.bool t17_1) ∧ ∃ t17_2 : Int, w_6.cell? ((newA w).add 2) = some (.int .i64 t17_2) ∧ storeRow (newA w_2) 0 [(.bool t17_0), (.bool t17_1), (.int .i64 t17_2), (.int .u32 next), (.bool false), (.slice none 0 0)] w_6 fun w_8 => ∃ t4_0_3 : Bool, w_8.cell? (newA w_2) = some (.bool t4_0_3) ∧ ∃ t4_1_3 : Bool, w_8.cell? ((newA w_2).add 1) = some (.bool t4_1_3) ∧ ∃ t4_2_3 : Int, w_8.cell? ((newA w_2).add 2) = some (.int .i64 t4_2_3) ∧ ∃ t4_3_3 : Int, w_8.cell? ((newA w_2).add 3) = some (.int .u32 t4_3_3) ∧ ∃ t4_4_3 : Bool, w_8.cell? ((newA w_2).add 4) = some (.bool t4_4_3) ∧ ∃ (t4_5A_3 : Option Addr) (t4_5n_3 t4_5c_3 : Nat), w_8.cell? ((newA w_2).add 5) = some (.slice t4_5A_3 t4_5n_3 t4_5c_3) ∧ R (.tuple #[(.agg #[(.bool t4_0_3), (.bool t4_1_3), (.int .i64 t4_2_3), (.int .u32 t4_3_3), (.bool t4_4_3), (.slice t4_5A_3 t4_5n_3 t4_5c_3)]), (.int .i64 0)]) w_8))

theorem ref9_New.eq (R : Value → World → Prop) (l_0 : Bool) (l_1 : Bool) (l_2 : Int) (next : Int) (w : World) : fnVC Try.prog none ref9_New.live Try.f19 R [(.agg #[(.bool l_0), (.bool l_1), (.int .i64 l_2)]), (.int .u32 next)] w = ref9_New.vc R l_0 l_1 l_2 next w := by kernel_rfl
set_option maxHeartbeats 4000000 in
theorem ref9_New.ok {R : Value → World → Prop} {l_0 : Bool} {l_1 : Bool} {l_2 : Int} {next : Int} {w : World} (h : ref9_New.vc R l_0 l_1 l_2 next w) : Run Try.prog 19 #[(.agg #[(.bool l_0), (.bool l_1), (.int .i64 l_2)]), (.int .u32 next)] w R := by
  have h2 := Eq.mpr (ref9_New.eq R l_0 l_1 l_2 next w) h
  exact fn_sound Try.mixed Try.func19 (by kernel_rfl) h2

/-! ### riddle/riddleref7.Plain: function 48 -/
noncomputable def ref7_Plain.body : Code := bodyOf Try.f48
def ref7_Plain.live : Nat → List Nat
  | _ => []
def ref7_Plain.J0 (R : Value → World → Prop) (bA : Option Addr) (bn : Nat) (bc : Nat) (l : Addr) (t6 : Bool) (w : World) : Prop :=
  ifP t6
    (R (.tuple #[(.int .i64 2), (.int .i64 0)]) w)
    (∃ t24 : Bool, w.cell? l = some (.bool t24) ∧ ifP t24
    (R (.tuple #[(.int .i64 0), (.int .i64 0)]) w)
    (ifP (decide ((((bn : Nat) : Int) : Int) < 2))
    (R (.tuple #[(.int .i64 0), (.int .i64 72)]) w)
    (R (.tuple #[(.int .i64 0), (.int .i64 73)]) w)))

@[reducible] def ref7_Plain.vc (R : Value → World → Prop) (l_0 : Bool) (l_1 : Bool) (l_2 : Int) (bA : Option Addr) (bn : Nat) (bc : Nat) (w : World) : Prop :=
  letW (w.alloc (.cells #[(.bool l_0), (.bool l_1), (.int .i64 l_2)] 23)) fun w_2 => ifP (decide ((((bn : Nat) : Int) : Int) ≥ 2)) (0 ≤ (0 : Int) ∧ (0 : Int) < ((bn : Nat) : Int) ∧ ∃ t12p : Addr, bA = some t12p ∧ ∃ t13 : Int, w_2.cell? (t12p.add (Int.toNat 0 * 1)) = some (.int .u8 t13) ∧ ifP ((t13 : Int) == 255) (0 ≤ (1 : Int) ∧ (1 : Int) < ((bn : Nat) : Int) ∧ ∃ t18p : Addr, bA = some t18p ∧ ∃ t19 : Int, w_2.cell? (t18p.add (Int.toNat 1 * 1)) = some (.int .u8 t19) ∧ ref7_Plain.J0 R bA bn bc (newA w) ((t19 : Int) == 3) w_2) (ref7_Plain.J0 R bA bn bc (newA w) false w_2)) (ref7_Plain.J0 R bA bn bc (newA w) false w_2)

theorem ref7_Plain.eq (R : Value → World → Prop) (l_0 : Bool) (l_1 : Bool) (l_2 : Int) (bA : Option Addr) (bn : Nat) (bc : Nat) (w : World) : fnVC Try.prog none ref7_Plain.live Try.f48 R [(.agg #[(.bool l_0), (.bool l_1), (.int .i64 l_2)]), (.slice bA bn bc)] w = ref7_Plain.vc R l_0 l_1 l_2 bA bn bc w := by kernel_rfl
set_option maxHeartbeats 4000000 in
theorem ref7_Plain.ok {R : Value → World → Prop} {l_0 : Bool} {l_1 : Bool} {l_2 : Int} {bA : Option Addr} {bn : Nat} {bc : Nat} {w : World} (h : ref7_Plain.vc R l_0 l_1 l_2 bA bn bc w) : Run Try.prog 48 #[(.agg #[(.bool l_0), (.bool l_1), (.int .i64 l_2)]), (.slice bA bn bc)] w R := by
  have h2 := Eq.mpr (ref7_Plain.eq R l_0 l_1 l_2 bA bn bc w) h
  exact fn_sound Try.mixed Try.func48 (by kernel_rfl) h2

/-! ### riddle/riddleref7.Proto: function 49 -/
noncomputable def ref7_Proto.body : Code := bodyOf Try.f49
def ref7_Proto.live : Nat → List Nat
  | _ => []
@[reducible] def ref7_Proto.vc (R : Value → World → Prop) (l_0 : Bool) (l_1 : Bool) (l_2 : Int) (bA : Option Addr) (bn : Nat) (bc : Nat) (at_ : Int) (w : World) : Prop :=
  letW (w.alloc (.cells #[(.bool l_0), (.bool l_1), (.int .i64 l_2)] 23)) fun w_2 => ifP (decide ((at_ : Int) ≥ ((bn : Nat) : Int)))
    (R (.tuple #[(.int .u32 0), (.int .i64 0), (.int .i64 72)]) w_2)
    (0 ≤ (at_ : Int) ∧ (at_ : Int) < ((bn : Nat) : Int) ∧ ∃ t17p : Addr, bA = some t17p ∧ ∃ t18 : Int, w_2.cell? (t17p.add (Int.toNat at_ * 1)) = some (.int .u8 t18) ∧ ifP ((Int.tmod (IntKind.u32.wrap t18) 2 : Int) == 1)
    (∃ t24 : Bool, w_2.cell? ((newA w).add 1) = some (.bool t24) ∧ ifP (!t24)
    (R (.tuple #[(.int .u32 0), (.int .i64 0), (.int .i64 74)]) w_2)
    (R (.tuple #[(.int .u32 (IntKind.u32.wrap t18)), (.int .i64 (IntKind.i64.wrap (at_ + 1))), (.int .i64 0)]) w_2))
    (ifP (decide ((IntKind.i64.wrap (at_ + 1) : Int) ≥ ((bn : Nat) : Int)))
    (R (.tuple #[(.int .u32 0), (.int .i64 0), (.int .i64 72)]) w_2)
    (0 ≤ (IntKind.i64.wrap (at_ + 1) : Int) ∧ (IntKind.i64.wrap (at_ + 1) : Int) < ((bn : Nat) : Int) ∧ ∃ t37p : Addr, bA = some t37p ∧ ∃ t38 : Int, w_2.cell? (t37p.add (Int.toNat (IntKind.i64.wrap (at_ + 1)) * 1)) = some (.int .u8 t38) ∧ ifP ((Int.tmod (IntKind.u32.wrap t38) 2 : Int) == 0)
    (R (.tuple #[(.int .u32 0), (.int .i64 0), (.int .i64 74)]) w_2)
    (R (.tuple #[(.int .u32 (IntKind.u32.wrap ((IntKind.u32.wrap (256 * (IntKind.u32.wrap t18))) + (IntKind.u32.wrap t38)))), (.int .i64 (IntKind.i64.wrap (at_ + 2))), (.int .i64 0)]) w_2))))

theorem ref7_Proto.eq (R : Value → World → Prop) (l_0 : Bool) (l_1 : Bool) (l_2 : Int) (bA : Option Addr) (bn : Nat) (bc : Nat) (at_ : Int) (w : World) : fnVC Try.prog none ref7_Proto.live Try.f49 R [(.agg #[(.bool l_0), (.bool l_1), (.int .i64 l_2)]), (.slice bA bn bc), (.int .i64 at_)] w = ref7_Proto.vc R l_0 l_1 l_2 bA bn bc at_ w := by kernel_rfl
set_option maxHeartbeats 4000000 in
theorem ref7_Proto.ok {R : Value → World → Prop} {l_0 : Bool} {l_1 : Bool} {l_2 : Int} {bA : Option Addr} {bn : Nat} {bc : Nat} {at_ : Int} {w : World} (h : ref7_Proto.vc R l_0 l_1 l_2 bA bn bc at_ w) : Run Try.prog 49 #[(.agg #[(.bool l_0), (.bool l_1), (.int .i64 l_2)]), (.slice bA bn bc), (.int .i64 at_)] w R := by
  have h2 := Eq.mpr (ref7_Proto.eq R l_0 l_1 l_2 bA bn bc at_ w) h
  exact fn_sound Try.mixed Try.func49 (by kernel_rfl) h2

/-! ### riddle/riddleref1.Get: function 59 -/
noncomputable def ref1_Get.body : Code := bodyOf Try.f59
def ref1_Get.live : Nat → List Nat
  | 0 => [0, 1, 2, 8, 9]
  | _ => []
noncomputable def ref1_Get.c0 : Code := sub ref1_Get.body [1, 1, 1, 0, 1, 0, 0]
def ref1_Get.K0 (R : Value → World → Prop) : Ex → St → World → Prop := (blockK 0 (thenK (fun st w => code Try.prog none ref1_Get.live 0 (sub ref1_Get.body [1, 1, 1, 1]) (retK Try.prog Try.f59 R) st w) (retK Try.prog Try.f59 R)))
def ref1_Get.L0 (R : Value → World → Prop) (bA : Option Addr) (bn : Nat) (bc : Nat) (at_ : Int) (size : Int) (v : Int) (i : Int) (w : World) : Prop :=
  loopVC (fun K => code Try.prog none ref1_Get.live 0 ref1_Get.c0 K) (ref1_Get.live 0) (ref1_Get.K0 R) [(.slice bA bn bc), (.int .i64 at_), (.int .i64 size), undef, undef, undef, undef, undef, (.int .u32 v), (.int .i64 i), undef, undef, undef, undef, undef, undef, undef, undef, undef, undef, undef, undef, undef, undef, undef, undef, undef, undef, undef, undef, undef, undef, undef, undef, undef, undef, undef, undef, undef, undef, undef, undef, undef, undef] w
@[reducible] def ref1_Get.B0 (R : Value → World → Prop) (bA : Option Addr) (bn : Nat) (bc : Nat) (at_ : Int) (size : Int) (v : Int) (i : Int) (w : World) : Prop :=
  ifP (decide ((i : Int) < size))
    (0 ≤ (IntKind.i64.wrap (at_ + i) : Int) ∧ (IntKind.i64.wrap (at_ + i) : Int) < ((bn : Nat) : Int) ∧ ∃ t39p : Addr, bA = some t39p ∧ ∃ t40 : Int, w.cell? (t39p.add (Int.toNat (IntKind.i64.wrap (at_ + i)) * 1)) = some (.int .u8 t40) ∧ ref1_Get.L0 R bA bn bc at_ size (orI .u32 (IntKind.u32.wrap (v * 2 ^ 8)) (IntKind.u32.wrap t40)) (IntKind.i64.wrap (i + 1)) w)
    (R (.tuple #[(.int .u32 v), (.bool true)]) w)

def ref1_Get.J0 (R : Value → World → Prop) (bA : Option Addr) (bn : Nat) (bc : Nat) (at_ : Int) (size : Int) (t27 : Bool) (w : World) : Prop :=
  ifP t27
    (R (.tuple #[(.int .u32 0), (.bool false)]) w)
    (ref1_Get.L0 R bA bn bc at_ size 0 0 w)

@[reducible] def ref1_Get.vc (R : Value → World → Prop) (bA : Option Addr) (bn : Nat) (bc : Nat) (at_ : Int) (size : Int) (w : World) : Prop :=
  ifP ((size : Int) != 1) (ifP ((size : Int) != 2) (ifP ((size : Int) != 4) (ref1_Get.J0 R bA bn bc at_ size true w) (Run Try.prog 61 #[(.int .i64 ((bn : Nat) : Int)), (.int .i64 at_), (.int .i64 size)] w fun v w_2 => ∃ t25 : Bool, v = (.bool t25) ∧ ref1_Get.J0 R bA bn bc at_ size (!t25) w_2)) (Run Try.prog 61 #[(.int .i64 ((bn : Nat) : Int)), (.int .i64 at_), (.int .i64 size)] w fun v_2 w_3 => ∃ t25_2 : Bool, v_2 = (.bool t25_2) ∧ ref1_Get.J0 R bA bn bc at_ size (!t25_2) w_3)) (Run Try.prog 61 #[(.int .i64 ((bn : Nat) : Int)), (.int .i64 at_), (.int .i64 size)] w fun v_3 w_4 => ∃ t25_3 : Bool, v_3 = (.bool t25_3) ∧ ref1_Get.J0 R bA bn bc at_ size (!t25_3) w_4)

theorem ref1_Get.B0_eq (R : Value → World → Prop) (bA : Option Addr) (bn : Nat) (bc : Nat) (at_ : Int) (size : Int) (v : Int) (i : Int) (w : World) (ts : Nat → Value) :
    code Try.prog none ref1_Get.live 0 ref1_Get.c0 (thenK (fun st w => loopVC (fun K => code Try.prog none ref1_Get.live 0 ref1_Get.c0 K) (ref1_Get.live 0) (ref1_Get.K0 R) (clearFrom (ref1_Get.live 0) 0 st) w) (ref1_Get.K0 R)) (mergeFrom (ref1_Get.live 0) ts 0 (clearFrom (ref1_Get.live 0) 0 [(.slice bA bn bc), (.int .i64 at_), (.int .i64 size), undef, undef, undef, undef, undef, (.int .u32 v), (.int .i64 i), undef, undef, undef, undef, undef, undef, undef, undef, undef, undef, undef, undef, undef, undef, undef, undef, undef, undef, undef, undef, undef, undef, undef, undef, undef, undef, undef, undef, undef, undef, undef, undef, undef, undef])) w = ref1_Get.B0 R bA bn bc at_ size v i w := by kernel_rfl
theorem ref1_Get.L0_step {R : Value → World → Prop} {bA : Option Addr} {bn : Nat} {bc : Nat} {at_ : Int} {size : Int} {v : Int} {i : Int} {w : World} (h : ref1_Get.B0 R bA bn bc at_ size v i w) : ref1_Get.L0 R bA bn bc at_ size v i w :=
  loop_step (live := ref1_Get.live) (b := 0) (x := ref1_Get.c0) fun ts => Eq.mpr (ref1_Get.B0_eq R bA bn bc at_ size v i w ts) h
theorem ref1_Get.eq (R : Value → World → Prop) (bA : Option Addr) (bn : Nat) (bc : Nat) (at_ : Int) (size : Int) (w : World) : fnVC Try.prog none ref1_Get.live Try.f59 R [(.slice bA bn bc), (.int .i64 at_), (.int .i64 size)] w = ref1_Get.vc R bA bn bc at_ size w := by kernel_rfl
set_option maxHeartbeats 4000000 in
theorem ref1_Get.ok {R : Value → World → Prop} {bA : Option Addr} {bn : Nat} {bc : Nat} {at_ : Int} {size : Int} {w : World} (h : ref1_Get.vc R bA bn bc at_ size w) : Run Try.prog 59 #[(.slice bA bn bc), (.int .i64 at_), (.int .i64 size)] w R := by
  have h2 := Eq.mpr (ref1_Get.eq R bA bn bc at_ size w) h
  exact fn_sound Try.mixed Try.func59 (by kernel_rfl) h2

/-! ### riddle/riddleref7.Head: function 50 -/
noncomputable def ref7_Head.body : Code := bodyOf Try.f50
def ref7_Head.live : Nat → List Nat
  | _ => []
def ref7_Head.J0 (R : Value → World → Prop) (bA : Option Addr) (bn : Nat) (bc : Nat) (at_ : Int) (size : Int) (bits : Int) (w : World) : Prop :=
  Run Try.prog 59 #[(.slice bA bn bc), (.int .i64 at_), (.int .i64 size)] w fun v w_2 => ∃ t250 : Int, ∃ t251 : Bool, v = (.tuple #[(.int .u32 t250), (.bool t251)]) ∧ ifP (!t251)
    (R (.tuple #[(.bool false), (.bool false), (.int .u32 0), (.int .i64 0), (.int .i64 72)]) w_2)
    (0 ≤ (IntKind.i64.wrap ((IntKind.i64.wrap (8 * size)) - 1)) ∧ 0 ≤ bits ∧ ifP ((andNotI .u32 (andNotI .u32 t250 (IntKind.u32.wrap (1 * 2 ^ (min (Int.toNat (IntKind.i64.wrap ((IntKind.i64.wrap (8 * size)) - 1))) (IntKind.bits .u32))))) (IntKind.u32.wrap (Int.tdiv (IntKind.u32.wrap (1 * 2 ^ (min (Int.toNat (IntKind.i64.wrap ((IntKind.i64.wrap (8 * size)) - 1))) (IntKind.bits .u32)))) 2)) : Int) != (andI .u32 t250 (IntKind.u32.wrap ((IntKind.u32.wrap (1 * 2 ^ (min (Int.toNat bits) (IntKind.bits .u32)))) - 1))))
    (R (.tuple #[(.bool false), (.bool false), (.int .u32 0), (.int .i64 0), (.int .i64 75)]) w_2)
    (R (.tuple #[(.bool ((andI .u32 t250 (IntKind.u32.wrap (1 * 2 ^ (min (Int.toNat (IntKind.i64.wrap ((IntKind.i64.wrap (8 * size)) - 1))) (IntKind.bits .u32)))) : Int) != 0)), (.bool ((andI .u32 t250 (IntKind.u32.wrap (Int.tdiv (IntKind.u32.wrap (1 * 2 ^ (min (Int.toNat (IntKind.i64.wrap ((IntKind.i64.wrap (8 * size)) - 1))) (IntKind.bits .u32)))) 2)) : Int) != 0)), (.int .u32 (andI .u32 t250 (IntKind.u32.wrap ((IntKind.u32.wrap (1 * 2 ^ (min (Int.toNat bits) (IntKind.bits .u32)))) - 1)))), (.int .i64 (IntKind.i64.wrap (at_ + size))), (.int .i64 0)]) w_2))

@[reducible] def ref7_Head.vc (R : Value → World → Prop) (l_0 : Bool) (l_1 : Bool) (l_2 : Int) (bA : Option Addr) (bn : Nat) (bc : Nat) (at_ : Int) (w : World) : Prop :=
  letW (w.alloc (.cells #[(.bool l_0), (.bool l_1), (.int .i64 l_2)] 23)) fun w_2 => ∃ t19 : Int, w_2.cell? ((newA w).add 2) = some (.int .i64 t19) ∧ ifP ((t19 : Int) == 2)
    (ref7_Head.J0 R bA bn bc at_ 4 24 w_2)
    (ref7_Head.J0 R bA bn bc at_ 2 12 w_2)

theorem ref7_Head.eq (R : Value → World → Prop) (l_0 : Bool) (l_1 : Bool) (l_2 : Int) (bA : Option Addr) (bn : Nat) (bc : Nat) (at_ : Int) (w : World) : fnVC Try.prog none ref7_Head.live Try.f50 R [(.agg #[(.bool l_0), (.bool l_1), (.int .i64 l_2)]), (.slice bA bn bc), (.int .i64 at_)] w = ref7_Head.vc R l_0 l_1 l_2 bA bn bc at_ w := by kernel_rfl
set_option maxHeartbeats 4000000 in
theorem ref7_Head.ok {R : Value → World → Prop} {l_0 : Bool} {l_1 : Bool} {l_2 : Int} {bA : Option Addr} {bn : Nat} {bc : Nat} {at_ : Int} {w : World} (h : ref7_Head.vc R l_0 l_1 l_2 bA bn bc at_ w) : Run Try.prog 50 #[(.agg #[(.bool l_0), (.bool l_1), (.int .i64 l_2)]), (.slice bA bn bc), (.int .i64 at_)] w R := by
  have h2 := Eq.mpr (ref7_Head.eq R l_0 l_1 l_2 bA bn bc at_ w) h
  exact fn_sound Try.mixed Try.func50 (by kernel_rfl) h2

/-! ### riddle/riddleref7.Piece: function 32 -/
noncomputable def ref7_Piece.body : Code := bodyOf Try.f32
def ref7_Piece.live : Nat → List Nat
  | _ => []
def ref7_Piece.J0 (R : Value → World → Prop) (bA : Option Addr) (bn : Nat) (bc : Nat) (l : Addr) (t4 : Addr) (at_ : Int) (proto : Int) (t44 : Bool) (w : World) : Prop :=
  ifP t44
    (storeRow t4 0 [(.int .u32 proto), (.bool false), (.bool false), (.bool false), (.int .u32 0), (.int .i64 at_), (.int .i64 0), (.int .i64 0), (.int .i64 0)] w fun w_2 => ∃ t4_0 : Int, w_2.cell? t4 = some (.int .u32 t4_0) ∧ ∃ t4_1 : Bool, w_2.cell? (t4.add 1) = some (.bool t4_1) ∧ ∃ t4_2 : Bool, w_2.cell? (t4.add 2) = some (.bool t4_2) ∧ ∃ t4_3 : Bool, w_2.cell? (t4.add 3) = some (.bool t4_3) ∧ ∃ t4_4 : Int, w_2.cell? (t4.add 4) = some (.int .u32 t4_4) ∧ ∃ t4_5 : Int, w_2.cell? (t4.add 5) = some (.int .i64 t4_5) ∧ ∃ t4_6 : Int, w_2.cell? (t4.add 6) = some (.int .i64 t4_6) ∧ ∃ t4_7 : Int, w_2.cell? (t4.add 7) = some (.int .i64 t4_7) ∧ ∃ t4_8 : Int, w_2.cell? (t4.add 8) = some (.int .i64 t4_8) ∧ R (.tuple #[(.agg #[(.int .u32 t4_0), (.bool t4_1), (.bool t4_2), (.bool t4_3), (.int .u32 t4_4), (.int .i64 t4_5), (.int .i64 t4_6), (.int .i64 t4_7), (.int .i64 t4_8)]), (.int .i64 0)]) w_2)
    (∃ t49_0 : Bool, w.cell? l = some (.bool t49_0) ∧ ∃ t49_1 : Bool, w.cell? (l.add 1) = some (.bool t49_1) ∧ ∃ t49_2 : Int, w.cell? (l.add 2) = some (.int .i64 t49_2) ∧ Run Try.prog 50 #[(.agg #[(.bool t49_0), (.bool t49_1), (.int .i64 t49_2)]), (.slice bA bn bc), (.int .i64 at_)] w fun v w_3 => ∃ t520 : Bool, ∃ t521 : Bool, ∃ t522 : Int, ∃ t523 : Int, ∃ t524 : Int, v = (.tuple #[(.bool t520), (.bool t521), (.int .u32 t522), (.int .i64 t523), (.int .i64 t524)]) ∧ ifP ((t524 : Int) != 0)
    (storeRow t4 0 [(.int .u32 0), (.bool false), (.bool false), (.bool false), (.int .u32 0), (.int .i64 0), (.int .i64 0), (.int .i64 0), (.int .i64 0)] w_3 fun w_4 => ∃ t4_0_2 : Int, w_4.cell? t4 = some (.int .u32 t4_0_2) ∧ ∃ t4_1_2 : Bool, w_4.cell? (t4.add 1) = some (.bool t4_1_2) ∧ ∃ t4_2_2 : Bool, w_4.cell? (t4.add 2) = some (.bool t4_2_2) ∧ ∃ t4_3_2 : Bool, w_4.cell? (t4.add 3) = some (.bool t4_3_2) ∧ ∃ t4_4_2 : Int, w_4.cell? (t4.add 4) = some (.int .u32 t4_4_2) ∧ ∃ t4_5_2 : Int, w_4.cell? (t4.add 5) = some (.int .i64 t4_5_2) ∧ ∃ t4_6_2 : Int, w_4.cell? (t4.add 6) = some (.int .i64 t4_6_2) ∧ ∃ t4_7_2 : Int, w_4.cell? (t4.add 7) = some (.int .i64 t4_7_2) ∧ ∃ t4_8_2 : Int, w_4.cell? (t4.add 8) = some (.int .i64 t4_8_2) ∧ R (.tuple #[(.agg #[(.int .u32 t4_0_2), (.bool t4_1_2), (.bool t4_2_2), (.bool t4_3_2), (.int .u32 t4_4_2), (.int .i64 t4_5_2), (.int .i64 t4_6_2), (.int .i64 t4_7_2), (.int .i64 t4_8_2)]), (.int .i64 t524)]) w_4)
    (storeRow t4 0 [(.int .u32 proto), (.bool true), (.bool t520), (.bool t521), (.int .u32 t522), (.int .i64 t523), (.int .i64 0), (.int .i64 0), (.int .i64 0)] w_3 fun w_5 => ∃ t4_0_3 : Int, w_5.cell? t4 = some (.int .u32 t4_0_3) ∧ ∃ t4_1_3 : Bool, w_5.cell? (t4.add 1) = some (.bool t4_1_3) ∧ ∃ t4_2_3 : Bool, w_5.cell? (t4.add 2) = some (.bool t4_2_3) ∧ ∃ t4_3_3 : Bool, w_5.cell? (t4.add 3) = some (.bool t4_3_3) ∧ ∃ t4_4_3 : Int, w_5.cell? (t4.add 4) = some (.int .u32 t4_4_3) ∧ ∃ t4_5_3 : Int, w_5.cell? (t4.add 5) = some (.int .i64 t4_5_3) ∧ ∃ t4_6_3 : Int, w_5.cell? (t4.add 6) = some (.int .i64 t4_6_3) ∧ ∃ t4_7_3 : Int, w_5.cell? (t4.add 7) = some (.int .i64 t4_7_3) ∧ ∃ t4_8_3 : Int, w_5.cell? (t4.add 8) = some (.int .i64 t4_8_3) ∧ R (.tuple #[(.agg #[(.int .u32 t4_0_3), (.bool t4_1_3), (.bool t4_2_3), (.bool t4_3_3), (.int .u32 t4_4_3), (.int .i64 t4_5_3), (.int .i64 t4_6_3), (.int .i64 t4_7_3), (.int .i64 t4_8_3)]), (.int .i64 0)]) w_5))

@[reducible] def ref7_Piece.vc (R : Value → World → Prop) (l_0 : Bool) (l_1 : Bool) (l_2 : Int) (bA : Option Addr) (bn : Nat) (bc : Nat) (w : World) : Prop :=
  letW (w.alloc (.cells #[(.bool l_0), (.bool l_1), (.int .i64 l_2)] 23)) fun w_2 => letW (w_2.alloc (.cells #[(.int .u32 0), (.bool false), (.bool false), (.bool false), (.int .u32 0), (.int .i64 0), (.int .i64 0), (.int .i64 0), (.int .i64 0)] 54)) fun w_3 => ifP (decide ((((bn : Nat) : Int) : Int) > 65535))
    (storeRow (newA w_2) 0 [(.int .u32 0), (.bool false), (.bool false), (.bool false), (.int .u32 0), (.int .i64 0), (.int .i64 0), (.int .i64 0), (.int .i64 0)] w_3 fun w_4 => ∃ t4_0 : Int, w_4.cell? (newA w_2) = some (.int .u32 t4_0) ∧ ∃ t4_1 : Bool, w_4.cell? ((newA w_2).add 1) = some (.bool t4_1) ∧ ∃ t4_2 : Bool, w_4.cell? ((newA w_2).add 2) = some (.bool t4_2) ∧ ∃ t4_3 : Bool, w_4.cell? ((newA w_2).add 3) = some (.bool t4_3) ∧ ∃ t4_4 : Int, w_4.cell? ((newA w_2).add 4) = some (.int .u32 t4_4) ∧ ∃ t4_5 : Int, w_4.cell? ((newA w_2).add 5) = some (.int .i64 t4_5) ∧ ∃ t4_6 : Int, w_4.cell? ((newA w_2).add 6) = some (.int .i64 t4_6) ∧ ∃ t4_7 : Int, w_4.cell? ((newA w_2).add 7) = some (.int .i64 t4_7) ∧ ∃ t4_8 : Int, w_4.cell? ((newA w_2).add 8) = some (.int .i64 t4_8) ∧ R (.tuple #[(.agg #[(.int .u32 t4_0), (.bool t4_1), (.bool t4_2), (.bool t4_3), (.int .u32 t4_4), (.int .i64 t4_5), (.int .i64 t4_6), (.int .i64 t4_7), (.int .i64 t4_8)]), (.int .i64 71)]) w_4)
    (∃ t17_0 : Bool, w_3.cell? (newA w) = some (.bool t17_0) ∧ ∃ t17_1 : Bool, w_3.cell? ((newA w).add 1) = some (.bool t17_1) ∧ ∃ t17_2 : Int, w_3.cell? ((newA w).add 2) = some (.int .i64 t17_2) ∧ Run Try.prog 48 #[(.agg #[(.bool t17_0), (.bool t17_1), (.int .i64 t17_2)]), (.slice bA bn bc)] w_3 fun v w_5 => ∃ t190 : Int, ∃ t191 : Int, v = (.tuple #[(.int .i64 t190), (.int .i64 t191)]) ∧ ifP ((t191 : Int) != 0)
    (storeRow (newA w_2) 0 [(.int .u32 0), (.bool false), (.bool false), (.bool false), (.int .u32 0), (.int .i64 0), (.int .i64 0), (.int .i64 0), (.int .i64 0)] w_5 fun w_6 => ∃ t4_0_2 : Int, w_6.cell? (newA w_2) = some (.int .u32 t4_0_2) ∧ ∃ t4_1_2 : Bool, w_6.cell? ((newA w_2).add 1) = some (.bool t4_1_2) ∧ ∃ t4_2_2 : Bool, w_6.cell? ((newA w_2).add 2) = some (.bool t4_2_2) ∧ ∃ t4_3_2 : Bool, w_6.cell? ((newA w_2).add 3) = some (.bool t4_3_2) ∧ ∃ t4_4_2 : Int, w_6.cell? ((newA w_2).add 4) = some (.int .u32 t4_4_2) ∧ ∃ t4_5_2 : Int, w_6.cell? ((newA w_2).add 5) = some (.int .i64 t4_5_2) ∧ ∃ t4_6_2 : Int, w_6.cell? ((newA w_2).add 6) = some (.int .i64 t4_6_2) ∧ ∃ t4_7_2 : Int, w_6.cell? ((newA w_2).add 7) = some (.int .i64 t4_7_2) ∧ ∃ t4_8_2 : Int, w_6.cell? ((newA w_2).add 8) = some (.int .i64 t4_8_2) ∧ R (.tuple #[(.agg #[(.int .u32 t4_0_2), (.bool t4_1_2), (.bool t4_2_2), (.bool t4_3_2), (.int .u32 t4_4_2), (.int .i64 t4_5_2), (.int .i64 t4_6_2), (.int .i64 t4_7_2), (.int .i64 t4_8_2)]), (.int .i64 t191)]) w_6)
    (∃ t27_0 : Bool, w_5.cell? (newA w) = some (.bool t27_0) ∧ ∃ t27_1 : Bool, w_5.cell? ((newA w).add 1) = some (.bool t27_1) ∧ ∃ t27_2 : Int, w_5.cell? ((newA w).add 2) = some (.int .i64 t27_2) ∧ Run Try.prog 49 #[(.agg #[(.bool t27_0), (.bool t27_1), (.int .i64 t27_2)]), (.slice bA bn bc), (.int .i64 t190)] w_5 fun v_2 w_7 => ∃ t300 : Int, ∃ t301 : Int, ∃ t302 : Int, v_2 = (.tuple #[(.int .u32 t300), (.int .i64 t301), (.int .i64 t302)]) ∧ ifP ((t302 : Int) != 0)
    (storeRow (newA w_2) 0 [(.int .u32 0), (.bool false), (.bool false), (.bool false), (.int .u32 0), (.int .i64 0), (.int .i64 0), (.int .i64 0), (.int .i64 0)] w_7 fun w_8 => ∃ t4_0_3 : Int, w_8.cell? (newA w_2) = some (.int .u32 t4_0_3) ∧ ∃ t4_1_3 : Bool, w_8.cell? ((newA w_2).add 1) = some (.bool t4_1_3) ∧ ∃ t4_2_3 : Bool, w_8.cell? ((newA w_2).add 2) = some (.bool t4_2_3) ∧ ∃ t4_3_3 : Bool, w_8.cell? ((newA w_2).add 3) = some (.bool t4_3_3) ∧ ∃ t4_4_3 : Int, w_8.cell? ((newA w_2).add 4) = some (.int .u32 t4_4_3) ∧ ∃ t4_5_3 : Int, w_8.cell? ((newA w_2).add 5) = some (.int .i64 t4_5_3) ∧ ∃ t4_6_3 : Int, w_8.cell? ((newA w_2).add 6) = some (.int .i64 t4_6_3) ∧ ∃ t4_7_3 : Int, w_8.cell? ((newA w_2).add 7) = some (.int .i64 t4_7_3) ∧ ∃ t4_8_3 : Int, w_8.cell? ((newA w_2).add 8) = some (.int .i64 t4_8_3) ∧ R (.tuple #[(.agg #[(.int .u32 t4_0_3), (.bool t4_1_3), (.bool t4_2_3), (.bool t4_3_3), (.int .u32 t4_4_3), (.int .i64 t4_5_3), (.int .i64 t4_6_3), (.int .i64 t4_7_3), (.int .i64 t4_8_3)]), (.int .i64 t302)]) w_8)
    (∃ t39 : Int, w_7.cell? ((newA w).add 2) = some (.int .i64 t39) ∧ ifP ((t39 : Int) == 0) (ref7_Piece.J0 R bA bn bc (newA w) (newA w_2) t301 t300 true w_7) (ref7_Piece.J0 R bA bn bc (newA w) (newA w_2) t301 t300 ((t300 : Int) != 61) w_7))))

theorem ref7_Piece.eq (R : Value → World → Prop) (l_0 : Bool) (l_1 : Bool) (l_2 : Int) (bA : Option Addr) (bn : Nat) (bc : Nat) (w : World) : fnVC Try.prog none ref7_Piece.live Try.f32 R [(.agg #[(.bool l_0), (.bool l_1), (.int .i64 l_2)]), (.slice bA bn bc)] w = ref7_Piece.vc R l_0 l_1 l_2 bA bn bc w := by kernel_rfl
set_option maxHeartbeats 4000000 in
theorem ref7_Piece.ok {R : Value → World → Prop} {l_0 : Bool} {l_1 : Bool} {l_2 : Int} {bA : Option Addr} {bn : Nat} {bc : Nat} {w : World} (h : ref7_Piece.vc R l_0 l_1 l_2 bA bn bc w) : Run Try.prog 32 #[(.agg #[(.bool l_0), (.bool l_1), (.int .i64 l_2)]), (.slice bA bn bc)] w R := by
  have h2 := Eq.mpr (ref7_Piece.eq R l_0 l_1 l_2 bA bn bc w) h
  exact fn_sound Try.mixed Try.func32 (by kernel_rfl) h2

/-! ### (*riddle/riddleref9.Bundle).Feed: function 21 -/
noncomputable def ref9_Bundle_Feed.body : Code := bodyOf Try.f21
def ref9_Bundle_Feed.live : Nat → List Nat
  | _ => []
def ref9_Bundle_Feed.J3 (R : Value → World → Prop) (u : Option Addr) (t101 : Bool) (w : World) : Prop :=
  ifP t101
    (R (.tuple #[(.slice none 0 0), (.bool false), (.int .i64 0)]) w)
    (∃ t103p : Addr, u = some t103p ∧ ∃ (t105A : Option Addr) (t105n t105c : Nat), w.cell? (t103p.add 5) = some (.slice t105A t105n t105c) ∧ ∃ t107p : Addr, u = some t107p ∧ (∃ u : Value, w.cell? (t107p.add 4) = some u) ∧ w.frozen? (t107p.add 4) = false ∧ letW (w.setCell (t107p.add 4) (.bool false)) fun w_2 => ∃ t110p : Addr, u = some t110p ∧ (∃ u : Value, w_2.cell? (t110p.add 5) = some u) ∧ w_2.frozen? (t110p.add 5) = false ∧ letW (w_2.setCell (t110p.add 5) (.slice none 0 0)) fun w_3 => R (.tuple #[(.slice t105A t105n t105c), (.bool true), (.int .i64 0)]) w_3)

def ref9_Bundle_Feed.J2 (R : Value → World → Prop) (u : Option Addr) (v : Addr) (w : World) : Prop :=
  ∃ t81p : Addr, u = some t81p ∧ ∃ (t83A : Option Addr) (t83n t83c : Nat), w.cell? (t81p.add 5) = some (.slice t83A t83n t83c) ∧ ifP (decide ((((t83n : Nat) : Int) : Int) > 65535))
    (∃ t87p : Addr, u = some t87p ∧ (∃ u : Value, w.cell? (t87p.add 4) = some u) ∧ w.frozen? (t87p.add 4) = false ∧ letW (w.setCell (t87p.add 4) (.bool false)) fun w_2 => ∃ t90p : Addr, u = some t90p ∧ (∃ u : Value, w_2.cell? (t90p.add 5) = some u) ∧ w_2.frozen? (t90p.add 5) = false ∧ letW (w_2.setCell (t90p.add 5) (.slice none 0 0)) fun w_3 => R (.tuple #[(.slice none 0 0), (.bool false), (.int .i64 0)]) w_3)
    (∃ t93p : Addr, u = some t93p ∧ ∃ t95 : Bool, w.cell? (t93p.add 4) = some (.bool t95) ∧ ifP (!t95) (ref9_Bundle_Feed.J3 R u true w) (∃ t99 : Bool, w.cell? (v.add 3) = some (.bool t99) ∧ ref9_Bundle_Feed.J3 R u (!t99) w))

def ref9_Bundle_Feed.J4 (R : Value → World → Prop) (u : Option Addr) (v : Addr) (w : World) : Prop :=
  ref9_Bundle_Feed.J2 R u v w

def ref9_Bundle_Feed.J1 (R : Value → World → Prop) (u : Option Addr) (bA : Option Addr) (bn : Nat) (bc : Nat) (v : Addr) (w : World) : Prop :=
  ∃ t51 : Bool, w.cell? (v.add 2) = some (.bool t51) ∧ ifP t51
    (∃ t53p : Addr, u = some t53p ∧ (∃ u : Value, w.cell? (t53p.add 4) = some u) ∧ w.frozen? (t53p.add 4) = false ∧ letW (w.setCell (t53p.add 4) (.bool true)) fun w_2 => letW (w_2.alloc (.cells #[] 5)) fun w_3 => ∃ t59 : Int, w_3.cell? (v.add 5) = some (.int .i64 t59) ∧ (0 : Int) ≤ t59 ∧ (t59 : Int) ≤ ((bn : Nat) : Int) ∧ (((bn : Nat) : Int) : Int) ≤ ((bc : Nat) : Int) ∧ ∃ (v_2 : Value) (w_4 : World), (Builtin.append_ #[24, 24] 24 #[(.slice (some (newA w_2)) 0 0), (.slice (subA bA bc (Int.toNat t59) 1) (bn - (Int.toNat t59)) (bc - (Int.toNat t59)))]).run Try.prog w_3 = .ok v_2 w_4 ∧ ∃ (t61A : Option Addr) (t61n t61c : Nat), v_2 = (.slice t61A t61n t61c) ∧ ∃ t62p : Addr, u = some t62p ∧ (∃ u : Value, w_4.cell? (t62p.add 5) = some u) ∧ w_4.frozen? (t62p.add 5) = false ∧ letW (w_4.setCell (t62p.add 5) (.slice t61A t61n t61c)) fun w_5 => ref9_Bundle_Feed.J2 R u v w_5)
    (∃ t65p : Addr, u = some t65p ∧ ∃ t67 : Bool, w.cell? (t65p.add 4) = some (.bool t67) ∧ ifP t67
    (∃ S_ : World → Prop, S_ w.drew ∧ letW w.drew fun w_6 => ∃ t70p : Addr, u = some t70p ∧ ∃ (t72A : Option Addr) (t72n t72c : Nat), (∀ u_2 : World, S_ u_2 → u_2.cell? (t70p.add 5) = some (.slice t72A t72n t72c)) ∧ ∃ t75 : Int, (∀ u_3 : World, S_ u_3 → u_3.cell? (v.add 5) = some (.int .i64 t75)) ∧ (0 : Int) ≤ t75 ∧ (t75 : Int) ≤ ((bn : Nat) : Int) ∧ (((bn : Nat) : Int) : Int) ≤ ((bc : Nat) : Int) ∧ ∃ (v_3 : Value) (w_7 : World), (Builtin.append_ #[24, 24] 24 #[(.slice t72A t72n t72c), (.slice (subA bA bc (Int.toNat t75) 1) (bn - (Int.toNat t75)) (bc - (Int.toNat t75)))]).run Try.prog w_6 = .ok v_3 w_7 ∧ ∃ (t77A : Option Addr) (t77n t77c : Nat), v_3 = (.slice t77A t77n t77c) ∧ ∃ t78p : Addr, u = some t78p ∧ (∃ u : Value, w_7.cell? (t78p.add 5) = some u) ∧ w_7.frozen? (t78p.add 5) = false ∧ letW (w_7.setCell (t78p.add 5) (.slice t77A t77n t77c)) fun w_8 => ref9_Bundle_Feed.J4 R u v w_8)
    (ref9_Bundle_Feed.J2 R u v w))

def ref9_Bundle_Feed.J0 (R : Value → World → Prop) (u : Option Addr) (bA : Option Addr) (bn : Nat) (bc : Nat) (v : Addr) (w : World) : Prop :=
  ∃ S_ : World → Prop, S_ w.drew ∧ letW w.drew fun w_2 => ∃ t40 : Int, (∀ u_2 : World, S_ u_2 → u_2.cell? (v.add 4) = some (.int .u32 t40)) ∧ ∃ t43p : Addr, u = some t43p ∧ ∃ t45_0 : Bool, (∀ u_3 : World, S_ u_3 → u_3.cell? t43p = some (.bool t45_0)) ∧ ∃ t45_1 : Bool, (∀ u_4 : World, S_ u_4 → u_4.cell? (t43p.add 1) = some (.bool t45_1)) ∧ ∃ t45_2 : Int, (∀ u_5 : World, S_ u_5 → u_5.cell? (t43p.add 2) = some (.int .i64 t45_2)) ∧ Run Try.prog 27 #[(.agg #[(.bool t45_0), (.bool t45_1), (.int .i64 t45_2)])] w_2 fun v_2 w_3 => ∃ t46 : Int, v_2 = (.int .u32 t46) ∧ S_ w_3 ∧ t46 ≠ 0 ∧ ∃ t48p : Addr, u = some t48p ∧ (∃ u : Value, w_3.cell? (t48p.add 3) = some u) ∧ w_3.frozen? (t48p.add 3) = false ∧ letW (w_3.setCell (t48p.add 3) (.int .u32 (Int.tmod (IntKind.u32.wrap (t40 + 1)) t46))) fun w_4 => ref9_Bundle_Feed.J1 R u bA bn bc v w_4

@[reducible] def ref9_Bundle_Feed.vc (R : Value → World → Prop) (u : Option Addr) (bA : Option Addr) (bn : Nat) (bc : Nat) (w : World) : Prop :=
  ∃ t12p : Addr, u = some t12p ∧ ∃ t14_0 : Bool, w.cell? t12p = some (.bool t14_0) ∧ ∃ t14_1 : Bool, w.cell? (t12p.add 1) = some (.bool t14_1) ∧ ∃ t14_2 : Int, w.cell? (t12p.add 2) = some (.int .i64 t14_2) ∧ Run Try.prog 32 #[(.agg #[(.bool t14_0), (.bool t14_1), (.int .i64 t14_2)]), (.slice bA bn bc)] w fun v w_2 => ∃ t160_0 : Int, ∃ t160_1 : Bool, ∃ t160_2 : Bool, ∃ t160_3 : Bool, ∃ t160_4 : Int, ∃ t160_5 : Int, ∃ t160_6 : Int, ∃ t160_7 : Int, ∃ t160_8 : Int, ∃ t161 : Int, v = (.tuple #[(.agg #[(.int .u32 t160_0), (.bool t160_1), (.bool t160_2), (.bool t160_3), (.int .u32 t160_4), (.int .i64 t160_5), (.int .i64 t160_6), (.int .i64 t160_7), (.int .i64 t160_8)]), (.int .i64 t161)]) ∧ letW (w_2.alloc (.cells #[(.int .u32 0), (.bool false), (.bool false), (.bool false), (.int .u32 0), (.int .i64 0), (.int .i64 0), (.int .i64 0), (.int .i64 0)] 54)) fun w_3 => storeRow (newA w_2) 0 [(.int .u32 t160_0), (.bool t160_1), (.bool t160_2), (.bool t160_3), (.int .u32 t160_4), (.int .i64 t160_5), (.int .i64 t160_6), (.int .i64 t160_7), (.int .i64 t160_8)] w_3 fun w_4 => ifP ((t161 : Int) != 0)
    (R (.tuple #[(.slice none 0 0), (.bool false), (.int .i64 t161)]) w_4)
    (∃ t23 : Bool, w_4.cell? ((newA w_2).add 1) = some (.bool t23) ∧ ifP (!t23)
    (R (.tuple #[(.slice none 0 0), (.bool false), (.int .i64 94)]) w_4)
    (letW w_4.drew fun w_5 => ∃ t26 : Int, w_5.cell? ((newA w_2).add 4) = some (.int .u32 t26) ∧ ∃ t28p : Addr, u = some t28p ∧ ∃ t30 : Int, w_5.cell? (t28p.add 3) = some (.int .u32 t30) ∧ ifP ((t26 : Int) != t30)
    (∃ t33p : Addr, u = some t33p ∧ (∃ u : Value, w_5.cell? (t33p.add 4) = some u) ∧ w_5.frozen? (t33p.add 4) = false ∧ letW (w_5.setCell (t33p.add 4) (.bool false)) fun w_6 => ∃ t36p : Addr, u = some t36p ∧ (∃ u : Value, w_6.cell? (t36p.add 5) = some u) ∧ w_6.frozen? (t36p.add 5) = false ∧ letW (w_6.setCell (t36p.add 5) (.slice none 0 0)) fun w_7 => ref9_Bundle_Feed.J0 R u bA bn bc (newA w_2) w_7)
    (ref9_Bundle_Feed.J0 R u bA bn bc (newA w_2) w_5)))

theorem ref9_Bundle_Feed.eq (R : Value → World → Prop) (u : Option Addr) (bA : Option Addr) (bn : Nat) (bc : Nat) (w : World) : fnVC Try.prog none ref9_Bundle_Feed.live Try.f21 R [(.pointer u), (.slice bA bn bc)] w = ref9_Bundle_Feed.vc R u bA bn bc w := by kernel_rfl
set_option maxHeartbeats 4000000 in
theorem ref9_Bundle_Feed.ok {R : Value → World → Prop} {u : Option Addr} {bA : Option Addr} {bn : Nat} {bc : Nat} {w : World} (h : ref9_Bundle_Feed.vc R u bA bn bc w) : Run Try.prog 21 #[(.pointer u), (.slice bA bn bc)] w R := by
  have h2 := Eq.mpr (ref9_Bundle_Feed.eq R u bA bn bc w) h
  exact fn_sound Try.mixed Try.func21 (by kernel_rfl) h2

/-! ### riddle/riddlelaw9.BundleFeeds: function 4 -/
noncomputable def law9_BundleFeeds.body : Code := bodyOf Try.f4
def law9_BundleFeeds.live : Nat → List Nat
  | 0 => [2, 7, 9, 11, 13, 14]
  | _ => []
noncomputable def law9_BundleFeeds.c0 : Code := sub law9_BundleFeeds.body [1, 1, 1, 1, 1, 1, 1, 0, 1, 0, 0]
def law9_BundleFeeds.K0 (R : Value → World → Prop) : Ex → St → World → Prop := (blockK 0 (thenK (fun st w => code Try.prog none law9_BundleFeeds.live 0 (sub law9_BundleFeeds.body [1, 1, 1, 1, 1, 1, 1, 1]) (retK Try.prog Try.f4 R) st w) (retK Try.prog Try.f4 R)))
def law9_BundleFeeds.L0 (R : Value → World → Prop) (framesA : Option Addr) (framesn : Nat) (framesc : Nat) (want : Addr) (u : Option Addr) (o : Option Addr) (other : Addr) (i : Int) (w : World) : Prop :=
  loopVC (fun K => code Try.prog none law9_BundleFeeds.live 0 law9_BundleFeeds.c0 K) (law9_BundleFeeds.live 0) (law9_BundleFeeds.K0 R) [undef, undef, (.slice framesA framesn framesc), undef, undef, undef, undef, (.pointer (some want)), undef, (.pointer u), undef, (.pointer o), undef, (.pointer (some other)), (.int .i64 i), undef, undef, undef, undef, undef, undef, undef, undef, undef, undef, undef, undef, undef, undef, undef, undef, undef, undef, undef, undef, undef, undef, undef, undef, undef, undef, undef, undef, undef, undef, undef, undef, undef, undef, undef, undef, undef, undef, undef, undef, undef, undef, undef, undef, undef, undef, undef, undef, undef, undef, undef, undef, undef, undef, undef, undef, undef, undef, undef, undef, undef, undef, undef, undef, undef, undef, undef, undef, undef, undef, undef, undef, undef, undef, undef, undef, undef, undef, undef, undef, undef, undef, undef, undef, undef, undef, undef, undef, undef, undef, undef, undef, undef, undef, undef, undef, undef, undef, undef, undef, undef, undef, undef, undef, undef, undef, undef, undef, undef, undef, undef, undef, undef, undef, undef, undef, undef, undef, undef, undef, undef, undef, undef, undef, undef, undef, undef, undef, undef, undef, undef, undef, undef, undef, undef, undef, undef, undef, undef, undef, undef, undef, undef, undef, undef, undef, undef, undef, undef, undef, undef, undef, undef, undef, undef, undef, undef, undef, undef, undef, undef, undef, undef, undef, undef, undef, undef] w
def law9_BundleFeeds.J3 (R : Value → World → Prop) (framesA : Option Addr) (framesn : Nat) (framesc : Nat) (want : Addr) (u : Option Addr) (o : Option Addr) (other : Addr) (i : Int) (w : World) : Prop :=
  law9_BundleFeeds.L0 R framesA framesn framesc want u o other (IntKind.i64.wrap (i + 1)) w

def law9_BundleFeeds.J2 (R : Value → World → Prop) (framesA : Option Addr) (framesn : Nat) (framesc : Nat) (want : Addr) (u : Option Addr) (o : Option Addr) (other : Addr) (i : Int) (t180 : Bool) (w : World) : Prop :=
  ifP t180
    (R (.bool false) w)
    (law9_BundleFeeds.J3 R framesA framesn framesc want u o other i w)

def law9_BundleFeeds.J1 (R : Value → World → Prop) (framesA : Option Addr) (framesn : Nat) (framesc : Nat) (want : Addr) (u : Option Addr) (o : Option Addr) (other : Addr) (i : Int) (xA : Option Addr) (xn : Nat) (xc : Nat) (t141 : Bool) (w : World) : Prop :=
  ifP t141
    (R (.bool false) w)
    (Run Try.prog 16 #[(.slice xA xn xc)] w fun v w_2 => v = (.tuple #[]) ∧ ifP ((Int.tmod i 2 : Int) == 1)
    (0 ≤ (i : Int) ∧ (i : Int) < ((framesn : Nat) : Int) ∧ ∃ t150p : Addr, framesA = some t150p ∧ ∃ (t151A : Option Addr) (t151n t151c : Nat), w_2.cell? (t150p.add (Int.toNat i * 1)) = some (.slice t151A t151n t151c) ∧ Run Try.prog 21 #[(.pointer (some other)), (.slice t151A t151n t151c)] w_2 fun v_2 w_3 => ∃ (t1520A : Option Addr) (t1520n t1520c : Nat), ∃ t1521 : Bool, ∃ t1522 : Int, v_2 = (.tuple #[(.slice t1520A t1520n t1520c), (.bool t1521), (.int .i64 t1522)]) ∧ 0 ≤ (i : Int) ∧ (i : Int) < ((framesn : Nat) : Int) ∧ ∃ t160p : Addr, framesA = some t160p ∧ ∃ (t161A : Option Addr) (t161n t161c : Nat), w_3.cell? (t160p.add (Int.toNat i * 1)) = some (.slice t161A t161n t161c) ∧ Run Try.prog 14 #[(.slice t161A t161n t161c)] w_3 fun v_3 w_4 => ∃ (t162A : Option Addr) (t162n t162c : Nat), v_3 = (.slice t162A t162n t162c) ∧ Run Try.prog 22 #[(.pointer o), (.slice t162A t162n t162c)] w_4 fun v_4 w_5 => ∃ (t1630A : Option Addr) (t1630n t1630c : Nat), ∃ t1631 : Bool, ∃ t1632 : Int, v_4 = (.tuple #[(.slice t1630A t1630n t1630c), (.bool t1631), (.int .i64 t1632)]) ∧ ifP (!(t1631 == t1521)) (law9_BundleFeeds.J2 R framesA framesn framesc want u o other i true w_5) (ifP ((t1632 : Int) != t1522) (law9_BundleFeeds.J2 R framesA framesn framesc want u o other i true w_5) (Run Try.prog 17 #[(.slice t1630A t1630n t1630c), (.slice t1520A t1520n t1520c)] w_5 fun v_5 w_6 => ∃ t178 : Bool, v_5 = (.bool t178) ∧ law9_BundleFeeds.J2 R framesA framesn framesc want u o other i (!t178) w_6)))
    (law9_BundleFeeds.J3 R framesA framesn framesc want u o other i w_2))

@[reducible] def law9_BundleFeeds.B0 (R : Value → World → Prop) (framesA : Option Addr) (framesn : Nat) (framesc : Nat) (want : Addr) (u : Option Addr) (o : Option Addr) (other : Addr) (i : Int) (w : World) : Prop :=
  ifP (decide ((i : Int) < ((framesn : Nat) : Int)))
    (0 ≤ (i : Int) ∧ (i : Int) < ((framesn : Nat) : Int) ∧ ∃ t83p : Addr, framesA = some t83p ∧ ∃ (t84A : Option Addr) (t84n t84c : Nat), w.cell? (t83p.add (Int.toNat i * 1)) = some (.slice t84A t84n t84c) ∧ Run Try.prog 21 #[(.pointer (some want)), (.slice t84A t84n t84c)] w fun v w_2 => ∃ (t850A : Option Addr) (t850n t850c : Nat), ∃ t851 : Bool, ∃ t852 : Int, v = (.tuple #[(.slice t850A t850n t850c), (.bool t851), (.int .i64 t852)]) ∧ 0 ≤ (i : Int) ∧ (i : Int) < ((framesn : Nat) : Int) ∧ ∃ t91p : Addr, framesA = some t91p ∧ ∃ (t92A : Option Addr) (t92n t92c : Nat), w_2.cell? (t91p.add (Int.toNat i * 1)) = some (.slice t92A t92n t92c) ∧ Run Try.prog 11 #[(.slice t92A t92n t92c)] w_2 fun v_2 w_3 => ∃ (t93A : Option Addr) (t93n t93c : Nat), v_2 = (.slice t93A t93n t93c) ∧ Run Try.prog 22 #[(.pointer u), (.slice t93A t93n t93c)] w_3 fun v_3 w_4 => ∃ (t970A : Option Addr) (t970n t970c : Nat), ∃ t971 : Bool, ∃ t972 : Int, v_3 = (.tuple #[(.slice t970A t970n t970c), (.bool t971), (.int .i64 t972)]) ∧ Run Try.prog 23 #[(.pointer u)] w_4 fun v_4 w_5 => ∃ t1030 : Int, ∃ t1031 : Int, v_4 = (.tuple #[(.int .u32 t1030), (.int .i64 t1031)]) ∧ 0 ≤ (i : Int) ∧ (i : Int) < ((framesn : Nat) : Int) ∧ ∃ t109p : Addr, framesA = some t109p ∧ ∃ (t110A : Option Addr) (t110n t110c : Nat), w_5.cell? (t109p.add (Int.toNat i * 1)) = some (.slice t110A t110n t110c) ∧ Run Try.prog 13 #[(.slice t93A t93n t93c), (.slice t110A t110n t110c)] w_5 fun v_5 w_6 => ∃ t111 : Bool, v_5 = (.bool t111) ∧ ifP (!t111) (law9_BundleFeeds.J1 R framesA framesn framesc want u o other i t970A t970n t970c true w_6) (ifP (!(t971 == t851)) (law9_BundleFeeds.J1 R framesA framesn framesc want u o other i t970A t970n t970c true w_6) (ifP ((t972 : Int) != t852) (law9_BundleFeeds.J1 R framesA framesn framesc want u o other i t970A t970n t970c true w_6) (Run Try.prog 17 #[(.slice t970A t970n t970c), (.slice t850A t850n t850c)] w_6 fun v_6 w_7 => ∃ t126 : Bool, v_6 = (.bool t126) ∧ ifP (!t126) (law9_BundleFeeds.J1 R framesA framesn framesc want u o other i t970A t970n t970c true w_7) (∃ t132 : Int, w_7.cell? (want.add 3) = some (.int .u32 t132) ∧ ifP ((t1030 : Int) != t132) (law9_BundleFeeds.J1 R framesA framesn framesc want u o other i t970A t970n t970c true w_7) (∃ (t138A : Option Addr) (t138n t138c : Nat), w_7.cell? (want.add 5) = some (.slice t138A t138n t138c) ∧ law9_BundleFeeds.J1 R framesA framesn framesc want u o other i t970A t970n t970c ((t1031 : Int) != ((t138n : Nat) : Int)) w_7))))))
    (Run Try.prog 18 #[] w fun v_7 w_8 => ∃ t181 : Bool, v_7 = (.bool t181) ∧ R (.bool t181) w_8)

def law9_BundleFeeds.J0 (R : Value → World → Prop) (framesA : Option Addr) (framesn : Nat) (framesc : Nat) (want : Addr) (code_ : Int) (u : Option Addr) (o : Option Addr) (t69 : Bool) (w : World) : Prop :=
  ifP t69
    (R (.bool false) w)
    (ifP ((code_ : Int) != 0)
    (Run Try.prog 18 #[] w fun v w_2 => ∃ t72 : Bool, v = (.bool t72) ∧ R (.bool t72) w_2)
    (∃ t73_0 : Bool, w.cell? want = some (.bool t73_0) ∧ ∃ t73_1 : Bool, w.cell? (want.add 1) = some (.bool t73_1) ∧ ∃ t73_2 : Int, w.cell? (want.add 2) = some (.int .i64 t73_2) ∧ ∃ t73_3 : Int, w.cell? (want.add 3) = some (.int .u32 t73_3) ∧ ∃ t73_4 : Bool, w.cell? (want.add 4) = some (.bool t73_4) ∧ ∃ (t73_5A : Option Addr) (t73_5n t73_5c : Nat), w.cell? (want.add 5) = some (.slice t73_5A t73_5n t73_5c) ∧ letW (w.alloc (.cells #[(.bool false), (.bool false), (.int .i64 0), (.int .u32 0), (.bool false), (.slice none 0 0)] 37)) fun w_3 => storeRow (newA w) 0 [(.bool t73_0), (.bool t73_1), (.int .i64 t73_2), (.int .u32 t73_3), (.bool t73_4), (.slice t73_5A t73_5n t73_5c)] w_3 fun w_4 => law9_BundleFeeds.L0 R framesA framesn framesc want u o (newA w) 0 w_4))

@[reducible] def law9_BundleFeeds.vc (R : Value → World → Prop) (k_0 : Bool) (k_1 : Bool) (k_2 : Int) (next : Int) (framesA : Option Addr) (framesn : Nat) (framesc : Nat) (w : World) : Prop :=
  letW (w.alloc (.cells #[(.bool k_0), (.bool k_1), (.int .i64 k_2)] 23)) fun w_2 => ∃ t31_0 : Bool, w_2.cell? (newA w) = some (.bool t31_0) ∧ ∃ t31_1 : Bool, w_2.cell? ((newA w).add 1) = some (.bool t31_1) ∧ ∃ t31_2 : Int, w_2.cell? ((newA w).add 2) = some (.int .i64 t31_2) ∧ Run Try.prog 19 #[(.agg #[(.bool t31_0), (.bool t31_1), (.int .i64 t31_2)]), (.int .u32 next)] w_2 fun v w_3 => ∃ t330_0 : Bool, ∃ t330_1 : Bool, ∃ t330_2 : Int, ∃ t330_3 : Int, ∃ t330_4 : Bool, ∃ (t330_5A : Option Addr) (t330_5n t330_5c : Nat), ∃ t331 : Int, v = (.tuple #[(.agg #[(.bool t330_0), (.bool t330_1), (.int .i64 t330_2), (.int .u32 t330_3), (.bool t330_4), (.slice t330_5A t330_5n t330_5c)]), (.int .i64 t331)]) ∧ letW (w_3.alloc (.cells #[(.bool false), (.bool false), (.int .i64 0), (.int .u32 0), (.bool false), (.slice none 0 0)] 37)) fun w_4 => storeRow (newA w_3) 0 [(.bool t330_0), (.bool t330_1), (.int .i64 t330_2), (.int .u32 t330_3), (.bool t330_4), (.slice t330_5A t330_5n t330_5c)] w_4 fun w_5 => ∃ t37_0 : Bool, w_5.cell? (newA w) = some (.bool t37_0) ∧ ∃ t37_1 : Bool, w_5.cell? ((newA w).add 1) = some (.bool t37_1) ∧ ∃ t37_2 : Int, w_5.cell? ((newA w).add 2) = some (.int .i64 t37_2) ∧ Run Try.prog 20 #[(.agg #[(.bool t37_0), (.bool t37_1), (.int .i64 t37_2)]), (.int .u32 next)] w_5 fun v_2 w_6 => ∃ t390 : Option Addr, ∃ t391 : Int, v_2 = (.tuple #[(.pointer t390), (.int .i64 t391)]) ∧ ∃ t43_0 : Bool, w_6.cell? (newA w) = some (.bool t43_0) ∧ ∃ t43_1 : Bool, w_6.cell? ((newA w).add 1) = some (.bool t43_1) ∧ ∃ t43_2 : Int, w_6.cell? ((newA w).add 2) = some (.int .i64 t43_2) ∧ Run Try.prog 20 #[(.agg #[(.bool t43_0), (.bool t43_1), (.int .i64 t43_2)]), (.int .u32 next)] w_6 fun v_3 w_7 => ∃ t450 : Option Addr, ∃ t451 : Int, v_3 = (.tuple #[(.pointer t450), (.int .i64 t451)]) ∧ ifP ((t391 : Int) != t331) (law9_BundleFeeds.J0 R framesA framesn framesc (newA w_3) t331 t390 t450 true w_7) (ifP ((t451 : Int) != t331) (law9_BundleFeeds.J0 R framesA framesn framesc (newA w_3) t331 t390 t450 true w_7) (ifP (!((Option.isNone t390) == ((t331 : Int) != 0))) (law9_BundleFeeds.J0 R framesA framesn framesc (newA w_3) t331 t390 t450 true w_7) (law9_BundleFeeds.J0 R framesA framesn framesc (newA w_3) t331 t390 t450 (!((Option.isNone t450) == ((t331 : Int) != 0))) w_7)))

theorem law9_BundleFeeds.B0_eq (R : Value → World → Prop) (framesA : Option Addr) (framesn : Nat) (framesc : Nat) (want : Addr) (u : Option Addr) (o : Option Addr) (other : Addr) (i : Int) (w : World) (ts : Nat → Value) :
    code Try.prog none law9_BundleFeeds.live 0 law9_BundleFeeds.c0 (thenK (fun st w => loopVC (fun K => code Try.prog none law9_BundleFeeds.live 0 law9_BundleFeeds.c0 K) (law9_BundleFeeds.live 0) (law9_BundleFeeds.K0 R) (clearFrom (law9_BundleFeeds.live 0) 0 st) w) (law9_BundleFeeds.K0 R)) (mergeFrom (law9_BundleFeeds.live 0) ts 0 (clearFrom (law9_BundleFeeds.live 0) 0 [undef, undef, (.slice framesA framesn framesc), undef, undef, undef, undef, (.pointer (some want)), undef, (.pointer u), undef, (.pointer o), undef, (.pointer (some other)), (.int .i64 i), undef, undef, undef, undef, undef, undef, undef, undef, undef, undef, undef, undef, undef, undef, undef, undef, undef, undef, undef, undef, undef, undef, undef, undef, undef, undef, undef, undef, undef, undef, undef, undef, undef, undef, undef, undef, undef, undef, undef, undef, undef, undef, undef, undef, undef, undef, undef, undef, undef, undef, undef, undef, undef, undef, undef, undef, undef, undef, undef, undef, undef, undef, undef, undef, undef, undef, undef, undef, undef, undef, undef, undef, undef, undef, undef, undef, undef, undef, undef, undef, undef, undef, undef, undef, undef, undef, undef, undef, undef, undef, undef, undef, undef, undef, undef, undef, undef, undef, undef, undef, undef, undef, undef, undef, undef, undef, undef, undef, undef, undef, undef, undef, undef, undef, undef, undef, undef, undef, undef, undef, undef, undef, undef, undef, undef, undef, undef, undef, undef, undef, undef, undef, undef, undef, undef, undef, undef, undef, undef, undef, undef, undef, undef, undef, undef, undef, undef, undef, undef, undef, undef, undef, undef, undef, undef, undef, undef, undef, undef, undef, undef, undef, undef, undef, undef, undef, undef])) w = law9_BundleFeeds.B0 R framesA framesn framesc want u o other i w := by kernel_rfl
theorem law9_BundleFeeds.L0_step {R : Value → World → Prop} {framesA : Option Addr} {framesn : Nat} {framesc : Nat} {want : Addr} {u : Option Addr} {o : Option Addr} {other : Addr} {i : Int} {w : World} (h : law9_BundleFeeds.B0 R framesA framesn framesc want u o other i w) : law9_BundleFeeds.L0 R framesA framesn framesc want u o other i w :=
  loop_step (live := law9_BundleFeeds.live) (b := 0) (x := law9_BundleFeeds.c0) fun ts => Eq.mpr (law9_BundleFeeds.B0_eq R framesA framesn framesc want u o other i w ts) h
theorem law9_BundleFeeds.eq (R : Value → World → Prop) (k_0 : Bool) (k_1 : Bool) (k_2 : Int) (next : Int) (framesA : Option Addr) (framesn : Nat) (framesc : Nat) (w : World) : fnVC Try.prog none law9_BundleFeeds.live Try.f4 R [(.agg #[(.bool k_0), (.bool k_1), (.int .i64 k_2)]), (.int .u32 next), (.slice framesA framesn framesc)] w = law9_BundleFeeds.vc R k_0 k_1 k_2 next framesA framesn framesc w := by kernel_rfl
set_option maxHeartbeats 4000000 in
theorem law9_BundleFeeds.ok {R : Value → World → Prop} {k_0 : Bool} {k_1 : Bool} {k_2 : Int} {next : Int} {framesA : Option Addr} {framesn : Nat} {framesc : Nat} {w : World} (h : law9_BundleFeeds.vc R k_0 k_1 k_2 next framesA framesn framesc w) : Run Try.prog 4 #[(.agg #[(.bool k_0), (.bool k_1), (.int .i64 k_2)]), (.int .u32 next), (.slice framesA framesn framesc)] w R := by
  have h2 := Eq.mpr (law9_BundleFeeds.eq R k_0 k_1 k_2 next framesA framesn framesc w) h
  exact fn_sound Try.mixed Try.func4 (by kernel_rfl) h2

/-! ### riddle/riddlelaw0.Low: function 24 -/
noncomputable def law0_Low.body : Code := bodyOf Try.f24
def law0_Low.live : Nat → List Nat
  | _ => []
@[reducible] def law0_Low.vc (R : Value → World → Prop) (x : Int) (w : World) : Prop :=
  R (.int .i64 (andI .i64 x 9223372036854775807)) w

theorem law0_Low.eq (R : Value → World → Prop) (x : Int) (w : World) : fnVC Try.prog none law0_Low.live Try.f24 R [(.int .i64 x)] w = law0_Low.vc R x w := by kernel_rfl
set_option maxHeartbeats 4000000 in
theorem law0_Low.ok {R : Value → World → Prop} {x : Int} {w : World} (h : law0_Low.vc R x w) : Run Try.prog 24 #[(.int .i64 x)] w R := by
  have h2 := Eq.mpr (law0_Low.eq R x w) h
  exact fn_sound Try.mixed Try.func24 (by kernel_rfl) h2

/-! ### riddle/riddlelaw9.BundleWhole: function 5 -/
noncomputable def law9_BundleWhole.body : Code := bodyOf Try.f5
def law9_BundleWhole.live : Nat → List Nat
  | 0 => [1, 12, 13, 14, 15, 16, 18, 20]
  | _ => []
noncomputable def law9_BundleWhole.c0 : Code := sub law9_BundleWhole.body [1, 1, 1, 1, 1, 1, 1, 1, 1, 1, 1, 0, 1, 0, 0]
def law9_BundleWhole.K0 (R : Value → World → Prop) : Ex → St → World → Prop := (blockK 0 (thenK (fun st w => code Try.prog none law9_BundleWhole.live 0 (sub law9_BundleWhole.body [1, 1, 1, 1, 1, 1, 1, 1, 1, 1, 1, 1]) (retK Try.prog Try.f5 R) st w) (retK Try.prog Try.f5 R)))
def law9_BundleWhole.L0 (R : Value → World → Prop) (bA : Option Addr) (bn : Nat) (bc : Nat) (space : Int) (head : Int) (size : Int) (from_ : Int) (pA : Option Addr) (pn : Nat) (pc : Nat) (u : Option Addr) (i : Int) (w : World) : Prop :=
  loopVC (fun K => code Try.prog none law9_BundleWhole.live 0 law9_BundleWhole.c0 K) (law9_BundleWhole.live 0) (law9_BundleWhole.K0 R) [undef, (.slice bA bn bc), undef, undef, undef, undef, undef, undef, undef, undef, undef, undef, (.int .u32 space), (.int .i64 head), (.int .i64 size), (.int .u32 from_), (.slice pA pn pc), undef, (.pointer u), undef, (.int .i64 i), undef, undef, undef, undef, undef, undef, undef, undef, undef, undef, undef, undef, undef, undef, undef, undef, undef, undef, undef, undef, undef, undef, undef, undef, undef, undef, undef, undef, undef, undef, undef, undef, undef, undef, undef, undef, undef, undef, undef, undef, undef, undef, undef, undef, undef, undef, undef, undef, undef, undef, undef, undef, undef, undef, undef, undef, undef, undef, undef, undef, undef, undef, undef, undef, undef, undef, undef, undef, undef, undef, undef, undef, undef, undef, undef, undef, undef, undef, undef, undef, undef, undef, undef, undef, undef, undef, undef, undef, undef, undef, undef, undef, undef, undef, undef, undef, undef, undef, undef, undef, undef, undef, undef, undef, undef, undef, undef, undef, undef, undef, undef, undef, undef, undef, undef, undef, undef, undef, undef, undef, undef, undef, undef, undef, undef, undef, undef, undef, undef, undef, undef, undef, undef, undef, undef, undef, undef, undef, undef, undef, undef, undef, undef, undef, undef, undef, undef, undef, undef, undef, undef, undef, undef, undef] w
def law9_BundleWhole.J5 (R : Value → World → Prop) (bA : Option Addr) (bn : Nat) (bc : Nat) (space : Int) (head : Int) (size : Int) (from_ : Int) (pA : Option Addr) (pn : Nat) (pc : Nat) (u : Option Addr) (i : Int) (t173 : Bool) (w : World) : Prop :=
  ifP t173
    (R (.bool false) w)
    (law9_BundleWhole.L0 R bA bn bc space head size from_ pA pn pc u (IntKind.i64.wrap (i + 1)) w)

def law9_BundleWhole.J4 (R : Value → World → Prop) (bA : Option Addr) (bn : Nat) (bc : Nat) (space : Int) (head : Int) (size : Int) (from_ : Int) (pA : Option Addr) (pn : Nat) (pc : Nat) (u : Option Addr) (i : Int) (t117 : Bool) (w : World) : Prop :=
  ifP t117
    (R (.bool false) w)
    (0 ≤ (i : Int) ∧ (i : Int) < ((pn : Nat) : Int) ∧ ∃ t122p : Addr, pA = some t122p ∧ ∃ (t123A : Option Addr) (t123n t123c : Nat), w.cell? (t122p.add (Int.toNat i * 1)) = some (.slice t123A t123n t123c) ∧ Run Try.prog 14 #[(.slice t123A t123n t123c)] w fun v w_2 => ∃ (t124A : Option Addr) (t124n t124c : Nat), v = (.slice t124A t124n t124c) ∧ Run Try.prog 22 #[(.pointer u), (.slice t124A t124n t124c)] w_2 fun v_2 w_3 => ∃ (t1250A : Option Addr) (t1250n t1250c : Nat), ∃ t1251 : Bool, ∃ t1252 : Int, v_2 = (.tuple #[(.slice t1250A t1250n t1250c), (.bool t1251), (.int .i64 t1252)]) ∧ Run Try.prog 23 #[(.pointer u)] w_3 fun v_3 w_4 => ∃ t1310 : Int, ∃ t1311 : Int, v_3 = (.tuple #[(.int .u32 t1310), (.int .i64 t1311)]) ∧ ifP ((t1252 : Int) != 0) (law9_BundleWhole.J5 R bA bn bc space head size from_ pA pn pc u i true w_4) (ifP (!(t1251 == ((i : Int) == (IntKind.i64.wrap (((pn : Nat) : Int) - 1))))) (law9_BundleWhole.J5 R bA bn bc space head size from_ pA pn pc u i true w_4) (space ≠ 0 ∧ ifP ((t1310 : Int) != (Int.tmod (IntKind.u32.wrap ((IntKind.u32.wrap (from_ + (IntKind.u32.wrap i))) + 1)) space)) (law9_BundleWhole.J5 R bA bn bc space head size from_ pA pn pc u i true w_4) (ifP t1251 (Run Try.prog 17 #[(.slice t1250A t1250n t1250c), (.slice bA bn bc)] w_4 fun v_4 w_5 => ∃ t161 : Bool, v_4 = (.bool t161) ∧ ifP (!t161) (law9_BundleWhole.J5 R bA bn bc space head size from_ pA pn pc u i true w_5) (ifP (!t1251) (law9_BundleWhole.J5 R bA bn bc space head size from_ pA pn pc u i ((((t1250n : Nat) : Int) : Int) != 0) w_5) (law9_BundleWhole.J5 R bA bn bc space head size from_ pA pn pc u i false w_5))) (ifP (!t1251) (law9_BundleWhole.J5 R bA bn bc space head size from_ pA pn pc u i ((((t1250n : Nat) : Int) : Int) != 0) w_4) (law9_BundleWhole.J5 R bA bn bc space head size from_ pA pn pc u i false w_4))))))

@[reducible] def law9_BundleWhole.B0 (R : Value → World → Prop) (bA : Option Addr) (bn : Nat) (bc : Nat) (space : Int) (head : Int) (size : Int) (from_ : Int) (pA : Option Addr) (pn : Nat) (pc : Nat) (u : Option Addr) (i : Int) (w : World) : Prop :=
  ifP (decide ((i : Int) < ((pn : Nat) : Int)))
    (0 ≤ (i : Int) ∧ (i : Int) < ((pn : Nat) : Int) ∧ ∃ t102p : Addr, pA = some t102p ∧ ∃ (t103A : Option Addr) (t103n t103c : Nat), w.cell? (t102p.add (Int.toNat i * 1)) = some (.slice t103A t103n t103c) ∧ ifP (decide ((((t103n : Nat) : Int) : Int) < head)) (law9_BundleWhole.J4 R bA bn bc space head size from_ pA pn pc u i true w) (0 ≤ (i : Int) ∧ (i : Int) < ((pn : Nat) : Int) ∧ ∃ t110p : Addr, pA = some t110p ∧ ∃ (t111A : Option Addr) (t111n t111c : Nat), w.cell? (t110p.add (Int.toNat i * 1)) = some (.slice t111A t111n t111c) ∧ law9_BundleWhole.J4 R bA bn bc space head size from_ pA pn pc u i (decide ((((t111n : Nat) : Int) : Int) > (IntKind.i64.wrap (head + size)))) w))
    (Run Try.prog 18 #[] w fun v w_2 => ∃ t174 : Bool, v = (.bool t174) ∧ R (.bool t174) w_2)

def law9_BundleWhole.J3 (R : Value → World → Prop) (bA : Option Addr) (bn : Nat) (bc : Nat) (aheadA : Option Addr) (aheadn : Nat) (aheadc : Nat) (space : Int) (head : Int) (size : Int) (from_ : Int) (pA : Option Addr) (pn : Nat) (pc : Nat) (u : Option Addr) (t89 : Bool) (w : World) : Prop :=
  ifP t89
    (R (.bool false) w)
    (Run Try.prog 14 #[(.slice aheadA aheadn aheadc)] w fun v w_2 => ∃ (t92A : Option Addr) (t92n t92c : Nat), v = (.slice t92A t92n t92c) ∧ Run Try.prog 22 #[(.pointer u), (.slice t92A t92n t92c)] w_2 fun v_2 w_3 => ∃ (t930A : Option Addr) (t930n t930c : Nat), ∃ t931 : Bool, ∃ t932 : Int, v_2 = (.tuple #[(.slice t930A t930n t930c), (.bool t931), (.int .i64 t932)]) ∧ law9_BundleWhole.L0 R bA bn bc space head size from_ pA pn pc u 0 w_3)

def law9_BundleWhole.J2 (R : Value → World → Prop) (bA : Option Addr) (bn : Nat) (bc : Nat) (aheadA : Option Addr) (aheadn : Nat) (aheadc : Nat) (k : Addr) (space : Int) (head : Int) (size : Int) (from_ : Int) (pA : Option Addr) (pn : Nat) (pc : Nat) (e : Int) (w : World) : Prop :=
  ∃ S_ : World → Prop, S_ w.drew ∧ letW w.drew fun w_2 => ∃ t57_0 : Bool, (∀ u : World, S_ u → u.cell? k = some (.bool t57_0)) ∧ ∃ t57_1 : Bool, (∀ u_2 : World, S_ u_2 → u_2.cell? (k.add 1) = some (.bool t57_1)) ∧ ∃ t57_2 : Int, (∀ u_3 : World, S_ u_3 → u_3.cell? (k.add 2) = some (.int .i64 t57_2)) ∧ space ≠ 0 ∧ Run Try.prog 20 #[(.agg #[(.bool t57_0), (.bool t57_1), (.int .i64 t57_2)]), (.int .u32 (Int.tmod (IntKind.u32.wrap ((IntKind.u32.wrap (from_ + space)) - 1)) space))] w_2 fun v w_3 => ∃ t640 : Option Addr, ∃ t641 : Int, v = (.tuple #[(.pointer t640), (.int .i64 t641)]) ∧ ifP ((e : Int) != 0) (law9_BundleWhole.J3 R bA bn bc aheadA aheadn aheadc space head size from_ pA pn pc t640 true w_3) (ifP ((t641 : Int) != 0) (law9_BundleWhole.J3 R bA bn bc aheadA aheadn aheadc space head size from_ pA pn pc t640 true w_3) (ifP (Option.isNone t640) (law9_BundleWhole.J3 R bA bn bc aheadA aheadn aheadc space head size from_ pA pn pc t640 true w_3) (size ≠ 0 ∧ law9_BundleWhole.J3 R bA bn bc aheadA aheadn aheadc space head size from_ pA pn pc t640 ((((pn : Nat) : Int) : Int) != (maxI 1 (IntKind.i64.wrap (Int.tdiv (IntKind.i64.wrap ((IntKind.i64.wrap (((bn : Nat) : Int) + size)) - 1)) size)))) w_3)))

def law9_BundleWhole.J1 (R : Value → World → Prop) (bA : Option Addr) (bn : Nat) (bc : Nat) (first : Int) (aheadA : Option Addr) (aheadn : Nat) (aheadc : Nat) (k : Addr) (space : Int) (head : Int) (size : Int) (t42 : Bool) (w : World) : Prop :=
  ifP t42
    (Run Try.prog 18 #[] w fun v w_2 => ∃ t43 : Bool, v = (.bool t43) ∧ R (.bool t43) w_2)
    (space ≠ 0 ∧ ∃ S_ : World → Prop, S_ w.drew ∧ letW w.drew fun w_3 => ∃ t48_0 : Bool, (∀ u : World, S_ u → u.cell? k = some (.bool t48_0)) ∧ ∃ t48_1 : Bool, (∀ u_2 : World, S_ u_2 → u_2.cell? (k.add 1) = some (.bool t48_1)) ∧ ∃ t48_2 : Int, (∀ u_3 : World, S_ u_3 → u_3.cell? (k.add 2) = some (.int .i64 t48_2)) ∧ Run Try.prog 14 #[(.slice bA bn bc)] w_3 fun v_2 w_4 => ∃ (t50A : Option Addr) (t50n t50c : Nat), v_2 = (.slice t50A t50n t50c) ∧ S_ w_4 ∧ Run Try.prog 12 #[(.agg #[(.bool t48_0), (.bool t48_1), (.int .i64 t48_2)]), (.slice t50A t50n t50c), (.int .i64 size), (.int .u32 (Int.tmod first space))] w_4 fun v_3 w_5 => ∃ (t530A : Option Addr) (t530n t530c : Nat), ∃ t531 : Int, v_3 = (.tuple #[(.slice t530A t530n t530c), (.int .i64 t531)]) ∧ law9_BundleWhole.J2 R bA bn bc aheadA aheadn aheadc k space head size (Int.tmod first space) t530A t530n t530c t531 w_5)

def law9_BundleWhole.J0 (R : Value → World → Prop) (bA : Option Addr) (bn : Nat) (bc : Nat) (most : Int) (first : Int) (aheadA : Option Addr) (aheadn : Nat) (aheadc : Nat) (k : Addr) (space : Int) (head : Int) (w : World) : Prop :=
  Run Try.prog 24 #[(.int .i64 most)] w fun v w_2 => ∃ t30 : Int, v = (.int .i64 t30) ∧ ifP (decide ((((bn : Nat) : Int) : Int) > (IntKind.i64.wrap (4096 * (IntKind.i64.wrap (1 + (Int.tmod t30 4000))))))) (law9_BundleWhole.J1 R bA bn bc first aheadA aheadn aheadc k space head (IntKind.i64.wrap (1 + (Int.tmod t30 4000))) true w_2) (law9_BundleWhole.J1 R bA bn bc first aheadA aheadn aheadc k space head (IntKind.i64.wrap (1 + (Int.tmod t30 4000))) (decide ((((bn : Nat) : Int) : Int) > 65535)) w_2)

@[reducible] def law9_BundleWhole.vc (R : Value → World → Prop) (long : Bool) (bA : Option Addr) (bn : Nat) (bc : Nat) (most : Int) (first : Int) (aheadA : Option Addr) (aheadn : Nat) (aheadc : Nat) (w : World) : Prop :=
  letW (w.alloc (.cells #[(.bool false), (.bool false), (.int .i64 0)] 23)) fun w_2 => storeRow (newA w) 0 [(.bool false), (.bool false), (.int .i64 1)] w_2 fun w_3 => ifP long
    ((∃ u : Value, w_3.cell? ((newA w).add 2) = some u) ∧ w_3.frozen? ((newA w).add 2) = false ∧ letW (w_3.setCell ((newA w).add 2) (.int .i64 2)) fun w_4 => law9_BundleWhole.J0 R bA bn bc most first aheadA aheadn aheadc (newA w) 16777216 8 w_4)
    (law9_BundleWhole.J0 R bA bn bc most first aheadA aheadn aheadc (newA w) 4096 6 w_3)

theorem law9_BundleWhole.B0_eq (R : Value → World → Prop) (bA : Option Addr) (bn : Nat) (bc : Nat) (space : Int) (head : Int) (size : Int) (from_ : Int) (pA : Option Addr) (pn : Nat) (pc : Nat) (u : Option Addr) (i : Int) (w : World) (ts : Nat → Value) :
    code Try.prog none law9_BundleWhole.live 0 law9_BundleWhole.c0 (thenK (fun st w => loopVC (fun K => code Try.prog none law9_BundleWhole.live 0 law9_BundleWhole.c0 K) (law9_BundleWhole.live 0) (law9_BundleWhole.K0 R) (clearFrom (law9_BundleWhole.live 0) 0 st) w) (law9_BundleWhole.K0 R)) (mergeFrom (law9_BundleWhole.live 0) ts 0 (clearFrom (law9_BundleWhole.live 0) 0 [undef, (.slice bA bn bc), undef, undef, undef, undef, undef, undef, undef, undef, undef, undef, (.int .u32 space), (.int .i64 head), (.int .i64 size), (.int .u32 from_), (.slice pA pn pc), undef, (.pointer u), undef, (.int .i64 i), undef, undef, undef, undef, undef, undef, undef, undef, undef, undef, undef, undef, undef, undef, undef, undef, undef, undef, undef, undef, undef, undef, undef, undef, undef, undef, undef, undef, undef, undef, undef, undef, undef, undef, undef, undef, undef, undef, undef, undef, undef, undef, undef, undef, undef, undef, undef, undef, undef, undef, undef, undef, undef, undef, undef, undef, undef, undef, undef, undef, undef, undef, undef, undef, undef, undef, undef, undef, undef, undef, undef, undef, undef, undef, undef, undef, undef, undef, undef, undef, undef, undef, undef, undef, undef, undef, undef, undef, undef, undef, undef, undef, undef, undef, undef, undef, undef, undef, undef, undef, undef, undef, undef, undef, undef, undef, undef, undef, undef, undef, undef, undef, undef, undef, undef, undef, undef, undef, undef, undef, undef, undef, undef, undef, undef, undef, undef, undef, undef, undef, undef, undef, undef, undef, undef, undef, undef, undef, undef, undef, undef, undef, undef, undef, undef, undef, undef, undef, undef, undef, undef, undef, undef, undef])) w = law9_BundleWhole.B0 R bA bn bc space head size from_ pA pn pc u i w := by kernel_rfl
theorem law9_BundleWhole.L0_step {R : Value → World → Prop} {bA : Option Addr} {bn : Nat} {bc : Nat} {space : Int} {head : Int} {size : Int} {from_ : Int} {pA : Option Addr} {pn : Nat} {pc : Nat} {u : Option Addr} {i : Int} {w : World} (h : law9_BundleWhole.B0 R bA bn bc space head size from_ pA pn pc u i w) : law9_BundleWhole.L0 R bA bn bc space head size from_ pA pn pc u i w :=
  loop_step (live := law9_BundleWhole.live) (b := 0) (x := law9_BundleWhole.c0) fun ts => Eq.mpr (law9_BundleWhole.B0_eq R bA bn bc space head size from_ pA pn pc u i w ts) h
theorem law9_BundleWhole.eq (R : Value → World → Prop) (long : Bool) (bA : Option Addr) (bn : Nat) (bc : Nat) (most : Int) (first : Int) (aheadA : Option Addr) (aheadn : Nat) (aheadc : Nat) (w : World) : fnVC Try.prog none law9_BundleWhole.live Try.f5 R [(.bool long), (.slice bA bn bc), (.int .i64 most), (.int .u32 first), (.slice aheadA aheadn aheadc)] w = law9_BundleWhole.vc R long bA bn bc most first aheadA aheadn aheadc w := by kernel_rfl
set_option maxHeartbeats 4000000 in
theorem law9_BundleWhole.ok {R : Value → World → Prop} {long : Bool} {bA : Option Addr} {bn : Nat} {bc : Nat} {most : Int} {first : Int} {aheadA : Option Addr} {aheadn : Nat} {aheadc : Nat} {w : World} (h : law9_BundleWhole.vc R long bA bn bc most first aheadA aheadn aheadc w) : Run Try.prog 5 #[(.bool long), (.slice bA bn bc), (.int .i64 most), (.int .u32 first), (.slice aheadA aheadn aheadc)] w R := by
  have h2 := Eq.mpr (law9_BundleWhole.eq R long bA bn bc most first aheadA aheadn aheadc w) h
  exact fn_sound Try.mixed Try.func5 (by kernel_rfl) h2

/-! ### riddle/riddlelaw9.BundleLost: function 6 -/
noncomputable def law9_BundleLost.body : Code := bodyOf Try.f6
def law9_BundleLost.live : Nat → List Nat
  | 0 => [0, 2, 3, 9, 10, 11, 12, 13, 14]
  | 2 => [0, 2, 3, 9, 10, 11, 12, 13, 14, 15, 17]
  | 4 => [0, 3, 12, 13, 18, 20]
  | _ => []
noncomputable def law9_BundleLost.c0 : Code := sub law9_BundleLost.body [1, 1, 1, 1, 1, 1, 0, 1, 0, 0]
noncomputable def law9_BundleLost.c2 : Code := sub law9_BundleLost.body [1, 1, 1, 1, 1, 1, 0, 1, 0, 0, 1, 0, 0, 1, 1, 1, 0, 1, 0, 0]
noncomputable def law9_BundleLost.c4 : Code := sub law9_BundleLost.body [1, 1, 1, 1, 1, 1, 1, 1, 1, 1, 0, 1, 0, 0]
def law9_BundleLost.K0 (R : Value → World → Prop) : Ex → St → World → Prop := (blockK 0 (thenK (fun st w => code Try.prog none law9_BundleLost.live 0 (sub law9_BundleLost.body [1, 1, 1, 1, 1, 1, 1]) (retK Try.prog Try.f6 R) st w) (retK Try.prog Try.f6 R)))
def law9_BundleLost.L0 (R : Value → World → Prop) (loadsA : Option Addr) (loadsn : Nat) (loadsc : Nat) (first : Int) (orderA : Option Addr) (ordern : Nat) (orderc : Nat) (k : Addr) (size : Int) (seq : Int) (piecesA : Option Addr) (piecesn : Nat) (piecesc : Nat) (ofA : Option Addr) (ofn : Nat) (ofc : Nat) (i : Int) (w : World) : Prop :=
  loopVC (fun K => code Try.prog none law9_BundleLost.live 0 law9_BundleLost.c0 K) (law9_BundleLost.live 0) (law9_BundleLost.K0 R) [(.slice loadsA loadsn loadsc), undef, (.int .u32 first), (.slice orderA ordern orderc), undef, undef, undef, undef, undef, (.pointer (some k)), (.int .i64 size), (.int .u32 seq), (.slice piecesA piecesn piecesc), (.slice ofA ofn ofc), (.int .i64 i), undef, undef, undef, undef, undef, undef, undef, undef, undef, undef, undef, undef, undef, undef, undef, undef, undef, undef, undef, undef, undef, undef, undef, undef, undef, undef, undef, undef, undef, undef, undef, undef, undef, undef, undef, undef, undef, undef, undef, undef, undef, undef, undef, undef, undef, undef, undef, undef, undef, undef, undef, undef, undef, undef, undef, undef, undef, undef, undef, undef, undef, undef, undef, undef, undef, undef, undef, undef, undef, undef, undef, undef, undef, undef, undef, undef, undef, undef, undef, undef, undef, undef, undef, undef, undef, undef, undef, undef, undef, undef, undef, undef, undef, undef, undef, undef, undef, undef, undef, undef, undef, undef, undef, undef, undef, undef, undef, undef, undef, undef, undef, undef, undef, undef, undef, undef, undef, undef, undef, undef, undef, undef, undef, undef, undef, undef, undef, undef, undef, undef, undef, undef, undef, undef, undef, undef, undef, undef, undef, undef, undef, undef, undef, undef, undef, undef, undef, undef, undef, undef, undef, undef, undef, undef, undef, undef, undef, undef, undef, undef, undef] w
def law9_BundleLost.K2 (R : Value → World → Prop) : Ex → St → World → Prop := (blockK 2 (thenK (fun st w => code Try.prog none law9_BundleLost.live 1 (sub law9_BundleLost.body [1, 1, 1, 1, 1, 1, 0, 1, 0, 0, 1, 0, 0, 1, 1, 1, 1]) (blockK 1 (thenK (fun st w => code Try.prog none law9_BundleLost.live 0 (sub law9_BundleLost.body [1, 1, 1, 1, 1, 1, 0, 1, 0, 0, 1, 1]) (thenK (fun st w => loopVC (fun K => code Try.prog none law9_BundleLost.live 0 law9_BundleLost.c0 K) (law9_BundleLost.live 0) (law9_BundleLost.K0 R) (clearFrom (law9_BundleLost.live 0) 0 st) w) (law9_BundleLost.K0 R)) st w) (thenK (fun st w => loopVC (fun K => code Try.prog none law9_BundleLost.live 0 law9_BundleLost.c0 K) (law9_BundleLost.live 0) (law9_BundleLost.K0 R) (clearFrom (law9_BundleLost.live 0) 0 st) w) (law9_BundleLost.K0 R)))) st w) (blockK 1 (thenK (fun st w => code Try.prog none law9_BundleLost.live 0 (sub law9_BundleLost.body [1, 1, 1, 1, 1, 1, 0, 1, 0, 0, 1, 1]) (thenK (fun st w => loopVC (fun K => code Try.prog none law9_BundleLost.live 0 law9_BundleLost.c0 K) (law9_BundleLost.live 0) (law9_BundleLost.K0 R) (clearFrom (law9_BundleLost.live 0) 0 st) w) (law9_BundleLost.K0 R)) st w) (thenK (fun st w => loopVC (fun K => code Try.prog none law9_BundleLost.live 0 law9_BundleLost.c0 K) (law9_BundleLost.live 0) (law9_BundleLost.K0 R) (clearFrom (law9_BundleLost.live 0) 0 st) w) (law9_BundleLost.K0 R))))))
def law9_BundleLost.L2 (R : Value → World → Prop) (loadsA : Option Addr) (loadsn : Nat) (loadsc : Nat) (first : Int) (orderA : Option Addr) (ordern : Nat) (orderc : Nat) (k : Addr) (size : Int) (seq : Int) (piecesA : Option Addr) (piecesn : Nat) (piecesc : Nat) (ofA : Option Addr) (ofn : Nat) (ofc : Nat) (i : Int) (pA : Option Addr) (pn : Nat) (pc : Nat) (j : Int) (w : World) : Prop :=
  loopVC (fun K => code Try.prog none law9_BundleLost.live 2 law9_BundleLost.c2 K) (law9_BundleLost.live 2) (law9_BundleLost.K2 R) [(.slice loadsA loadsn loadsc), undef, (.int .u32 first), (.slice orderA ordern orderc), undef, undef, undef, undef, undef, (.pointer (some k)), (.int .i64 size), (.int .u32 seq), (.slice piecesA piecesn piecesc), (.slice ofA ofn ofc), (.int .i64 i), (.slice pA pn pc), undef, (.int .i64 j), undef, undef, undef, undef, undef, undef, undef, undef, undef, undef, undef, undef, undef, undef, undef, undef, undef, undef, undef, undef, undef, undef, undef, undef, undef, undef, undef, undef, undef, undef, undef, undef, undef, undef, undef, undef, undef, undef, undef, undef, undef, undef, undef, undef, undef, undef, undef, undef, undef, undef, undef, undef, undef, undef, undef, undef, undef, undef, undef, undef, undef, undef, undef, undef, undef, undef, undef, undef, undef, undef, undef, undef, undef, undef, undef, undef, undef, undef, undef, undef, undef, undef, undef, undef, undef, undef, undef, undef, undef, undef, undef, undef, undef, undef, undef, undef, undef, undef, undef, undef, undef, undef, undef, undef, undef, undef, undef, undef, undef, undef, undef, undef, undef, undef, undef, undef, undef, undef, undef, undef, undef, undef, undef, undef, undef, undef, undef, undef, undef, undef, undef, undef, undef, undef, undef, undef, undef, undef, undef, undef, undef, undef, undef, undef, undef, undef, undef, undef, undef, undef, undef, undef, undef, undef, undef, undef, undef, undef] w
def law9_BundleLost.K4 (R : Value → World → Prop) : Ex → St → World → Prop := (blockK 4 (thenK (fun st w => code Try.prog none law9_BundleLost.live 0 (sub law9_BundleLost.body [1, 1, 1, 1, 1, 1, 1, 1, 1, 1, 1]) (retK Try.prog Try.f6 R) st w) (retK Try.prog Try.f6 R)))
def law9_BundleLost.L4 (R : Value → World → Prop) (loadsA : Option Addr) (loadsn : Nat) (loadsc : Nat) (orderA : Option Addr) (ordern : Nat) (orderc : Nat) (piecesA : Option Addr) (piecesn : Nat) (piecesc : Nat) (ofA : Option Addr) (ofn : Nat) (ofc : Nat) (u : Option Addr) (i : Int) (w : World) : Prop :=
  loopVC (fun K => code Try.prog none law9_BundleLost.live 4 law9_BundleLost.c4 K) (law9_BundleLost.live 4) (law9_BundleLost.K4 R) [(.slice loadsA loadsn loadsc), undef, undef, (.slice orderA ordern orderc), undef, undef, undef, undef, undef, undef, undef, undef, (.slice piecesA piecesn piecesc), (.slice ofA ofn ofc), undef, undef, undef, undef, (.pointer u), undef, (.int .i64 i), undef, undef, undef, undef, undef, undef, undef, undef, undef, undef, undef, undef, undef, undef, undef, undef, undef, undef, undef, undef, undef, undef, undef, undef, undef, undef, undef, undef, undef, undef, undef, undef, undef, undef, undef, undef, undef, undef, undef, undef, undef, undef, undef, undef, undef, undef, undef, undef, undef, undef, undef, undef, undef, undef, undef, undef, undef, undef, undef, undef, undef, undef, undef, undef, undef, undef, undef, undef, undef, undef, undef, undef, undef, undef, undef, undef, undef, undef, undef, undef, undef, undef, undef, undef, undef, undef, undef, undef, undef, undef, undef, undef, undef, undef, undef, undef, undef, undef, undef, undef, undef, undef, undef, undef, undef, undef, undef, undef, undef, undef, undef, undef, undef, undef, undef, undef, undef, undef, undef, undef, undef, undef, undef, undef, undef, undef, undef, undef, undef, undef, undef, undef, undef, undef, undef, undef, undef, undef, undef, undef, undef, undef, undef, undef, undef, undef, undef, undef, undef, undef, undef, undef, undef, undef, undef] w
@[reducible] def law9_BundleLost.B2 (R : Value → World → Prop) (loadsA : Option Addr) (loadsn : Nat) (loadsc : Nat) (first : Int) (orderA : Option Addr) (ordern : Nat) (orderc : Nat) (k : Addr) (size : Int) (seq : Int) (piecesA : Option Addr) (piecesn : Nat) (piecesc : Nat) (ofA : Option Addr) (ofn : Nat) (ofc : Nat) (i : Int) (pA : Option Addr) (pn : Nat) (pc : Nat) (j : Int) (w : World) : Prop :=
  ifP (decide ((j : Int) < ((pn : Nat) : Int)))
    (0 ≤ (j : Int) ∧ (j : Int) < ((pn : Nat) : Int) ∧ ∃ t76p : Addr, pA = some t76p ∧ ∃ (t77A : Option Addr) (t77n t77c : Nat), w.cell? (t76p.add (Int.toNat j * 1)) = some (.slice t77A t77n t77c) ∧ letW (w.alloc (.cells #[(.slice t77A t77n t77c)] 24)) fun w_2 => ∃ (v : Value) (w_3 : World), (Builtin.append_ #[26, 26] 26 #[(.slice piecesA piecesn piecesc), (.slice (some (newA w)) 1 1)]).run Try.prog w_2 = .ok v w_3 ∧ ∃ (t79A : Option Addr) (t79n t79c : Nat), v = (.slice t79A t79n t79c) ∧ letW (w_3.alloc (.cells #[(.int .i64 i)] 3)) fun w_4 => ∃ (v_2 : Value) (w_5 : World), (Builtin.append_ #[50, 50] 50 #[(.slice ofA ofn ofc), (.slice (some (newA w_3)) 1 1)]).run Try.prog w_4 = .ok v_2 w_5 ∧ ∃ (t83A : Option Addr) (t83n t83c : Nat), v_2 = (.slice t83A t83n t83c) ∧ law9_BundleLost.L2 R loadsA loadsn loadsc first orderA ordern orderc k size seq t79A t79n t79c t83A t83n t83c i pA pn pc (IntKind.i64.wrap (j + 1)) w_5)
    (law9_BundleLost.L0 R loadsA loadsn loadsc first orderA ordern orderc k size (Int.tmod (IntKind.u32.wrap (seq + (IntKind.u32.wrap ((pn : Nat) : Int)))) 4096) piecesA piecesn piecesc ofA ofn ofc (IntKind.i64.wrap (i + 1)) w)

def law9_BundleLost.J1 (R : Value → World → Prop) (loadsA : Option Addr) (loadsn : Nat) (loadsc : Nat) (first : Int) (orderA : Option Addr) (ordern : Nat) (orderc : Nat) (k : Addr) (size : Int) (seq : Int) (piecesA : Option Addr) (piecesn : Nat) (piecesc : Nat) (ofA : Option Addr) (ofn : Nat) (ofc : Nat) (i : Int) (pA : Option Addr) (pn : Nat) (pc : Nat) (t66 : Bool) (w : World) : Prop :=
  ifP t66
    (R (.bool false) w)
    (law9_BundleLost.L2 R loadsA loadsn loadsc first orderA ordern orderc k size seq piecesA piecesn piecesc ofA ofn ofc i pA pn pc 0 w)

def law9_BundleLost.J0 (R : Value → World → Prop) (loadsA : Option Addr) (loadsn : Nat) (loadsc : Nat) (first : Int) (orderA : Option Addr) (ordern : Nat) (orderc : Nat) (k : Addr) (size : Int) (seq : Int) (piecesA : Option Addr) (piecesn : Nat) (piecesc : Nat) (ofA : Option Addr) (ofn : Nat) (ofc : Nat) (i : Int) (pA : Option Addr) (pn : Nat) (pc : Nat) (e : Int) (w : World) : Prop :=
  ifP ((e : Int) != 0) (law9_BundleLost.J1 R loadsA loadsn loadsc first orderA ordern orderc k size seq piecesA piecesn piecesc ofA ofn ofc i pA pn pc true w) (law9_BundleLost.J1 R loadsA loadsn loadsc first orderA ordern orderc k size seq piecesA piecesn piecesc ofA ofn ofc i pA pn pc ((((pn : Nat) : Int) : Int) == 0) w)

def law9_BundleLost.J5 (R : Value → World → Prop) (loadsA : Option Addr) (loadsn : Nat) (loadsc : Nat) (orderA : Option Addr) (ordern : Nat) (orderc : Nat) (piecesA : Option Addr) (piecesn : Nat) (piecesc : Nat) (ofA : Option Addr) (ofn : Nat) (ofc : Nat) (u : Option Addr) (i : Int) (t174 : Bool) (w : World) : Prop :=
  ifP t174
    (R (.bool false) w)
    (law9_BundleLost.L4 R loadsA loadsn loadsc orderA ordern orderc piecesA piecesn piecesc ofA ofn ofc u (IntKind.i64.wrap (i + 1)) w)

def law9_BundleLost.J4 (R : Value → World → Prop) (loadsA : Option Addr) (loadsn : Nat) (loadsc : Nat) (orderA : Option Addr) (ordern : Nat) (orderc : Nat) (piecesA : Option Addr) (piecesn : Nat) (piecesc : Nat) (ofA : Option Addr) (ofn : Nat) (ofc : Nat) (u : Option Addr) (i : Int) (at_ : Int) (xA : Option Addr) (xn : Nat) (xc : Nat) (ok_ : Bool) (f : Int) (last : Bool) (w : World) : Prop :=
  ifP ((f : Int) != 0) (law9_BundleLost.J5 R loadsA loadsn loadsc orderA ordern orderc piecesA piecesn piecesc ofA ofn ofc u i true w) (ifP ok_ (ifP (!last) (law9_BundleLost.J5 R loadsA loadsn loadsc orderA ordern orderc piecesA piecesn piecesc ofA ofn ofc u i true w) (0 ≤ (at_ : Int) ∧ (at_ : Int) < ((ofn : Nat) : Int) ∧ ∃ t166p : Addr, ofA = some t166p ∧ ∃ t167 : Int, w.cell? (t166p.add (Int.toNat at_ * 1)) = some (.int .i64 t167) ∧ 0 ≤ (t167 : Int) ∧ (t167 : Int) < ((loadsn : Nat) : Int) ∧ ∃ t168p : Addr, loadsA = some t168p ∧ ∃ (t169A : Option Addr) (t169n t169c : Nat), w.cell? (t168p.add (Int.toNat t167 * 1)) = some (.slice t169A t169n t169c) ∧ Run Try.prog 17 #[(.slice xA xn xc), (.slice t169A t169n t169c)] w fun v w_2 => ∃ t170 : Bool, v = (.bool t170) ∧ law9_BundleLost.J5 R loadsA loadsn loadsc orderA ordern orderc piecesA piecesn piecesc ofA ofn ofc u i (!t170) w_2)) (law9_BundleLost.J5 R loadsA loadsn loadsc orderA ordern orderc piecesA piecesn piecesc ofA ofn ofc u i false w))

@[reducible] def law9_BundleLost.B4 (R : Value → World → Prop) (loadsA : Option Addr) (loadsn : Nat) (loadsc : Nat) (orderA : Option Addr) (ordern : Nat) (orderc : Nat) (piecesA : Option Addr) (piecesn : Nat) (piecesc : Nat) (ofA : Option Addr) (ofn : Nat) (ofc : Nat) (u : Option Addr) (i : Int) (w : World) : Prop :=
  ifP (decide ((i : Int) < ((ordern : Nat) : Int)))
    (0 ≤ (i : Int) ∧ (i : Int) < ((ordern : Nat) : Int) ∧ ∃ t120p : Addr, orderA = some t120p ∧ ∃ t121 : Int, w.cell? (t120p.add (Int.toNat i * 1)) = some (.int .i64 t121) ∧ Run Try.prog 24 #[(.int .i64 t121)] w fun v w_2 => ∃ t122 : Int, v = (.int .i64 t122) ∧ ((piecesn : Nat) : Int) ≠ 0 ∧ 0 ≤ (Int.tmod t122 ((piecesn : Nat) : Int) : Int) ∧ (Int.tmod t122 ((piecesn : Nat) : Int) : Int) < ((piecesn : Nat) : Int) ∧ ∃ t130p : Addr, piecesA = some t130p ∧ ∃ (t131A : Option Addr) (t131n t131c : Nat), w_2.cell? (t130p.add (Int.toNat (Int.tmod t122 ((piecesn : Nat) : Int)) * 1)) = some (.slice t131A t131n t131c) ∧ Run Try.prog 14 #[(.slice t131A t131n t131c)] w_2 fun v_2 w_3 => ∃ (t132A : Option Addr) (t132n t132c : Nat), v_2 = (.slice t132A t132n t132c) ∧ Run Try.prog 22 #[(.pointer u), (.slice t132A t132n t132c)] w_3 fun v_3 w_4 => ∃ (t1330A : Option Addr) (t1330n t1330c : Nat), ∃ t1331 : Bool, ∃ t1332 : Int, v_3 = (.tuple #[(.slice t1330A t1330n t1330c), (.bool t1331), (.int .i64 t1332)]) ∧ letW w_4.drew fun w_5 => ifP ((Int.tmod t122 ((piecesn : Nat) : Int) : Int) == (IntKind.i64.wrap (((piecesn : Nat) : Int) - 1))) (law9_BundleLost.J4 R loadsA loadsn loadsc orderA ordern orderc piecesA piecesn piecesc ofA ofn ofc u i (Int.tmod t122 ((piecesn : Nat) : Int)) t1330A t1330n t1330c t1331 t1332 true w_5) (0 ≤ (IntKind.i64.wrap ((Int.tmod t122 ((piecesn : Nat) : Int)) + 1) : Int) ∧ (IntKind.i64.wrap ((Int.tmod t122 ((piecesn : Nat) : Int)) + 1) : Int) < ((ofn : Nat) : Int) ∧ ∃ t146p : Addr, ofA = some t146p ∧ ∃ t147 : Int, w_5.cell? (t146p.add (Int.toNat (IntKind.i64.wrap ((Int.tmod t122 ((piecesn : Nat) : Int)) + 1)) * 1)) = some (.int .i64 t147) ∧ 0 ≤ (Int.tmod t122 ((piecesn : Nat) : Int) : Int) ∧ (Int.tmod t122 ((piecesn : Nat) : Int) : Int) < ((ofn : Nat) : Int) ∧ ∃ t150p : Addr, ofA = some t150p ∧ ∃ t151 : Int, w_5.cell? (t150p.add (Int.toNat (Int.tmod t122 ((piecesn : Nat) : Int)) * 1)) = some (.int .i64 t151) ∧ law9_BundleLost.J4 R loadsA loadsn loadsc orderA ordern orderc piecesA piecesn piecesc ofA ofn ofc u i (Int.tmod t122 ((piecesn : Nat) : Int)) t1330A t1330n t1330c t1331 t1332 ((t147 : Int) != t151) w_5))
    (Run Try.prog 18 #[] w fun v_4 w_6 => ∃ t175 : Bool, v_4 = (.bool t175) ∧ R (.bool t175) w_6)

def law9_BundleLost.J3 (R : Value → World → Prop) (loadsA : Option Addr) (loadsn : Nat) (loadsc : Nat) (orderA : Option Addr) (ordern : Nat) (orderc : Nat) (piecesA : Option Addr) (piecesn : Nat) (piecesc : Nat) (ofA : Option Addr) (ofn : Nat) (ofc : Nat) (u : Option Addr) (t111 : Bool) (w : World) : Prop :=
  ifP t111
    (R (.bool false) w)
    (law9_BundleLost.L4 R loadsA loadsn loadsc orderA ordern orderc piecesA piecesn piecesc ofA ofn ofc u 0 w)

def law9_BundleLost.J2 (R : Value → World → Prop) (loadsA : Option Addr) (loadsn : Nat) (loadsc : Nat) (first : Int) (orderA : Option Addr) (ordern : Nat) (orderc : Nat) (k : Addr) (piecesA : Option Addr) (piecesn : Nat) (piecesc : Nat) (ofA : Option Addr) (ofn : Nat) (ofc : Nat) (t97 : Bool) (w : World) : Prop :=
  ifP t97
    (Run Try.prog 18 #[] w fun v w_2 => ∃ t98 : Bool, v = (.bool t98) ∧ R (.bool t98) w_2)
    (∃ t100_0 : Bool, w.cell? k = some (.bool t100_0) ∧ ∃ t100_1 : Bool, w.cell? (k.add 1) = some (.bool t100_1) ∧ ∃ t100_2 : Int, w.cell? (k.add 2) = some (.int .i64 t100_2) ∧ Run Try.prog 20 #[(.agg #[(.bool t100_0), (.bool t100_1), (.int .i64 t100_2)]), (.int .u32 (Int.tmod first 4096))] w fun v_2 w_3 => ∃ t1030 : Option Addr, ∃ t1031 : Int, v_2 = (.tuple #[(.pointer t1030), (.int .i64 t1031)]) ∧ ifP ((t1031 : Int) != 0) (law9_BundleLost.J3 R loadsA loadsn loadsc orderA ordern orderc piecesA piecesn piecesc ofA ofn ofc t1030 true w_3) (law9_BundleLost.J3 R loadsA loadsn loadsc orderA ordern orderc piecesA piecesn piecesc ofA ofn ofc t1030 (Option.isNone t1030) w_3))

@[reducible] def law9_BundleLost.B0 (R : Value → World → Prop) (loadsA : Option Addr) (loadsn : Nat) (loadsc : Nat) (first : Int) (orderA : Option Addr) (ordern : Nat) (orderc : Nat) (k : Addr) (size : Int) (seq : Int) (piecesA : Option Addr) (piecesn : Nat) (piecesc : Nat) (ofA : Option Addr) (ofn : Nat) (ofc : Nat) (i : Int) (w : World) : Prop :=
  ifP (decide ((i : Int) < ((loadsn : Nat) : Int)))
    (0 ≤ (i : Int) ∧ (i : Int) < ((loadsn : Nat) : Int) ∧ ∃ t41p : Addr, loadsA = some t41p ∧ ∃ (t42A : Option Addr) (t42n t42c : Nat), w.cell? (t41p.add (Int.toNat i * 1)) = some (.slice t42A t42n t42c) ∧ ifP (decide ((((t42n : Nat) : Int) : Int) > (IntKind.i64.wrap (60 * size))))
    (Run Try.prog 18 #[] w fun v w_2 => ∃ t47 : Bool, v = (.bool t47) ∧ R (.bool t47) w_2)
    (∃ S_ : World → Prop, S_ w.drew ∧ letW w.drew fun w_3 => ∃ t49_0 : Bool, (∀ u : World, S_ u → u.cell? k = some (.bool t49_0)) ∧ ∃ t49_1 : Bool, (∀ u_2 : World, S_ u_2 → u_2.cell? (k.add 1) = some (.bool t49_1)) ∧ ∃ t49_2 : Int, (∀ u_3 : World, S_ u_3 → u_3.cell? (k.add 2) = some (.int .i64 t49_2)) ∧ 0 ≤ (i : Int) ∧ (i : Int) < ((loadsn : Nat) : Int) ∧ ∃ t52p : Addr, loadsA = some t52p ∧ ∃ (t53A : Option Addr) (t53n t53c : Nat), (∀ u_4 : World, S_ u_4 → u_4.cell? (t52p.add (Int.toNat i * 1)) = some (.slice t53A t53n t53c)) ∧ Run Try.prog 14 #[(.slice t53A t53n t53c)] w_3 fun v_2 w_4 => ∃ (t54A : Option Addr) (t54n t54c : Nat), v_2 = (.slice t54A t54n t54c) ∧ S_ w_4 ∧ Run Try.prog 12 #[(.agg #[(.bool t49_0), (.bool t49_1), (.int .i64 t49_2)]), (.slice t54A t54n t54c), (.int .i64 size), (.int .u32 seq)] w_4 fun v_3 w_5 => ∃ (t570A : Option Addr) (t570n t570c : Nat), ∃ t571 : Int, v_3 = (.tuple #[(.slice t570A t570n t570c), (.int .i64 t571)]) ∧ law9_BundleLost.J0 R loadsA loadsn loadsc first orderA ordern orderc k size seq piecesA piecesn piecesc ofA ofn ofc i t570A t570n t570c t571 w_5))
    (ifP ((((piecesn : Nat) : Int) : Int) == 0) (law9_BundleLost.J2 R loadsA loadsn loadsc first orderA ordern orderc k piecesA piecesn piecesc ofA ofn ofc true w) (law9_BundleLost.J2 R loadsA loadsn loadsc first orderA ordern orderc k piecesA piecesn piecesc ofA ofn ofc (decide ((((piecesn : Nat) : Int) : Int) > 4096)) w))

@[reducible] def law9_BundleLost.vc (R : Value → World → Prop) (loadsA : Option Addr) (loadsn : Nat) (loadsc : Nat) (most : Int) (first : Int) (orderA : Option Addr) (ordern : Nat) (orderc : Nat) (w : World) : Prop :=
  letW (w.alloc (.cells #[(.bool false), (.bool false), (.int .i64 0)] 23)) fun w_2 => storeRow (newA w) 0 [(.bool false), (.bool false), (.int .i64 1)] w_2 fun w_3 => Run Try.prog 24 #[(.int .i64 most)] w_3 fun v w_4 => ∃ t28 : Int, v = (.int .i64 t28) ∧ law9_BundleLost.L0 R loadsA loadsn loadsc first orderA ordern orderc (newA w) (IntKind.i64.wrap (1 + (Int.tmod t28 50))) (Int.tmod first 4096) none 0 0 none 0 0 0 w_4

theorem law9_BundleLost.B0_eq (R : Value → World → Prop) (loadsA : Option Addr) (loadsn : Nat) (loadsc : Nat) (first : Int) (orderA : Option Addr) (ordern : Nat) (orderc : Nat) (k : Addr) (size : Int) (seq : Int) (piecesA : Option Addr) (piecesn : Nat) (piecesc : Nat) (ofA : Option Addr) (ofn : Nat) (ofc : Nat) (i : Int) (w : World) (ts : Nat → Value) :
    code Try.prog none law9_BundleLost.live 0 law9_BundleLost.c0 (thenK (fun st w => loopVC (fun K => code Try.prog none law9_BundleLost.live 0 law9_BundleLost.c0 K) (law9_BundleLost.live 0) (law9_BundleLost.K0 R) (clearFrom (law9_BundleLost.live 0) 0 st) w) (law9_BundleLost.K0 R)) (mergeFrom (law9_BundleLost.live 0) ts 0 (clearFrom (law9_BundleLost.live 0) 0 [(.slice loadsA loadsn loadsc), undef, (.int .u32 first), (.slice orderA ordern orderc), undef, undef, undef, undef, undef, (.pointer (some k)), (.int .i64 size), (.int .u32 seq), (.slice piecesA piecesn piecesc), (.slice ofA ofn ofc), (.int .i64 i), undef, undef, undef, undef, undef, undef, undef, undef, undef, undef, undef, undef, undef, undef, undef, undef, undef, undef, undef, undef, undef, undef, undef, undef, undef, undef, undef, undef, undef, undef, undef, undef, undef, undef, undef, undef, undef, undef, undef, undef, undef, undef, undef, undef, undef, undef, undef, undef, undef, undef, undef, undef, undef, undef, undef, undef, undef, undef, undef, undef, undef, undef, undef, undef, undef, undef, undef, undef, undef, undef, undef, undef, undef, undef, undef, undef, undef, undef, undef, undef, undef, undef, undef, undef, undef, undef, undef, undef, undef, undef, undef, undef, undef, undef, undef, undef, undef, undef, undef, undef, undef, undef, undef, undef, undef, undef, undef, undef, undef, undef, undef, undef, undef, undef, undef, undef, undef, undef, undef, undef, undef, undef, undef, undef, undef, undef, undef, undef, undef, undef, undef, undef, undef, undef, undef, undef, undef, undef, undef, undef, undef, undef, undef, undef, undef, undef, undef, undef, undef, undef, undef, undef, undef, undef, undef, undef, undef, undef, undef, undef, undef])) w = law9_BundleLost.B0 R loadsA loadsn loadsc first orderA ordern orderc k size seq piecesA piecesn piecesc ofA ofn ofc i w := by kernel_rfl
theorem law9_BundleLost.L0_step {R : Value → World → Prop} {loadsA : Option Addr} {loadsn : Nat} {loadsc : Nat} {first : Int} {orderA : Option Addr} {ordern : Nat} {orderc : Nat} {k : Addr} {size : Int} {seq : Int} {piecesA : Option Addr} {piecesn : Nat} {piecesc : Nat} {ofA : Option Addr} {ofn : Nat} {ofc : Nat} {i : Int} {w : World} (h : law9_BundleLost.B0 R loadsA loadsn loadsc first orderA ordern orderc k size seq piecesA piecesn piecesc ofA ofn ofc i w) : law9_BundleLost.L0 R loadsA loadsn loadsc first orderA ordern orderc k size seq piecesA piecesn piecesc ofA ofn ofc i w :=
  loop_step (live := law9_BundleLost.live) (b := 0) (x := law9_BundleLost.c0) fun ts => Eq.mpr (law9_BundleLost.B0_eq R loadsA loadsn loadsc first orderA ordern orderc k size seq piecesA piecesn piecesc ofA ofn ofc i w ts) h
theorem law9_BundleLost.B2_eq (R : Value → World → Prop) (loadsA : Option Addr) (loadsn : Nat) (loadsc : Nat) (first : Int) (orderA : Option Addr) (ordern : Nat) (orderc : Nat) (k : Addr) (size : Int) (seq : Int) (piecesA : Option Addr) (piecesn : Nat) (piecesc : Nat) (ofA : Option Addr) (ofn : Nat) (ofc : Nat) (i : Int) (pA : Option Addr) (pn : Nat) (pc : Nat) (j : Int) (w : World) (ts : Nat → Value) :
    code Try.prog none law9_BundleLost.live 2 law9_BundleLost.c2 (thenK (fun st w => loopVC (fun K => code Try.prog none law9_BundleLost.live 2 law9_BundleLost.c2 K) (law9_BundleLost.live 2) (law9_BundleLost.K2 R) (clearFrom (law9_BundleLost.live 2) 0 st) w) (law9_BundleLost.K2 R)) (mergeFrom (law9_BundleLost.live 2) ts 0 (clearFrom (law9_BundleLost.live 2) 0 [(.slice loadsA loadsn loadsc), undef, (.int .u32 first), (.slice orderA ordern orderc), undef, undef, undef, undef, undef, (.pointer (some k)), (.int .i64 size), (.int .u32 seq), (.slice piecesA piecesn piecesc), (.slice ofA ofn ofc), (.int .i64 i), (.slice pA pn pc), undef, (.int .i64 j), undef, undef, undef, undef, undef, undef, undef, undef, undef, undef, undef, undef, undef, undef, undef, undef, undef, undef, undef, undef, undef, undef, undef, undef, undef, undef, undef, undef, undef, undef, undef, undef, undef, undef, undef, undef, undef, undef, undef, undef, undef, undef, undef, undef, undef, undef, undef, undef, undef, undef, undef, undef, undef, undef, undef, undef, undef, undef, undef, undef, undef, undef, undef, undef, undef, undef, undef, undef, undef, undef, undef, undef, undef, undef, undef, undef, undef, undef, undef, undef, undef, undef, undef, undef, undef, undef, undef, undef, undef, undef, undef, undef, undef, undef, undef, undef, undef, undef, undef, undef, undef, undef, undef, undef, undef, undef, undef, undef, undef, undef, undef, undef, undef, undef, undef, undef, undef, undef, undef, undef, undef, undef, undef, undef, undef, undef, undef, undef, undef, undef, undef, undef, undef, undef, undef, undef, undef, undef, undef, undef, undef, undef, undef, undef, undef, undef, undef, undef, undef, undef, undef, undef, undef, undef, undef, undef, undef, undef])) w = law9_BundleLost.B2 R loadsA loadsn loadsc first orderA ordern orderc k size seq piecesA piecesn piecesc ofA ofn ofc i pA pn pc j w := by kernel_rfl
theorem law9_BundleLost.L2_step {R : Value → World → Prop} {loadsA : Option Addr} {loadsn : Nat} {loadsc : Nat} {first : Int} {orderA : Option Addr} {ordern : Nat} {orderc : Nat} {k : Addr} {size : Int} {seq : Int} {piecesA : Option Addr} {piecesn : Nat} {piecesc : Nat} {ofA : Option Addr} {ofn : Nat} {ofc : Nat} {i : Int} {pA : Option Addr} {pn : Nat} {pc : Nat} {j : Int} {w : World} (h : law9_BundleLost.B2 R loadsA loadsn loadsc first orderA ordern orderc k size seq piecesA piecesn piecesc ofA ofn ofc i pA pn pc j w) : law9_BundleLost.L2 R loadsA loadsn loadsc first orderA ordern orderc k size seq piecesA piecesn piecesc ofA ofn ofc i pA pn pc j w :=
  loop_step (live := law9_BundleLost.live) (b := 2) (x := law9_BundleLost.c2) fun ts => Eq.mpr (law9_BundleLost.B2_eq R loadsA loadsn loadsc first orderA ordern orderc k size seq piecesA piecesn piecesc ofA ofn ofc i pA pn pc j w ts) h
theorem law9_BundleLost.B4_eq (R : Value → World → Prop) (loadsA : Option Addr) (loadsn : Nat) (loadsc : Nat) (orderA : Option Addr) (ordern : Nat) (orderc : Nat) (piecesA : Option Addr) (piecesn : Nat) (piecesc : Nat) (ofA : Option Addr) (ofn : Nat) (ofc : Nat) (u : Option Addr) (i : Int) (w : World) (ts : Nat → Value) :
    code Try.prog none law9_BundleLost.live 4 law9_BundleLost.c4 (thenK (fun st w => loopVC (fun K => code Try.prog none law9_BundleLost.live 4 law9_BundleLost.c4 K) (law9_BundleLost.live 4) (law9_BundleLost.K4 R) (clearFrom (law9_BundleLost.live 4) 0 st) w) (law9_BundleLost.K4 R)) (mergeFrom (law9_BundleLost.live 4) ts 0 (clearFrom (law9_BundleLost.live 4) 0 [(.slice loadsA loadsn loadsc), undef, undef, (.slice orderA ordern orderc), undef, undef, undef, undef, undef, undef, undef, undef, (.slice piecesA piecesn piecesc), (.slice ofA ofn ofc), undef, undef, undef, undef, (.pointer u), undef, (.int .i64 i), undef, undef, undef, undef, undef, undef, undef, undef, undef, undef, undef, undef, undef, undef, undef, undef, undef, undef, undef, undef, undef, undef, undef, undef, undef, undef, undef, undef, undef, undef, undef, undef, undef, undef, undef, undef, undef, undef, undef, undef, undef, undef, undef, undef, undef, undef, undef, undef, undef, undef, undef, undef, undef, undef, undef, undef, undef, undef, undef, undef, undef, undef, undef, undef, undef, undef, undef, undef, undef, undef, undef, undef, undef, undef, undef, undef, undef, undef, undef, undef, undef, undef, undef, undef, undef, undef, undef, undef, undef, undef, undef, undef, undef, undef, undef, undef, undef, undef, undef, undef, undef, undef, undef, undef, undef, undef, undef, undef, undef, undef, undef, undef, undef, undef, undef, undef, undef, undef, undef, undef, undef, undef, undef, undef, undef, undef, undef, undef, undef, undef, undef, undef, undef, undef, undef, undef, undef, undef, undef, undef, undef, undef, undef, undef, undef, undef, undef, undef, undef, undef, undef, undef, undef, undef, undef])) w = law9_BundleLost.B4 R loadsA loadsn loadsc orderA ordern orderc piecesA piecesn piecesc ofA ofn ofc u i w := by kernel_rfl
theorem law9_BundleLost.L4_step {R : Value → World → Prop} {loadsA : Option Addr} {loadsn : Nat} {loadsc : Nat} {orderA : Option Addr} {ordern : Nat} {orderc : Nat} {piecesA : Option Addr} {piecesn : Nat} {piecesc : Nat} {ofA : Option Addr} {ofn : Nat} {ofc : Nat} {u : Option Addr} {i : Int} {w : World} (h : law9_BundleLost.B4 R loadsA loadsn loadsc orderA ordern orderc piecesA piecesn piecesc ofA ofn ofc u i w) : law9_BundleLost.L4 R loadsA loadsn loadsc orderA ordern orderc piecesA piecesn piecesc ofA ofn ofc u i w :=
  loop_step (live := law9_BundleLost.live) (b := 4) (x := law9_BundleLost.c4) fun ts => Eq.mpr (law9_BundleLost.B4_eq R loadsA loadsn loadsc orderA ordern orderc piecesA piecesn piecesc ofA ofn ofc u i w ts) h
theorem law9_BundleLost.eq (R : Value → World → Prop) (loadsA : Option Addr) (loadsn : Nat) (loadsc : Nat) (most : Int) (first : Int) (orderA : Option Addr) (ordern : Nat) (orderc : Nat) (w : World) : fnVC Try.prog none law9_BundleLost.live Try.f6 R [(.slice loadsA loadsn loadsc), (.int .i64 most), (.int .u32 first), (.slice orderA ordern orderc)] w = law9_BundleLost.vc R loadsA loadsn loadsc most first orderA ordern orderc w := by kernel_rfl
set_option maxHeartbeats 4000000 in
theorem law9_BundleLost.ok {R : Value → World → Prop} {loadsA : Option Addr} {loadsn : Nat} {loadsc : Nat} {most : Int} {first : Int} {orderA : Option Addr} {ordern : Nat} {orderc : Nat} {w : World} (h : law9_BundleLost.vc R loadsA loadsn loadsc most first orderA ordern orderc w) : Run Try.prog 6 #[(.slice loadsA loadsn loadsc), (.int .i64 most), (.int .u32 first), (.slice orderA ordern orderc)] w R := by
  have h2 := Eq.mpr (law9_BundleLost.eq R loadsA loadsn loadsc most first orderA ordern orderc w) h
  exact fn_sound Try.mixed Try.func6 (by kernel_rfl) h2

/-! ### riddle/riddlelaw9.BundleRefuses: function 7 -/
noncomputable def law9_BundleRefuses.body : Code := bodyOf Try.f7
def law9_BundleRefuses.live : Nat → List Nat
  | _ => []
def law9_BundleRefuses.J3 (R : Value → World → Prop) (t4 : Bool) (w : World) : Prop :=
  R (.bool t4) w

def law9_BundleRefuses.J2 (R : Value → World → Prop) (bA : Option Addr) (bn : Nat) (bc : Nat) (junkA : Option Addr) (junkn : Nat) (junkc : Nat) (pA : Option Addr) (pn : Nat) (pc : Nat) (u : Option Addr) (t60 : Bool) (w : World) : Prop :=
  ifP t60
    (R (.bool false) w)
    (0 ≤ (0 : Int) ∧ (0 : Int) < ((pn : Nat) : Int) ∧ ∃ t63p : Addr, pA = some t63p ∧ ∃ (t64A : Option Addr) (t64n t64c : Nat), w.cell? (t63p.add (Int.toNat 0 * 1)) = some (.slice t64A t64n t64c) ∧ Run Try.prog 14 #[(.slice t64A t64n t64c)] w fun v w_2 => ∃ (t65A : Option Addr) (t65n t65c : Nat), v = (.slice t65A t65n t65c) ∧ Run Try.prog 22 #[(.pointer u), (.slice t65A t65n t65c)] w_2 fun v_2 w_3 => ∃ (t660A : Option Addr) (t660n t660c : Nat), ∃ t661 : Bool, ∃ t662 : Int, v_2 = (.tuple #[(.slice t660A t660n t660c), (.bool t661), (.int .i64 t662)]) ∧ Run Try.prog 23 #[(.pointer u)] w_3 fun v_3 w_4 => ∃ t690 : Int, ∃ t691 : Int, v_3 = (.tuple #[(.int .u32 t690), (.int .i64 t691)]) ∧ Run Try.prog 14 #[(.slice junkA junkn junkc)] w_4 fun v_4 w_5 => ∃ (t75A : Option Addr) (t75n t75c : Nat), v_4 = (.slice t75A t75n t75c) ∧ Run Try.prog 22 #[(.pointer u), (.slice t75A t75n t75c)] w_5 fun v_5 w_6 => ∃ (t760A : Option Addr) (t760n t760c : Nat), ∃ t761 : Bool, ∃ t762 : Int, v_5 = (.tuple #[(.slice t760A t760n t760c), (.bool t761), (.int .i64 t762)]) ∧ ifP ((t762 : Int) == 0)
    (Run Try.prog 18 #[] w_6 fun v_6 w_7 => ∃ t82 : Bool, v_6 = (.bool t82) ∧ R (.bool t82) w_7)
    (Run Try.prog 23 #[(.pointer u)] w_6 fun v_7 w_8 => ∃ t850 : Int, ∃ t851 : Int, v_7 = (.tuple #[(.int .u32 t850), (.int .i64 t851)]) ∧ 0 ≤ (1 : Int) ∧ (1 : Int) < ((pn : Nat) : Int) ∧ ∃ t91p : Addr, pA = some t91p ∧ ∃ (t92A : Option Addr) (t92n t92c : Nat), w_8.cell? (t91p.add (Int.toNat 1 * 1)) = some (.slice t92A t92n t92c) ∧ Run Try.prog 14 #[(.slice t92A t92n t92c)] w_8 fun v_8 w_9 => ∃ (t93A : Option Addr) (t93n t93c : Nat), v_8 = (.slice t93A t93n t93c) ∧ Run Try.prog 22 #[(.pointer u), (.slice t93A t93n t93c)] w_9 fun v_9 w_10 => ∃ (t940A : Option Addr) (t940n t940c : Nat), ∃ t941 : Bool, ∃ t942 : Int, v_9 = (.tuple #[(.slice t940A t940n t940c), (.bool t941), (.int .i64 t942)]) ∧ ifP (!t761) (ifP ((((t760n : Nat) : Int) : Int) == 0) (ifP ((t690 : Int) == t850) (ifP ((t691 : Int) == t851) (ifP t941 (ifP ((t942 : Int) == 0) (Run Try.prog 17 #[(.slice t940A t940n t940c), (.slice bA bn bc)] w_10 fun v_10 w_11 => ∃ t125 : Bool, v_10 = (.bool t125) ∧ ifP t125 (Run Try.prog 18 #[] w_11 fun v_11 w_12 => ∃ t128 : Bool, v_11 = (.bool t128) ∧ law9_BundleRefuses.J3 R t128 w_12) (law9_BundleRefuses.J3 R false w_11)) (law9_BundleRefuses.J3 R false w_10)) (law9_BundleRefuses.J3 R false w_10)) (law9_BundleRefuses.J3 R false w_10)) (law9_BundleRefuses.J3 R false w_10)) (law9_BundleRefuses.J3 R false w_10)) (law9_BundleRefuses.J3 R false w_10)))

def law9_BundleRefuses.J1 (R : Value → World → Prop) (bA : Option Addr) (bn : Nat) (bc : Nat) (junkA : Option Addr) (junkn : Nat) (junkc : Nat) (k : Addr) (pA : Option Addr) (pn : Nat) (pc : Nat) (e : Int) (w : World) : Prop :=
  ∃ t42_0 : Bool, w.cell? k = some (.bool t42_0) ∧ ∃ t42_1 : Bool, w.cell? (k.add 1) = some (.bool t42_1) ∧ ∃ t42_2 : Int, w.cell? (k.add 2) = some (.int .i64 t42_2) ∧ Run Try.prog 20 #[(.agg #[(.bool t42_0), (.bool t42_1), (.int .i64 t42_2)]), (.int .u32 7)] w fun v w_2 => ∃ t430 : Option Addr, ∃ t431 : Int, v = (.tuple #[(.pointer t430), (.int .i64 t431)]) ∧ ifP ((e : Int) != 0) (law9_BundleRefuses.J2 R bA bn bc junkA junkn junkc pA pn pc t430 true w_2) (ifP ((t431 : Int) != 0) (law9_BundleRefuses.J2 R bA bn bc junkA junkn junkc pA pn pc t430 true w_2) (ifP (Option.isNone t430) (law9_BundleRefuses.J2 R bA bn bc junkA junkn junkc pA pn pc t430 true w_2) (law9_BundleRefuses.J2 R bA bn bc junkA junkn junkc pA pn pc t430 ((((pn : Nat) : Int) : Int) != 2) w_2)))

def law9_BundleRefuses.J0 (R : Value → World → Prop) (bA : Option Addr) (bn : Nat) (bc : Nat) (junkA : Option Addr) (junkn : Nat) (junkc : Nat) (k : Addr) (t28 : Bool) (w : World) : Prop :=
  ifP t28
    (Run Try.prog 18 #[] w fun v w_2 => ∃ t29 : Bool, v = (.bool t29) ∧ R (.bool t29) w_2)
    (∃ S_ : World → Prop, S_ w.drew ∧ letW w.drew fun w_3 => ∃ t31_0 : Bool, (∀ u : World, S_ u → u.cell? k = some (.bool t31_0)) ∧ ∃ t31_1 : Bool, (∀ u_2 : World, S_ u_2 → u_2.cell? (k.add 1) = some (.bool t31_1)) ∧ ∃ t31_2 : Int, (∀ u_3 : World, S_ u_3 → u_3.cell? (k.add 2) = some (.int .i64 t31_2)) ∧ Run Try.prog 14 #[(.slice bA bn bc)] w_3 fun v_2 w_4 => ∃ (t33A : Option Addr) (t33n t33c : Nat), v_2 = (.slice t33A t33n t33c) ∧ S_ w_4 ∧ Run Try.prog 12 #[(.agg #[(.bool t31_0), (.bool t31_1), (.int .i64 t31_2)]), (.slice t33A t33n t33c), (.int .i64 (IntKind.i64.wrap (Int.tdiv (IntKind.i64.wrap (((bn : Nat) : Int) + 1)) 2))), (.int .u32 7)] w_4 fun v_3 w_5 => ∃ (t380A : Option Addr) (t380n t380c : Nat), ∃ t381 : Int, v_3 = (.tuple #[(.slice t380A t380n t380c), (.int .i64 t381)]) ∧ law9_BundleRefuses.J1 R bA bn bc junkA junkn junkc k t380A t380n t380c t381 w_5)

@[reducible] def law9_BundleRefuses.vc (R : Value → World → Prop) (bA : Option Addr) (bn : Nat) (bc : Nat) (junkA : Option Addr) (junkn : Nat) (junkc : Nat) (w : World) : Prop :=
  letW (w.alloc (.cells #[(.bool false), (.bool false), (.int .i64 0)] 23)) fun w_2 => storeRow (newA w) 0 [(.bool false), (.bool false), (.int .i64 1)] w_2 fun w_3 => ifP (decide ((((bn : Nat) : Int) : Int) > 2000)) (law9_BundleRefuses.J0 R bA bn bc junkA junkn junkc (newA w) true w_3) (law9_BundleRefuses.J0 R bA bn bc junkA junkn junkc (newA w) (decide ((((bn : Nat) : Int) : Int) < 2)) w_3)

theorem law9_BundleRefuses.eq (R : Value → World → Prop) (bA : Option Addr) (bn : Nat) (bc : Nat) (junkA : Option Addr) (junkn : Nat) (junkc : Nat) (w : World) : fnVC Try.prog none law9_BundleRefuses.live Try.f7 R [(.slice bA bn bc), (.slice junkA junkn junkc)] w = law9_BundleRefuses.vc R bA bn bc junkA junkn junkc w := by kernel_rfl
set_option maxHeartbeats 4000000 in
theorem law9_BundleRefuses.ok {R : Value → World → Prop} {bA : Option Addr} {bn : Nat} {bc : Nat} {junkA : Option Addr} {junkn : Nat} {junkc : Nat} {w : World} (h : law9_BundleRefuses.vc R bA bn bc junkA junkn junkc w) : Run Try.prog 7 #[(.slice bA bn bc), (.slice junkA junkn junkc)] w R := by
  have h2 := Eq.mpr (law9_BundleRefuses.eq R bA bn bc junkA junkn junkc w) h
  exact fn_sound Try.mixed Try.func7 (by kernel_rfl) h2

/-! ### riddle/riddlelaw9.BundleRow: function 8 -/
noncomputable def law9_BundleRow.body : Code := bodyOf Try.f8
def law9_BundleRow.live : Nat → List Nat
  | 0 => [0, 9, 10, 11, 12, 13, 15]
  | 2 => [0, 9, 10, 11, 12, 13, 15, 16, 18]
  | _ => []
noncomputable def law9_BundleRow.c0 : Code := sub law9_BundleRow.body [1, 1, 1, 1, 1, 1, 1, 1, 0, 1, 0, 0]
noncomputable def law9_BundleRow.c2 : Code := sub law9_BundleRow.body [1, 1, 1, 1, 1, 1, 1, 1, 0, 1, 0, 0, 1, 0, 0, 1, 1, 1, 0, 1, 0, 0]
def law9_BundleRow.K0 (R : Value → World → Prop) : Ex → St → World → Prop := (blockK 0 (thenK (fun st w => code Try.prog none law9_BundleRow.live 0 (sub law9_BundleRow.body [1, 1, 1, 1, 1, 1, 1, 1, 1]) (retK Try.prog Try.f8 R) st w) (retK Try.prog Try.f8 R)))
def law9_BundleRow.L0 (R : Value → World → Prop) (loadsA : Option Addr) (loadsn : Nat) (loadsc : Nat) (k : Addr) (space : Int) (size : Int) (seq : Int) (u : Option Addr) (i : Int) (w : World) : Prop :=
  loopVC (fun K => code Try.prog none law9_BundleRow.live 0 law9_BundleRow.c0 K) (law9_BundleRow.live 0) (law9_BundleRow.K0 R) [(.slice loadsA loadsn loadsc), undef, undef, undef, undef, undef, undef, undef, undef, (.pointer (some k)), (.int .u32 space), (.int .i64 size), (.int .u32 seq), (.pointer u), undef, (.int .i64 i), undef, undef, undef, undef, undef, undef, undef, undef, undef, undef, undef, undef, undef, undef, undef, undef, undef, undef, undef, undef, undef, undef, undef, undef, undef, undef, undef, undef, undef, undef, undef, undef, undef, undef, undef, undef, undef, undef, undef, undef, undef, undef, undef, undef, undef, undef, undef, undef, undef, undef, undef, undef, undef, undef, undef, undef, undef, undef, undef, undef, undef, undef, undef, undef, undef, undef, undef, undef, undef, undef, undef, undef, undef, undef, undef, undef, undef, undef, undef, undef, undef, undef, undef, undef, undef, undef, undef, undef, undef, undef, undef, undef, undef, undef, undef, undef, undef, undef, undef, undef, undef, undef, undef, undef, undef, undef, undef, undef, undef, undef, undef, undef, undef, undef, undef, undef, undef, undef, undef, undef, undef, undef, undef, undef, undef] w
def law9_BundleRow.K2 (R : Value → World → Prop) : Ex → St → World → Prop := (blockK 2 (thenK (fun st w => code Try.prog none law9_BundleRow.live 1 (sub law9_BundleRow.body [1, 1, 1, 1, 1, 1, 1, 1, 0, 1, 0, 0, 1, 0, 0, 1, 1, 1, 1]) (blockK 1 (thenK (fun st w => code Try.prog none law9_BundleRow.live 0 (sub law9_BundleRow.body [1, 1, 1, 1, 1, 1, 1, 1, 0, 1, 0, 0, 1, 1]) (thenK (fun st w => loopVC (fun K => code Try.prog none law9_BundleRow.live 0 law9_BundleRow.c0 K) (law9_BundleRow.live 0) (law9_BundleRow.K0 R) (clearFrom (law9_BundleRow.live 0) 0 st) w) (law9_BundleRow.K0 R)) st w) (thenK (fun st w => loopVC (fun K => code Try.prog none law9_BundleRow.live 0 law9_BundleRow.c0 K) (law9_BundleRow.live 0) (law9_BundleRow.K0 R) (clearFrom (law9_BundleRow.live 0) 0 st) w) (law9_BundleRow.K0 R)))) st w) (blockK 1 (thenK (fun st w => code Try.prog none law9_BundleRow.live 0 (sub law9_BundleRow.body [1, 1, 1, 1, 1, 1, 1, 1, 0, 1, 0, 0, 1, 1]) (thenK (fun st w => loopVC (fun K => code Try.prog none law9_BundleRow.live 0 law9_BundleRow.c0 K) (law9_BundleRow.live 0) (law9_BundleRow.K0 R) (clearFrom (law9_BundleRow.live 0) 0 st) w) (law9_BundleRow.K0 R)) st w) (thenK (fun st w => loopVC (fun K => code Try.prog none law9_BundleRow.live 0 law9_BundleRow.c0 K) (law9_BundleRow.live 0) (law9_BundleRow.K0 R) (clearFrom (law9_BundleRow.live 0) 0 st) w) (law9_BundleRow.K0 R))))))
def law9_BundleRow.L2 (R : Value → World → Prop) (loadsA : Option Addr) (loadsn : Nat) (loadsc : Nat) (k : Addr) (space : Int) (size : Int) (seq : Int) (u : Option Addr) (i : Int) (pA : Option Addr) (pn : Nat) (pc : Nat) (j : Int) (w : World) : Prop :=
  loopVC (fun K => code Try.prog none law9_BundleRow.live 2 law9_BundleRow.c2 K) (law9_BundleRow.live 2) (law9_BundleRow.K2 R) [(.slice loadsA loadsn loadsc), undef, undef, undef, undef, undef, undef, undef, undef, (.pointer (some k)), (.int .u32 space), (.int .i64 size), (.int .u32 seq), (.pointer u), undef, (.int .i64 i), (.slice pA pn pc), undef, (.int .i64 j), undef, undef, undef, undef, undef, undef, undef, undef, undef, undef, undef, undef, undef, undef, undef, undef, undef, undef, undef, undef, undef, undef, undef, undef, undef, undef, undef, undef, undef, undef, undef, undef, undef, undef, undef, undef, undef, undef, undef, undef, undef, undef, undef, undef, undef, undef, undef, undef, undef, undef, undef, undef, undef, undef, undef, undef, undef, undef, undef, undef, undef, undef, undef, undef, undef, undef, undef, undef, undef, undef, undef, undef, undef, undef, undef, undef, undef, undef, undef, undef, undef, undef, undef, undef, undef, undef, undef, undef, undef, undef, undef, undef, undef, undef, undef, undef, undef, undef, undef, undef, undef, undef, undef, undef, undef, undef, undef, undef, undef, undef, undef, undef, undef, undef, undef, undef, undef, undef, undef, undef, undef, undef] w
def law9_BundleRow.J4 (R : Value → World → Prop) (loadsA : Option Addr) (loadsn : Nat) (loadsc : Nat) (k : Addr) (space : Int) (size : Int) (seq : Int) (u : Option Addr) (i : Int) (pA : Option Addr) (pn : Nat) (pc : Nat) (j : Int) (t118 : Bool) (w : World) : Prop :=
  ifP t118
    (R (.bool false) w)
    (law9_BundleRow.L2 R loadsA loadsn loadsc k space size seq u i pA pn pc (IntKind.i64.wrap (j + 1)) w)

@[reducible] def law9_BundleRow.B2 (R : Value → World → Prop) (loadsA : Option Addr) (loadsn : Nat) (loadsc : Nat) (k : Addr) (space : Int) (size : Int) (seq : Int) (u : Option Addr) (i : Int) (pA : Option Addr) (pn : Nat) (pc : Nat) (j : Int) (w : World) : Prop :=
  ifP (decide ((j : Int) < ((pn : Nat) : Int)))
    (0 ≤ (j : Int) ∧ (j : Int) < ((pn : Nat) : Int) ∧ ∃ t90p : Addr, pA = some t90p ∧ ∃ (t91A : Option Addr) (t91n t91c : Nat), w.cell? (t90p.add (Int.toNat j * 1)) = some (.slice t91A t91n t91c) ∧ Run Try.prog 22 #[(.pointer u), (.slice t91A t91n t91c)] w fun v w_2 => ∃ (t920A : Option Addr) (t920n t920c : Nat), ∃ t921 : Bool, ∃ t922 : Int, v = (.tuple #[(.slice t920A t920n t920c), (.bool t921), (.int .i64 t922)]) ∧ ifP ((t922 : Int) != 0) (law9_BundleRow.J4 R loadsA loadsn loadsc k space size seq u i pA pn pc j true w_2) (ifP (!(t921 == ((j : Int) == (IntKind.i64.wrap (((pn : Nat) : Int) - 1))))) (law9_BundleRow.J4 R loadsA loadsn loadsc k space size seq u i pA pn pc j true w_2) (ifP t921 (0 ≤ (i : Int) ∧ (i : Int) < ((loadsn : Nat) : Int) ∧ ∃ t113p : Addr, loadsA = some t113p ∧ ∃ (t114A : Option Addr) (t114n t114c : Nat), w_2.cell? (t113p.add (Int.toNat i * 1)) = some (.slice t114A t114n t114c) ∧ Run Try.prog 17 #[(.slice t920A t920n t920c), (.slice t114A t114n t114c)] w_2 fun v_2 w_3 => ∃ t115 : Bool, v_2 = (.bool t115) ∧ law9_BundleRow.J4 R loadsA loadsn loadsc k space size seq u i pA pn pc j (!t115) w_3) (law9_BundleRow.J4 R loadsA loadsn loadsc k space size seq u i pA pn pc j false w_2))))
    (space ≠ 0 ∧ law9_BundleRow.L0 R loadsA loadsn loadsc k space size (Int.tmod (IntKind.u32.wrap (seq + (IntKind.u32.wrap ((pn : Nat) : Int)))) space) u (IntKind.i64.wrap (i + 1)) w)

def law9_BundleRow.J3 (R : Value → World → Prop) (loadsA : Option Addr) (loadsn : Nat) (loadsc : Nat) (k : Addr) (space : Int) (size : Int) (seq : Int) (u : Option Addr) (i : Int) (pA : Option Addr) (pn : Nat) (pc : Nat) (t79 : Bool) (w : World) : Prop :=
  ifP t79
    (R (.bool false) w)
    (law9_BundleRow.L2 R loadsA loadsn loadsc k space size seq u i pA pn pc 0 w)

def law9_BundleRow.J2 (R : Value → World → Prop) (loadsA : Option Addr) (loadsn : Nat) (loadsc : Nat) (k : Addr) (space : Int) (size : Int) (seq : Int) (u : Option Addr) (i : Int) (pA : Option Addr) (pn : Nat) (pc : Nat) (f : Int) (w : World) : Prop :=
  ifP ((f : Int) != 0) (law9_BundleRow.J3 R loadsA loadsn loadsc k space size seq u i pA pn pc true w) (law9_BundleRow.J3 R loadsA loadsn loadsc k space size seq u i pA pn pc ((((pn : Nat) : Int) : Int) == 0) w)

def law9_BundleRow.J5 (R : Value → World → Prop) (t8 : Bool) (w : World) : Prop :=
  R (.bool t8) w

@[reducible] def law9_BundleRow.B0 (R : Value → World → Prop) (loadsA : Option Addr) (loadsn : Nat) (loadsc : Nat) (k : Addr) (space : Int) (size : Int) (seq : Int) (u : Option Addr) (i : Int) (w : World) : Prop :=
  ifP (decide ((i : Int) < ((loadsn : Nat) : Int)))
    (0 ≤ (i : Int) ∧ (i : Int) < ((loadsn : Nat) : Int) ∧ ∃ t54p : Addr, loadsA = some t54p ∧ ∃ (t55A : Option Addr) (t55n t55c : Nat), w.cell? (t54p.add (Int.toNat i * 1)) = some (.slice t55A t55n t55c) ∧ ifP (decide ((((t55n : Nat) : Int) : Int) > (IntKind.i64.wrap (60 * size))))
    (Run Try.prog 18 #[] w fun v w_2 => ∃ t60 : Bool, v = (.bool t60) ∧ R (.bool t60) w_2)
    (∃ S_ : World → Prop, S_ w.drew ∧ letW w.drew fun w_3 => ∃ t62_0 : Bool, (∀ u_2 : World, S_ u_2 → u_2.cell? k = some (.bool t62_0)) ∧ ∃ t62_1 : Bool, (∀ u_3 : World, S_ u_3 → u_3.cell? (k.add 1) = some (.bool t62_1)) ∧ ∃ t62_2 : Int, (∀ u_4 : World, S_ u_4 → u_4.cell? (k.add 2) = some (.int .i64 t62_2)) ∧ 0 ≤ (i : Int) ∧ (i : Int) < ((loadsn : Nat) : Int) ∧ ∃ t65p : Addr, loadsA = some t65p ∧ ∃ (t66A : Option Addr) (t66n t66c : Nat), (∀ u_5 : World, S_ u_5 → u_5.cell? (t65p.add (Int.toNat i * 1)) = some (.slice t66A t66n t66c)) ∧ Run Try.prog 14 #[(.slice t66A t66n t66c)] w_3 fun v_2 w_4 => ∃ (t67A : Option Addr) (t67n t67c : Nat), v_2 = (.slice t67A t67n t67c) ∧ S_ w_4 ∧ Run Try.prog 12 #[(.agg #[(.bool t62_0), (.bool t62_1), (.int .i64 t62_2)]), (.slice t67A t67n t67c), (.int .i64 size), (.int .u32 seq)] w_4 fun v_3 w_5 => ∃ (t700A : Option Addr) (t700n t700c : Nat), ∃ t701 : Int, v_3 = (.tuple #[(.slice t700A t700n t700c), (.int .i64 t701)]) ∧ law9_BundleRow.J2 R loadsA loadsn loadsc k space size seq u i t700A t700n t700c t701 w_5))
    (Run Try.prog 23 #[(.pointer u)] w fun v_4 w_6 => ∃ t1280 : Int, ∃ t1281 : Int, v_4 = (.tuple #[(.int .u32 t1280), (.int .i64 t1281)]) ∧ ifP ((t1280 : Int) == seq) (ifP ((t1281 : Int) == 0) (Run Try.prog 18 #[] w_6 fun v_5 w_7 => ∃ t139 : Bool, v_5 = (.bool t139) ∧ law9_BundleRow.J5 R t139 w_7) (law9_BundleRow.J5 R false w_6)) (law9_BundleRow.J5 R false w_6))

def law9_BundleRow.J1 (R : Value → World → Prop) (loadsA : Option Addr) (loadsn : Nat) (loadsc : Nat) (k : Addr) (space : Int) (size : Int) (seq : Int) (u : Option Addr) (t45 : Bool) (w : World) : Prop :=
  ifP t45
    (R (.bool false) w)
    (law9_BundleRow.L0 R loadsA loadsn loadsc k space size seq u 0 w)

def law9_BundleRow.J0 (R : Value → World → Prop) (loadsA : Option Addr) (loadsn : Nat) (loadsc : Nat) (most : Int) (first : Int) (k : Addr) (space : Int) (w : World) : Prop :=
  Run Try.prog 24 #[(.int .i64 most)] w fun v w_2 => ∃ t28 : Int, v = (.int .i64 t28) ∧ space ≠ 0 ∧ ∃ t35_0 : Bool, w_2.cell? k = some (.bool t35_0) ∧ ∃ t35_1 : Bool, w_2.cell? (k.add 1) = some (.bool t35_1) ∧ ∃ t35_2 : Int, w_2.cell? (k.add 2) = some (.int .i64 t35_2) ∧ Run Try.prog 20 #[(.agg #[(.bool t35_0), (.bool t35_1), (.int .i64 t35_2)]), (.int .u32 (Int.tmod first space))] w_2 fun v_2 w_3 => ∃ t370 : Option Addr, ∃ t371 : Int, v_2 = (.tuple #[(.pointer t370), (.int .i64 t371)]) ∧ ifP ((t371 : Int) != 0) (law9_BundleRow.J1 R loadsA loadsn loadsc k space (IntKind.i64.wrap (1 + (Int.tmod t28 50))) (Int.tmod first space) t370 true w_3) (law9_BundleRow.J1 R loadsA loadsn loadsc k space (IntKind.i64.wrap (1 + (Int.tmod t28 50))) (Int.tmod first space) t370 (Option.isNone t370) w_3)

@[reducible] def law9_BundleRow.vc (R : Value → World → Prop) (loadsA : Option Addr) (loadsn : Nat) (loadsc : Nat) (most : Int) (first : Int) (long : Bool) (w : World) : Prop :=
  letW (w.alloc (.cells #[(.bool false), (.bool false), (.int .i64 0)] 23)) fun w_2 => storeRow (newA w) 0 [(.bool false), (.bool false), (.int .i64 1)] w_2 fun w_3 => ifP long
    ((∃ u : Value, w_3.cell? ((newA w).add 2) = some u) ∧ w_3.frozen? ((newA w).add 2) = false ∧ letW (w_3.setCell ((newA w).add 2) (.int .i64 2)) fun w_4 => law9_BundleRow.J0 R loadsA loadsn loadsc most first (newA w) 16777216 w_4)
    (law9_BundleRow.J0 R loadsA loadsn loadsc most first (newA w) 4096 w_3)

theorem law9_BundleRow.B0_eq (R : Value → World → Prop) (loadsA : Option Addr) (loadsn : Nat) (loadsc : Nat) (k : Addr) (space : Int) (size : Int) (seq : Int) (u : Option Addr) (i : Int) (w : World) (ts : Nat → Value) :
    code Try.prog none law9_BundleRow.live 0 law9_BundleRow.c0 (thenK (fun st w => loopVC (fun K => code Try.prog none law9_BundleRow.live 0 law9_BundleRow.c0 K) (law9_BundleRow.live 0) (law9_BundleRow.K0 R) (clearFrom (law9_BundleRow.live 0) 0 st) w) (law9_BundleRow.K0 R)) (mergeFrom (law9_BundleRow.live 0) ts 0 (clearFrom (law9_BundleRow.live 0) 0 [(.slice loadsA loadsn loadsc), undef, undef, undef, undef, undef, undef, undef, undef, (.pointer (some k)), (.int .u32 space), (.int .i64 size), (.int .u32 seq), (.pointer u), undef, (.int .i64 i), undef, undef, undef, undef, undef, undef, undef, undef, undef, undef, undef, undef, undef, undef, undef, undef, undef, undef, undef, undef, undef, undef, undef, undef, undef, undef, undef, undef, undef, undef, undef, undef, undef, undef, undef, undef, undef, undef, undef, undef, undef, undef, undef, undef, undef, undef, undef, undef, undef, undef, undef, undef, undef, undef, undef, undef, undef, undef, undef, undef, undef, undef, undef, undef, undef, undef, undef, undef, undef, undef, undef, undef, undef, undef, undef, undef, undef, undef, undef, undef, undef, undef, undef, undef, undef, undef, undef, undef, undef, undef, undef, undef, undef, undef, undef, undef, undef, undef, undef, undef, undef, undef, undef, undef, undef, undef, undef, undef, undef, undef, undef, undef, undef, undef, undef, undef, undef, undef, undef, undef, undef, undef, undef, undef, undef])) w = law9_BundleRow.B0 R loadsA loadsn loadsc k space size seq u i w := by kernel_rfl
theorem law9_BundleRow.L0_step {R : Value → World → Prop} {loadsA : Option Addr} {loadsn : Nat} {loadsc : Nat} {k : Addr} {space : Int} {size : Int} {seq : Int} {u : Option Addr} {i : Int} {w : World} (h : law9_BundleRow.B0 R loadsA loadsn loadsc k space size seq u i w) : law9_BundleRow.L0 R loadsA loadsn loadsc k space size seq u i w :=
  loop_step (live := law9_BundleRow.live) (b := 0) (x := law9_BundleRow.c0) fun ts => Eq.mpr (law9_BundleRow.B0_eq R loadsA loadsn loadsc k space size seq u i w ts) h
theorem law9_BundleRow.B2_eq (R : Value → World → Prop) (loadsA : Option Addr) (loadsn : Nat) (loadsc : Nat) (k : Addr) (space : Int) (size : Int) (seq : Int) (u : Option Addr) (i : Int) (pA : Option Addr) (pn : Nat) (pc : Nat) (j : Int) (w : World) (ts : Nat → Value) :
    code Try.prog none law9_BundleRow.live 2 law9_BundleRow.c2 (thenK (fun st w => loopVC (fun K => code Try.prog none law9_BundleRow.live 2 law9_BundleRow.c2 K) (law9_BundleRow.live 2) (law9_BundleRow.K2 R) (clearFrom (law9_BundleRow.live 2) 0 st) w) (law9_BundleRow.K2 R)) (mergeFrom (law9_BundleRow.live 2) ts 0 (clearFrom (law9_BundleRow.live 2) 0 [(.slice loadsA loadsn loadsc), undef, undef, undef, undef, undef, undef, undef, undef, (.pointer (some k)), (.int .u32 space), (.int .i64 size), (.int .u32 seq), (.pointer u), undef, (.int .i64 i), (.slice pA pn pc), undef, (.int .i64 j), undef, undef, undef, undef, undef, undef, undef, undef, undef, undef, undef, undef, undef, undef, undef, undef, undef, undef, undef, undef, undef, undef, undef, undef, undef, undef, undef, undef, undef, undef, undef, undef, undef, undef, undef, undef, undef, undef, undef, undef, undef, undef, undef, undef, undef, undef, undef, undef, undef, undef, undef, undef, undef, undef, undef, undef, undef, undef, undef, undef, undef, undef, undef, undef, undef, undef, undef, undef, undef, undef, undef, undef, undef, undef, undef, undef, undef, undef, undef, undef, undef, undef, undef, undef, undef, undef, undef, undef, undef, undef, undef, undef, undef, undef, undef, undef, undef, undef, undef, undef, undef, undef, undef, undef, undef, undef, undef, undef, undef, undef, undef, undef, undef, undef, undef, undef, undef, undef, undef, undef, undef, undef])) w = law9_BundleRow.B2 R loadsA loadsn loadsc k space size seq u i pA pn pc j w := by kernel_rfl
theorem law9_BundleRow.L2_step {R : Value → World → Prop} {loadsA : Option Addr} {loadsn : Nat} {loadsc : Nat} {k : Addr} {space : Int} {size : Int} {seq : Int} {u : Option Addr} {i : Int} {pA : Option Addr} {pn : Nat} {pc : Nat} {j : Int} {w : World} (h : law9_BundleRow.B2 R loadsA loadsn loadsc k space size seq u i pA pn pc j w) : law9_BundleRow.L2 R loadsA loadsn loadsc k space size seq u i pA pn pc j w :=
  loop_step (live := law9_BundleRow.live) (b := 2) (x := law9_BundleRow.c2) fun ts => Eq.mpr (law9_BundleRow.B2_eq R loadsA loadsn loadsc k space size seq u i pA pn pc j w ts) h
theorem law9_BundleRow.eq (R : Value → World → Prop) (loadsA : Option Addr) (loadsn : Nat) (loadsc : Nat) (most : Int) (first : Int) (long : Bool) (w : World) : fnVC Try.prog none law9_BundleRow.live Try.f8 R [(.slice loadsA loadsn loadsc), (.int .i64 most), (.int .u32 first), (.bool long)] w = law9_BundleRow.vc R loadsA loadsn loadsc most first long w := by kernel_rfl
set_option maxHeartbeats 4000000 in
theorem law9_BundleRow.ok {R : Value → World → Prop} {loadsA : Option Addr} {loadsn : Nat} {loadsc : Nat} {most : Int} {first : Int} {long : Bool} {w : World} (h : law9_BundleRow.vc R loadsA loadsn loadsc most first long w) : Run Try.prog 8 #[(.slice loadsA loadsn loadsc), (.int .i64 most), (.int .u32 first), (.bool long)] w R := by
  have h2 := Eq.mpr (law9_BundleRow.eq R loadsA loadsn loadsc most first long w) h
  exact fn_sound Try.mixed Try.func8 (by kernel_rfl) h2

end
end Go.Proofs.Ytgjabpgkiaojhaa
