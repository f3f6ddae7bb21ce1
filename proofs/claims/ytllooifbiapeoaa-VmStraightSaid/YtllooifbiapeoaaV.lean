/- Printed by a program of this repo (wip/tools/gen.py) out of Lean's own print of the functions: each function's weakest precondition, and the equation that it is one. -/
import Derived.Test.YtllooifbiapeoaaProg
import Derived.Test.YtllooifbiapeoaaS4
import Derived.KernelRfl
import Derived.Test.YtllooifbiapeoaaVA
namespace Go.Proofs.Ytllooifbiapeoaa
open Go.Rd
set_option linter.unusedVariables false
set_option maxRecDepth 100000
section

/-! ### riddle/word.Join: function 25 -/
noncomputable def word_Join.body : Code := bodyOf Try.f25
def word_Join.live : Nat → List Nat
  | 0 => [0, 3, 9, 10, 11]
  | 2 => [6, 22, 23, 24]
  | _ => []
noncomputable def word_Join.c0 : Code := sub word_Join.body [1, 1, 0, 1, 0, 0]
noncomputable def word_Join.c2 : Code := sub word_Join.body [1, 1, 1, 1, 0, 1, 0, 0]
def word_Join.K0 (R : Value → World → Prop) : Ex → St → World → Prop := (blockK 0 (thenK (fun st w => code Try.prog none word_Join.live 0 (sub word_Join.body [1, 1, 1]) (retK Try.prog Try.f25 R) st w) (retK Try.prog Try.f25 R)))
def word_Join.L0 (R : Value → World → Prop) (partsA : Option Addr) (partsn : Nat) (partsc : Nat) (n : Int) (t9A : Option Addr) (t9n : Nat) (t9c : Nat) (t10 : Int) (t11 : Int) (w : World) : Prop :=
  loopVC (fun K => code Try.prog none word_Join.live 0 word_Join.c0 K) (word_Join.live 0) (word_Join.K0 R) [(.slice partsA partsn partsc), undef, undef, (.int .i64 n), undef, undef, undef, undef, undef, (.slice t9A t9n t9c), (.int .i64 t10), (.int .i64 t11), undef, undef, undef, undef, undef, undef, undef, undef, undef, undef, undef, undef, undef, undef, undef, undef, undef, undef, undef, undef, undef] w
def word_Join.K2 (R : Value → World → Prop) : Ex → St → World → Prop := (blockK 2 (thenK (fun st w => code Try.prog none word_Join.live 0 (sub word_Join.body [1, 1, 1, 1, 1]) (retK Try.prog Try.f25 R) st w) (retK Try.prog Try.f25 R)))
def word_Join.L2 (R : Value → World → Prop) (outA : Option Addr) (outn : Nat) (outc : Nat) (t22A : Option Addr) (t22n : Nat) (t22c : Nat) (t23 : Int) (t24 : Int) (w : World) : Prop :=
  loopVC (fun K => code Try.prog none word_Join.live 2 word_Join.c2 K) (word_Join.live 2) (word_Join.K2 R) [undef, undef, undef, undef, undef, undef, (.slice outA outn outc), undef, undef, undef, undef, undef, undef, undef, undef, undef, undef, undef, undef, undef, undef, undef, (.slice t22A t22n t22c), (.int .i64 t23), (.int .i64 t24), undef, undef, undef, undef, undef, undef, undef, undef] w
@[reducible] def word_Join.B2 (R : Value → World → Prop) (outA : Option Addr) (outn : Nat) (outc : Nat) (t22A : Option Addr) (t22n : Nat) (t22c : Nat) (t23 : Int) (t24 : Int) (w : World) : Prop :=
  ifP (decide ((t24 : Int) < t23))
    (0 ≤ (t24 : Int) ∧ (t24 : Int) < ((t22n : Nat) : Int) ∧ ∃ t26p : Addr, t22A = some t26p ∧ ∃ (t27A : Option Addr) (t27n t27c : Nat), w.cell? (t26p.add (Int.toNat t24 * 1)) = some (.slice t27A t27n t27c) ∧ ∃ (v : Value) (w_2 : World), (Builtin.append_ #[23, 23] 23 #[(.slice outA outn outc), (.slice t27A t27n t27c)]).run Try.prog w = .ok v w_2 ∧ ∃ (t30A : Option Addr) (t30n t30c : Nat), v = (.slice t30A t30n t30c) ∧ word_Join.L2 R t30A t30n t30c t22A t22n t22c t23 (IntKind.i64.wrap (t24 + 1)) w_2)
    (R (.slice outA outn outc) w)

@[reducible] def word_Join.B0 (R : Value → World → Prop) (partsA : Option Addr) (partsn : Nat) (partsc : Nat) (n : Int) (t9A : Option Addr) (t9n : Nat) (t9c : Nat) (t10 : Int) (t11 : Int) (w : World) : Prop :=
  ifP (decide ((t11 : Int) < t10))
    (0 ≤ (t11 : Int) ∧ (t11 : Int) < ((t9n : Nat) : Int) ∧ ∃ t13p : Addr, t9A = some t13p ∧ ∃ (t14A : Option Addr) (t14n t14c : Nat), w.cell? (t13p.add (Int.toNat t11 * 1)) = some (.slice t14A t14n t14c) ∧ word_Join.L0 R partsA partsn partsc (IntKind.i64.wrap (n + ((t14n : Nat) : Int))) t9A t9n t9c t10 (IntKind.i64.wrap (t11 + 1)) w)
    (∃ (v : Value) (w_2 : World), (Instr.makeSlice 23 (.int .i64 0) (.int .i64 n)).run Try.prog w = .ok v w_2 ∧ ∃ (t21A : Option Addr) (t21n t21c : Nat), v = (.slice t21A t21n t21c) ∧ word_Join.L2 R t21A t21n t21c partsA partsn partsc ((partsn : Nat) : Int) 0 w_2)

@[reducible] def word_Join.vc (R : Value → World → Prop) (partsA : Option Addr) (partsn : Nat) (partsc : Nat) (w : World) : Prop :=
  word_Join.L0 R partsA partsn partsc 0 partsA partsn partsc ((partsn : Nat) : Int) 0 w

theorem word_Join.B0_eq (R : Value → World → Prop) (partsA : Option Addr) (partsn : Nat) (partsc : Nat) (n : Int) (t9A : Option Addr) (t9n : Nat) (t9c : Nat) (t10 : Int) (t11 : Int) (w : World) (ts : Nat → Value) :
    code Try.prog none word_Join.live 0 word_Join.c0 (thenK (fun st w => loopVC (fun K => code Try.prog none word_Join.live 0 word_Join.c0 K) (word_Join.live 0) (word_Join.K0 R) (clearFrom (word_Join.live 0) 0 st) w) (word_Join.K0 R)) (mergeFrom (word_Join.live 0) ts 0 (clearFrom (word_Join.live 0) 0 [(.slice partsA partsn partsc), undef, undef, (.int .i64 n), undef, undef, undef, undef, undef, (.slice t9A t9n t9c), (.int .i64 t10), (.int .i64 t11), undef, undef, undef, undef, undef, undef, undef, undef, undef, undef, undef, undef, undef, undef, undef, undef, undef, undef, undef, undef, undef])) w = word_Join.B0 R partsA partsn partsc n t9A t9n t9c t10 t11 w := by kernel_rfl
theorem word_Join.L0_step {R : Value → World → Prop} {partsA : Option Addr} {partsn : Nat} {partsc : Nat} {n : Int} {t9A : Option Addr} {t9n : Nat} {t9c : Nat} {t10 : Int} {t11 : Int} {w : World} (h : word_Join.B0 R partsA partsn partsc n t9A t9n t9c t10 t11 w) : word_Join.L0 R partsA partsn partsc n t9A t9n t9c t10 t11 w :=
  loop_step (live := word_Join.live) (b := 0) (x := word_Join.c0) fun ts => Eq.mpr (word_Join.B0_eq R partsA partsn partsc n t9A t9n t9c t10 t11 w ts) h
theorem word_Join.B2_eq (R : Value → World → Prop) (outA : Option Addr) (outn : Nat) (outc : Nat) (t22A : Option Addr) (t22n : Nat) (t22c : Nat) (t23 : Int) (t24 : Int) (w : World) (ts : Nat → Value) :
    code Try.prog none word_Join.live 2 word_Join.c2 (thenK (fun st w => loopVC (fun K => code Try.prog none word_Join.live 2 word_Join.c2 K) (word_Join.live 2) (word_Join.K2 R) (clearFrom (word_Join.live 2) 0 st) w) (word_Join.K2 R)) (mergeFrom (word_Join.live 2) ts 0 (clearFrom (word_Join.live 2) 0 [undef, undef, undef, undef, undef, undef, (.slice outA outn outc), undef, undef, undef, undef, undef, undef, undef, undef, undef, undef, undef, undef, undef, undef, undef, (.slice t22A t22n t22c), (.int .i64 t23), (.int .i64 t24), undef, undef, undef, undef, undef, undef, undef, undef])) w = word_Join.B2 R outA outn outc t22A t22n t22c t23 t24 w := by kernel_rfl
theorem word_Join.L2_step {R : Value → World → Prop} {outA : Option Addr} {outn : Nat} {outc : Nat} {t22A : Option Addr} {t22n : Nat} {t22c : Nat} {t23 : Int} {t24 : Int} {w : World} (h : word_Join.B2 R outA outn outc t22A t22n t22c t23 t24 w) : word_Join.L2 R outA outn outc t22A t22n t22c t23 t24 w :=
  loop_step (live := word_Join.live) (b := 2) (x := word_Join.c2) fun ts => Eq.mpr (word_Join.B2_eq R outA outn outc t22A t22n t22c t23 t24 w ts) h
theorem word_Join.eq (R : Value → World → Prop) (partsA : Option Addr) (partsn : Nat) (partsc : Nat) (w : World) : fnVC Try.prog none word_Join.live Try.f25 R [(.slice partsA partsn partsc)] w = word_Join.vc R partsA partsn partsc w := by kernel_rfl
set_option maxHeartbeats 4000000 in
theorem word_Join.ok {R : Value → World → Prop} {partsA : Option Addr} {partsn : Nat} {partsc : Nat} {w : World} (h : word_Join.vc R partsA partsn partsc w) : Run Try.prog 25 #[(.slice partsA partsn partsc)] w R := by
  have h2 := Eq.mpr (word_Join.eq R partsA partsn partsc w) h
  exact fn_sound Try.mixed Try.func25 (by kernel_rfl) h2

/-! ### riddle/riddlelaw5.VmBehind: function 8 -/
noncomputable def law5_VmBehind.body : Code := bodyOf Try.f8
def law5_VmBehind.live : Nat → List Nat
  | _ => []
def law5_VmBehind.J1 (R : Value → World → Prop) (t6 : Bool) (w : World) : Prop :=
  R (.bool t6) w

def law5_VmBehind.J0 (R : Value → World → Prop) (pA : Option Addr) (pn : Nat) (pc : Nat) (packetA : Option Addr) (packetn : Nat) (packetc : Nat) (moreA : Option Addr) (moren : Nat) (morec : Nat) (v : Addr) (t37 : Bool) (w : World) : Prop :=
  ifP t37
    (Run Try.prog 17 #[] w fun v_2 w_2 => ∃ t38 : Bool, v_2 = (.bool t38) ∧ R (.bool t38) w_2)
    (Run Try.prog 19 #[(.slice pA pn pc)] w fun v_3 w_3 => ∃ (t41A : Option Addr) (t41n t41c : Nat), v_3 = (.slice t41A t41n t41c) ∧ letW (w_3.alloc (.cells #[(.slice packetA packetn packetc), (.slice moreA moren morec)] 23)) fun w_4 => Run Try.prog 25 #[(.slice (some (newA w_3)) 2 2)] w_4 fun v_4 w_5 => ∃ (t45A : Option Addr) (t45n t45c : Nat), v_4 = (.slice t45A t45n t45c) ∧ Run Try.prog 14 #[(.slice t41A t41n t41c), (.slice t45A t45n t45c)] w_5 fun v_5 w_6 => ∃ t460_0 : Int, ∃ t460_1 : Int, ∃ t460_2 : Int, ∃ t461 : Int, v_5 = (.tuple #[(.agg #[(.int .u32 t460_0), (.int .i64 t460_1), (.int .i64 t460_2)]), (.int .i64 t461)]) ∧ letW (w_6.alloc (.cells #[(.int .u32 0), (.int .i64 0), (.int .i64 0)] 26)) fun w_7 => storeRow (newA w_6) 0 [(.int .u32 t460_0), (.int .i64 t460_1), (.int .i64 t460_2)] w_7 fun w_8 => ifP ((t461 : Int) == 0) (∃ t52_0 : Int, w_8.cell? (newA w_6) = some (.int .u32 t52_0) ∧ ∃ t52_1 : Int, w_8.cell? ((newA w_6).add 1) = some (.int .i64 t52_1) ∧ ∃ t52_2 : Int, w_8.cell? ((newA w_6).add 2) = some (.int .i64 t52_2) ∧ ∃ t53_0 : Int, w_8.cell? v = some (.int .u32 t53_0) ∧ ∃ t53_1 : Int, w_8.cell? (v.add 1) = some (.int .i64 t53_1) ∧ ∃ t53_2 : Int, w_8.cell? (v.add 2) = some (.int .i64 t53_2) ∧ ∃ (v_6 : Value) (w_9 : World), (eqSem .eql 26 (.tmp 52) (.tmp 53) (.agg #[(.int .u32 t52_0), (.int .i64 t52_1), (.int .i64 t52_2)]) (.agg #[(.int .u32 t53_0), (.int .i64 t53_1), (.int .i64 t53_2)])).run Try.prog w_8 = .ok v_6 w_9 ∧ ∃ t54 : Bool, v_6 = (.bool t54) ∧ ifP t54 (Run Try.prog 17 #[] w_9 fun v_7 w_10 => ∃ t57 : Bool, v_7 = (.bool t57) ∧ law5_VmBehind.J1 R t57 w_10) (law5_VmBehind.J1 R false w_9)) (law5_VmBehind.J1 R false w_8))

@[reducible] def law5_VmBehind.vc (R : Value → World → Prop) (pA : Option Addr) (pn : Nat) (pc : Nat) (packetA : Option Addr) (packetn : Nat) (packetc : Nat) (moreA : Option Addr) (moren : Nat) (morec : Nat) (w : World) : Prop :=
  Run Try.prog 19 #[(.slice pA pn pc)] w fun v w_2 => ∃ (t13A : Option Addr) (t13n t13c : Nat), v = (.slice t13A t13n t13c) ∧ Run Try.prog 20 #[(.slice packetA packetn packetc)] w_2 fun v_2 w_3 => ∃ (t15A : Option Addr) (t15n t15c : Nat), v_2 = (.slice t15A t15n t15c) ∧ Run Try.prog 14 #[(.slice t13A t13n t13c), (.slice t15A t15n t15c)] w_3 fun v_3 w_4 => ∃ t160_0 : Int, ∃ t160_1 : Int, ∃ t160_2 : Int, ∃ t161 : Int, v_3 = (.tuple #[(.agg #[(.int .u32 t160_0), (.int .i64 t160_1), (.int .i64 t160_2)]), (.int .i64 t161)]) ∧ letW (w_4.alloc (.cells #[(.int .u32 0), (.int .i64 0), (.int .i64 0)] 26)) fun w_5 => storeRow (newA w_4) 0 [(.int .u32 t160_0), (.int .i64 t160_1), (.int .i64 t160_2)] w_5 fun w_6 => ifP ((t161 : Int) != 0) (law5_VmBehind.J0 R pA pn pc packetA packetn packetc moreA moren morec (newA w_4) true w_6) (∃ t23 : Int, w_6.cell? ((newA w_4).add 1) = some (.int .i64 t23) ∧ ifP ((t23 : Int) != 0) (law5_VmBehind.J0 R pA pn pc packetA packetn packetc moreA moren morec (newA w_4) true w_6) (Run Try.prog 24 #[(.slice pA pn pc)] w_6 fun v_4 w_7 => ∃ t28 : Bool, v_4 = (.bool t28) ∧ ifP t28 (law5_VmBehind.J0 R pA pn pc packetA packetn packetc moreA moren morec (newA w_4) true w_7) (law5_VmBehind.J0 R pA pn pc packetA packetn packetc moreA moren morec (newA w_4) (decide ((IntKind.i64.wrap (((packetn : Nat) : Int) + ((moren : Nat) : Int)) : Int) > 65536)) w_7)))

theorem law5_VmBehind.eq (R : Value → World → Prop) (pA : Option Addr) (pn : Nat) (pc : Nat) (packetA : Option Addr) (packetn : Nat) (packetc : Nat) (moreA : Option Addr) (moren : Nat) (morec : Nat) (w : World) : fnVC Try.prog none law5_VmBehind.live Try.f8 R [(.slice pA pn pc), (.slice packetA packetn packetc), (.slice moreA moren morec)] w = law5_VmBehind.vc R pA pn pc packetA packetn packetc moreA moren morec w := by kernel_rfl
set_option maxHeartbeats 4000000 in
theorem law5_VmBehind.ok {R : Value → World → Prop} {pA : Option Addr} {pn : Nat} {pc : Nat} {packetA : Option Addr} {packetn : Nat} {packetc : Nat} {moreA : Option Addr} {moren : Nat} {morec : Nat} {w : World} (h : law5_VmBehind.vc R pA pn pc packetA packetn packetc moreA moren morec w) : Run Try.prog 8 #[(.slice pA pn pc), (.slice packetA packetn packetc), (.slice moreA moren morec)] w R := by
  have h2 := Eq.mpr (law5_VmBehind.eq R pA pn pc packetA packetn packetc moreA moren morec w) h
  exact fn_sound Try.mixed Try.func8 (by kernel_rfl) h2

/-! ### riddle/check.Reach: function 41 -/
noncomputable def check_Reach.body : Code := bodyOf Try.f41
def check_Reach.live : Nat → List Nat
  | 0 => [6, 22, 23, 24]
  | _ => []
noncomputable def check_Reach.c0 : Code := sub check_Reach.body [1, 1, 1, 1, 0, 1, 0, 0]
def check_Reach.K0 (R : Value → World → Prop) : Ex → St → World → Prop := (blockK 0 (thenK (fun st w => code Try.prog none check_Reach.live 0 (sub check_Reach.body [1, 1, 1, 1, 1]) (retK Try.prog Try.f41 R) st w) (retK Try.prog Try.f41 R)))
def check_Reach.L0 (R : Value → World → Prop) (outA : Option Addr) (outn : Nat) (outc : Nat) (t22A : Option Addr) (t22n : Nat) (t22c : Nat) (t23 : Int) (t24 : Int) (w : World) : Prop :=
  loopVC (fun K => code Try.prog none check_Reach.live 0 check_Reach.c0 K) (check_Reach.live 0) (check_Reach.K0 R) [undef, undef, undef, undef, undef, undef, (.slice outA outn outc), undef, undef, undef, undef, undef, undef, undef, undef, undef, undef, undef, undef, undef, undef, undef, (.slice t22A t22n t22c), (.int .i64 t23), (.int .i64 t24), undef, undef, undef, undef, undef, undef, undef, undef, undef, undef, undef, undef, undef, undef, undef, undef, undef, undef, undef, undef, undef, undef, undef, undef, undef, undef, undef, undef, undef, undef, undef, undef, undef, undef, undef, undef, undef, undef, undef, undef, undef, undef, undef, undef, undef, undef, undef, undef, undef, undef, undef, undef, undef] w
def check_Reach.J0 (R : Value → World → Prop) (outA : Option Addr) (outn : Nat) (outc : Nat) (t22A : Option Addr) (t22n : Nat) (t22c : Nat) (t23 : Int) (t24 : Int) (w : World) : Prop :=
  check_Reach.L0 R outA outn outc t22A t22n t22c t23 (IntKind.i64.wrap (t24 + 1)) w

@[reducible] def check_Reach.B0 (R : Value → World → Prop) (outA : Option Addr) (outn : Nat) (outc : Nat) (t22A : Option Addr) (t22n : Nat) (t22c : Nat) (t23 : Int) (t24 : Int) (w : World) : Prop :=
  ifP (decide ((t24 : Int) < t23))
    (0 ≤ (t24 : Int) ∧ (t24 : Int) < ((t22n : Nat) : Int) ∧ ∃ t27p : Addr, t22A = some t27p ∧ ∃ t28_0 : Int, w.cell? (t27p.add (Int.toNat t24 * 4)) = some (.int .u16 t28_0) ∧ ∃ t28_1 : Int, w.cell? ((t27p.add (Int.toNat t24 * 4)).add 1) = some (.int .u8 t28_1) ∧ ∃ t28_2 : Int, w.cell? ((t27p.add (Int.toNat t24 * 4)).add 2) = some (.int .u8 t28_2) ∧ ∃ t28_3 : Int, w.cell? ((t27p.add (Int.toNat t24 * 4)).add 3) = some (.int .u32 t28_3) ∧ letW (w.alloc (.cells #[(.int .u16 0), (.int .u8 0), (.int .u8 0), (.int .u32 0)] 45)) fun w_2 => storeRow (newA w) 0 [(.int .u16 t28_0), (.int .u8 t28_1), (.int .u8 t28_2), (.int .u32 t28_3)] w_2 fun w_3 => 0 ≤ (t24 : Int) ∧ (t24 : Int) < ((outn : Nat) : Int) ∧ ∃ t31p : Addr, outA = some t31p ∧ ∃ t32 : Bool, w_3.cell? (t31p.add (Int.toNat t24 * 1)) = some (.bool t32) ∧ ifP (!t32)
    (check_Reach.J0 R outA outn outc t22A t22n t22c t23 t24 w_3)
    (∃ t36 : Int, w_3.cell? (newA w) = some (.int .u16 t36) ∧ ifP ((t36 : Int) == 5)
    (∃ t42 : Int, w_3.cell? ((newA w).add 3) = some (.int .u32 t42) ∧ 0 ≤ (IntKind.i64.wrap ((IntKind.i64.wrap (t24 + 1)) + (IntKind.i64.wrap t42)) : Int) ∧ (IntKind.i64.wrap ((IntKind.i64.wrap (t24 + 1)) + (IntKind.i64.wrap t42)) : Int) < ((outn : Nat) : Int) ∧ ∃ t45p : Addr, outA = some t45p ∧ (∃ u : Value, w_3.cell? (t45p.add (Int.toNat (IntKind.i64.wrap ((IntKind.i64.wrap (t24 + 1)) + (IntKind.i64.wrap t42))) * 1)) = some u) ∧ w_3.frozen? (t45p.add (Int.toNat (IntKind.i64.wrap ((IntKind.i64.wrap (t24 + 1)) + (IntKind.i64.wrap t42))) * 1)) = false ∧ letW (w_3.setCell (t45p.add (Int.toNat (IntKind.i64.wrap ((IntKind.i64.wrap (t24 + 1)) + (IntKind.i64.wrap t42))) * 1)) (.bool true)) fun w_4 => check_Reach.J0 R outA outn outc t22A t22n t22c t23 t24 w_4)
    (∃ t48 : Int, w_3.cell? (newA w) = some (.int .u16 t48) ∧ Run Try.prog 51 #[(.int .u16 t48)] w_3 fun v w_5 => ∃ t49 : Int, v = (.int .i64 t49) ∧ ifP ((t49 : Int) == 5)
    (∃ t55 : Int, w_5.cell? ((newA w).add 1) = some (.int .u8 t55) ∧ 0 ≤ (IntKind.i64.wrap ((IntKind.i64.wrap (t24 + 1)) + (IntKind.i64.wrap t55)) : Int) ∧ (IntKind.i64.wrap ((IntKind.i64.wrap (t24 + 1)) + (IntKind.i64.wrap t55)) : Int) < ((outn : Nat) : Int) ∧ ∃ t58p : Addr, outA = some t58p ∧ (∃ u : Value, w_5.cell? (t58p.add (Int.toNat (IntKind.i64.wrap ((IntKind.i64.wrap (t24 + 1)) + (IntKind.i64.wrap t55))) * 1)) = some u) ∧ w_5.frozen? (t58p.add (Int.toNat (IntKind.i64.wrap ((IntKind.i64.wrap (t24 + 1)) + (IntKind.i64.wrap t55))) * 1)) = false ∧ letW (w_5.setCell (t58p.add (Int.toNat (IntKind.i64.wrap ((IntKind.i64.wrap (t24 + 1)) + (IntKind.i64.wrap t55))) * 1)) (.bool true)) fun w_6 => ∃ t63 : Int, w_6.cell? ((newA w).add 2) = some (.int .u8 t63) ∧ 0 ≤ (IntKind.i64.wrap ((IntKind.i64.wrap (t24 + 1)) + (IntKind.i64.wrap t63)) : Int) ∧ (IntKind.i64.wrap ((IntKind.i64.wrap (t24 + 1)) + (IntKind.i64.wrap t63)) : Int) < ((outn : Nat) : Int) ∧ ∃ t66p : Addr, outA = some t66p ∧ (∃ u : Value, w_6.cell? (t66p.add (Int.toNat (IntKind.i64.wrap ((IntKind.i64.wrap (t24 + 1)) + (IntKind.i64.wrap t63))) * 1)) = some u) ∧ w_6.frozen? (t66p.add (Int.toNat (IntKind.i64.wrap ((IntKind.i64.wrap (t24 + 1)) + (IntKind.i64.wrap t63))) * 1)) = false ∧ letW (w_6.setCell (t66p.add (Int.toNat (IntKind.i64.wrap ((IntKind.i64.wrap (t24 + 1)) + (IntKind.i64.wrap t63))) * 1)) (.bool true)) fun w_7 => check_Reach.J0 R outA outn outc t22A t22n t22c t23 t24 w_7)
    (∃ t69 : Int, w_5.cell? (newA w) = some (.int .u16 t69) ∧ Run Try.prog 51 #[(.int .u16 t69)] w_5 fun v_2 w_8 => ∃ t70 : Int, v_2 = (.int .i64 t70) ∧ ifP ((t70 : Int) != 6)
    (0 ≤ (IntKind.i64.wrap (t24 + 1) : Int) ∧ (IntKind.i64.wrap (t24 + 1) : Int) < ((outn : Nat) : Int) ∧ ∃ t75p : Addr, outA = some t75p ∧ (∃ u : Value, w_8.cell? (t75p.add (Int.toNat (IntKind.i64.wrap (t24 + 1)) * 1)) = some u) ∧ w_8.frozen? (t75p.add (Int.toNat (IntKind.i64.wrap (t24 + 1)) * 1)) = false ∧ letW (w_8.setCell (t75p.add (Int.toNat (IntKind.i64.wrap (t24 + 1)) * 1)) (.bool true)) fun w_9 => check_Reach.J0 R outA outn outc t22A t22n t22c t23 t24 w_9)
    (check_Reach.J0 R outA outn outc t22A t22n t22c t23 t24 w_8)))))
    (R (.tuple #[(.slice outA outn outc), (.int .i64 0)]) w)

@[reducible] def check_Reach.vc (R : Value → World → Prop) (pA : Option Addr) (pn : Nat) (pc : Nat) (w : World) : Prop :=
  Run Try.prog 49 #[(.slice pA pn pc)] w fun v w_2 => ∃ t110 : Int, ∃ t111 : Int, v = (.tuple #[(.int .i64 t110), (.int .i64 t111)]) ∧ ifP ((t111 : Int) != 0)
    (R (.tuple #[(.slice none 0 0), (.int .i64 t111)]) w_2)
    (∃ (v_2 : Value) (w_3 : World), (Instr.makeSlice 54 (.int .i64 ((pn : Nat) : Int)) (.int .i64 ((pn : Nat) : Int))).run Try.prog w_2 = .ok v_2 w_3 ∧ ∃ (t19A : Option Addr) (t19n t19c : Nat), v_2 = (.slice t19A t19n t19c) ∧ 0 ≤ (0 : Int) ∧ (0 : Int) < ((t19n : Nat) : Int) ∧ ∃ t21p : Addr, t19A = some t21p ∧ (∃ u : Value, w_3.cell? (t21p.add (Int.toNat 0 * 1)) = some u) ∧ w_3.frozen? (t21p.add (Int.toNat 0 * 1)) = false ∧ letW (w_3.setCell (t21p.add (Int.toNat 0 * 1)) (.bool true)) fun w_4 => check_Reach.L0 R t19A t19n t19c pA pn pc ((pn : Nat) : Int) 0 w_4)

theorem check_Reach.B0_eq (R : Value → World → Prop) (outA : Option Addr) (outn : Nat) (outc : Nat) (t22A : Option Addr) (t22n : Nat) (t22c : Nat) (t23 : Int) (t24 : Int) (w : World) (ts : Nat → Value) :
    code Try.prog none check_Reach.live 0 check_Reach.c0 (thenK (fun st w => loopVC (fun K => code Try.prog none check_Reach.live 0 check_Reach.c0 K) (check_Reach.live 0) (check_Reach.K0 R) (clearFrom (check_Reach.live 0) 0 st) w) (check_Reach.K0 R)) (mergeFrom (check_Reach.live 0) ts 0 (clearFrom (check_Reach.live 0) 0 [undef, undef, undef, undef, undef, undef, (.slice outA outn outc), undef, undef, undef, undef, undef, undef, undef, undef, undef, undef, undef, undef, undef, undef, undef, (.slice t22A t22n t22c), (.int .i64 t23), (.int .i64 t24), undef, undef, undef, undef, undef, undef, undef, undef, undef, undef, undef, undef, undef, undef, undef, undef, undef, undef, undef, undef, undef, undef, undef, undef, undef, undef, undef, undef, undef, undef, undef, undef, undef, undef, undef, undef, undef, undef, undef, undef, undef, undef, undef, undef, undef, undef, undef, undef, undef, undef, undef, undef, undef])) w = check_Reach.B0 R outA outn outc t22A t22n t22c t23 t24 w := by kernel_rfl
theorem check_Reach.L0_step {R : Value → World → Prop} {outA : Option Addr} {outn : Nat} {outc : Nat} {t22A : Option Addr} {t22n : Nat} {t22c : Nat} {t23 : Int} {t24 : Int} {w : World} (h : check_Reach.B0 R outA outn outc t22A t22n t22c t23 t24 w) : check_Reach.L0 R outA outn outc t22A t22n t22c t23 t24 w :=
  loop_step (live := check_Reach.live) (b := 0) (x := check_Reach.c0) fun ts => Eq.mpr (check_Reach.B0_eq R outA outn outc t22A t22n t22c t23 t24 w ts) h
theorem check_Reach.eq (R : Value → World → Prop) (pA : Option Addr) (pn : Nat) (pc : Nat) (w : World) : fnVC Try.prog none check_Reach.live Try.f41 R [(.slice pA pn pc)] w = check_Reach.vc R pA pn pc w := by kernel_rfl
set_option maxHeartbeats 4000000 in
theorem check_Reach.ok {R : Value → World → Prop} {pA : Option Addr} {pn : Nat} {pc : Nat} {w : World} (h : check_Reach.vc R pA pn pc w) : Run Try.prog 41 #[(.slice pA pn pc)] w R := by
  have h2 := Eq.mpr (check_Reach.eq R pA pn pc w) h
  exact fn_sound Try.mixed Try.func41 (by kernel_rfl) h2

/-! ### riddle/insn.looksAtK: function 55 -/
noncomputable def insn_looksAtK.body : Code := bodyOf Try.f55
def insn_looksAtK.live : Nat → List Nat
  | _ => []
def insn_looksAtK.J1 (R : Value → World → Prop) (t2 : Bool) (w : World) : Prop :=
  R (.bool t2) w

def insn_looksAtK.J0 (R : Value → World → Prop) (code_ : Int) (t4 : Bool) (w : World) : Prop :=
  ifP t4
    (R (.bool false) w)
    (Run Try.prog 83 #[(.int .u16 code_)] w fun v w_2 => ∃ t12 : Bool, v = (.bool t12) ∧ ifP (!t12) (Run Try.prog 56 #[(.int .u16 code_)] w_2 fun v_2 w_3 => ∃ t16 : Bool, v_2 = (.bool t16) ∧ ifP (!t16) (insn_looksAtK.J1 R true w_3) (insn_looksAtK.J1 R ((andI .u16 code_ 8 : Int) == 0) w_3)) (insn_looksAtK.J1 R ((andI .u16 code_ 8 : Int) == 0) w_2))

@[reducible] def insn_looksAtK.vc (R : Value → World → Prop) (code_ : Int) (w : World) : Prop :=
  ifP ((code_ : Int) == 128)
    (insn_looksAtK.J0 R code_ ((code_ : Int) == 128) w)
    (ifP ((code_ : Int) == 129)
    (insn_looksAtK.J0 R code_ ((code_ : Int) == 129) w)
    (ifP ((code_ : Int) == 132)
    (insn_looksAtK.J0 R code_ ((code_ : Int) == 132) w)
    (ifP ((code_ : Int) == 22)
    (insn_looksAtK.J0 R code_ ((code_ : Int) == 22) w)
    (ifP ((code_ : Int) == 7)
    (insn_looksAtK.J0 R code_ ((code_ : Int) == 7) w)
    (insn_looksAtK.J0 R code_ ((code_ : Int) == 135) w)))))

theorem insn_looksAtK.eq (R : Value → World → Prop) (code_ : Int) (w : World) : fnVC Try.prog none insn_looksAtK.live Try.f55 R [(.int .u16 code_)] w = insn_looksAtK.vc R code_ w := by kernel_rfl
set_option maxHeartbeats 4000000 in
theorem insn_looksAtK.ok {R : Value → World → Prop} {code_ : Int} {w : World} (h : insn_looksAtK.vc R code_ w) : Run Try.prog 55 #[(.int .u16 code_)] w R := by
  have h2 := Eq.mpr (insn_looksAtK.eq R code_ w) h
  exact fn_sound Try.mixed Try.func55 (by kernel_rfl) h2

/-! ### riddle/insn.mayFault: function 57 -/
noncomputable def insn_mayFault.body : Code := bodyOf Try.f57
def insn_mayFault.live : Nat → List Nat
  | _ => []
def insn_mayFault.J0 (R : Value → World → Prop) (t4 : Bool) (w : World) : Prop :=
  ifP t4
    (R (.bool true) w)
    (R (.bool false) w)

@[reducible] def insn_mayFault.vc (R : Value → World → Prop) (code_ : Int) (w : World) : Prop :=
  ifP ((code_ : Int) == 32)
    (insn_mayFault.J0 R ((code_ : Int) == 32) w)
    (ifP ((code_ : Int) == 40)
    (insn_mayFault.J0 R ((code_ : Int) == 40) w)
    (ifP ((code_ : Int) == 48)
    (insn_mayFault.J0 R ((code_ : Int) == 48) w)
    (ifP ((code_ : Int) == 64)
    (insn_mayFault.J0 R ((code_ : Int) == 64) w)
    (ifP ((code_ : Int) == 72)
    (insn_mayFault.J0 R ((code_ : Int) == 72) w)
    (ifP ((code_ : Int) == 80)
    (insn_mayFault.J0 R ((code_ : Int) == 80) w)
    (ifP ((code_ : Int) == 177)
    (insn_mayFault.J0 R ((code_ : Int) == 177) w)
    (ifP ((code_ : Int) == 60)
    (insn_mayFault.J0 R ((code_ : Int) == 60) w)
    (insn_mayFault.J0 R ((code_ : Int) == 156) w))))))))

theorem insn_mayFault.eq (R : Value → World → Prop) (code_ : Int) (w : World) : fnVC Try.prog none insn_mayFault.live Try.f57 R [(.int .u16 code_)] w = insn_mayFault.vc R code_ w := by kernel_rfl
set_option maxHeartbeats 4000000 in
theorem insn_mayFault.ok {R : Value → World → Prop} {code_ : Int} {w : World} (h : insn_mayFault.vc R code_ w) : Run Try.prog 57 #[(.int .u16 code_)] w R := by
  have h2 := Eq.mpr (insn_mayFault.eq R code_ w) h
  exact fn_sound Try.mixed Try.func57 (by kernel_rfl) h2

/-! ### riddle/insn.Uses: function 42 -/
noncomputable def insn_Uses.body : Code := bodyOf Try.f42
def insn_Uses.live : Nat → List Nat
  | _ => []
@[reducible] def insn_Uses.vc (R : Value → World → Prop) (code_ : Int) (w : World) : Prop :=
  Run Try.prog 54 #[(.int .u16 code_)] w fun v w_2 => ∃ t6 : Bool, v = (.bool t6) ∧ ifP (!t6)
    (R (.tuple #[(.bool false), (.bool false), (.bool false)]) w_2)
    (Run Try.prog 55 #[(.int .u16 code_)] w_2 fun v_2 w_3 => ∃ t9 : Bool, v_2 = (.bool t9) ∧ Run Try.prog 56 #[(.int .u16 code_)] w_3 fun v_3 w_4 => ∃ t11 : Bool, v_3 = (.bool t11) ∧ Run Try.prog 57 #[(.int .u16 code_)] w_4 fun v_4 w_5 => ∃ t13 : Bool, v_4 = (.bool t13) ∧ R (.tuple #[(.bool t9), (.bool t11), (.bool t13)]) w_5)

theorem insn_Uses.eq (R : Value → World → Prop) (code_ : Int) (w : World) : fnVC Try.prog none insn_Uses.live Try.f42 R [(.int .u16 code_)] w = insn_Uses.vc R code_ w := by kernel_rfl
set_option maxHeartbeats 4000000 in
theorem insn_Uses.ok {R : Value → World → Prop} {code_ : Int} {w : World} (h : insn_Uses.vc R code_ w) : Run Try.prog 42 #[(.int .u16 code_)] w R := by
  have h2 := Eq.mpr (insn_Uses.eq R code_ w) h
  exact fn_sound Try.mixed Try.func42 (by kernel_rfl) h2

/-! ### riddle/riddlelaw5.ends: function 26 -/
noncomputable def law5_ends.body : Code := bodyOf Try.f26
def law5_ends.live : Nat → List Nat
  | 0 => [0, 5, 7, 9, 11]
  | _ => []
noncomputable def law5_ends.c0 : Code := sub law5_ends.body [1, 1, 1, 1, 1, 1, 0, 1, 0, 0]
def law5_ends.K0 (R : Value → World → Prop) : Ex → St → World → Prop := (blockK 0 (thenK (fun st w => code Try.prog none law5_ends.live 0 (sub law5_ends.body [1, 1, 1, 1, 1, 1, 1]) (retK Try.prog Try.f26 R) st w) (retK Try.prog Try.f26 R)))
def law5_ends.L0 (R : Value → World → Prop) (pA : Option Addr) (pn : Nat) (pc : Nat) (reachA : Option Addr) (reachn : Nat) (reachc : Nat) (v : Addr) (tA : Option Addr) (tn : Nat) (tc : Nat) (i : Int) (w : World) : Prop :=
  loopVC (fun K => code Try.prog none law5_ends.live 0 law5_ends.c0 K) (law5_ends.live 0) (law5_ends.K0 R) [(.slice pA pn pc), undef, undef, undef, undef, (.slice reachA reachn reachc), undef, (.pointer (some v)), undef, (.slice tA tn tc), undef, (.int .i64 i), undef, undef, undef, undef, undef, undef, undef, undef, undef, undef, undef, undef, undef, undef, undef, undef, undef, undef, undef, undef, undef, undef, undef, undef, undef, undef, undef, undef, undef, undef, undef, undef, undef, undef, undef, undef, undef, undef, undef, undef, undef, undef, undef, undef, undef, undef, undef, undef, undef, undef, undef, undef, undef, undef, undef, undef, undef, undef, undef, undef, undef, undef, undef, undef, undef, undef, undef, undef, undef, undef, undef, undef, undef, undef, undef, undef, undef, undef, undef, undef, undef, undef, undef, undef, undef, undef, undef, undef, undef, undef, undef, undef, undef, undef, undef, undef, undef, undef, undef, undef, undef, undef, undef, undef, undef, undef, undef, undef, undef, undef, undef, undef, undef, undef, undef, undef, undef, undef, undef, undef, undef, undef, undef, undef, undef, undef, undef, undef, undef, undef, undef, undef, undef, undef, undef, undef, undef, undef, undef, undef, undef, undef, undef, undef, undef, undef, undef, undef, undef, undef, undef, undef, undef, undef, undef, undef, undef, undef, undef, undef, undef] w
def law5_ends.J0 (R : Value → World → Prop) (t4 : Bool) (w : World) : Prop :=
  R (.bool t4) w

def law5_ends.J2 (R : Value → World → Prop) (pA : Option Addr) (pn : Nat) (pc : Nat) (reachA : Option Addr) (reachn : Nat) (reachc : Nat) (v : Addr) (tA : Option Addr) (tn : Nat) (tc : Nat) (i : Int) (t132 : Bool) (w : World) : Prop :=
  ifP t132
    (R (.bool false) w)
    (law5_ends.L0 R pA pn pc reachA reachn reachc v tA tn tc (IntKind.i64.wrap (i + 1)) w)

def law5_ends.J3 (R : Value → World → Prop) (t4 : Bool) (w : World) : Prop :=
  R (.bool t4) w

def law5_ends.J4 (R : Value → World → Prop) (t4 : Bool) (w : World) : Prop :=
  R (.bool t4) w

@[reducible] def law5_ends.B0 (R : Value → World → Prop) (pA : Option Addr) (pn : Nat) (pc : Nat) (reachA : Option Addr) (reachn : Nat) (reachc : Nat) (v : Addr) (tA : Option Addr) (tn : Nat) (tc : Nat) (i : Int) (w : World) : Prop :=
  ifP (decide ((i : Int) < ((tn : Nat) : Int)))
    (letW w.drew fun w_2 => 0 ≤ (i : Int) ∧ (i : Int) < ((tn : Nat) : Int) ∧ ∃ t102p : Addr, tA = some t102p ∧ ∃ t103 : Int, w_2.cell? (t102p.add (Int.toNat i * 1)) = some (.int .i64 t103) ∧ ifP (decide ((t103 : Int) ≥ ((pn : Nat) : Int))) (law5_ends.J2 R pA pn pc reachA reachn reachc v tA tn tc i true w_2) (ifP (decide ((i : Int) > 0)) (0 ≤ (i : Int) ∧ (i : Int) < ((tn : Nat) : Int) ∧ ∃ t113p : Addr, tA = some t113p ∧ ∃ t114 : Int, w_2.cell? (t113p.add (Int.toNat i * 1)) = some (.int .i64 t114) ∧ 0 ≤ (IntKind.i64.wrap (i - 1) : Int) ∧ (IntKind.i64.wrap (i - 1) : Int) < ((tn : Nat) : Int) ∧ ∃ t118p : Addr, tA = some t118p ∧ ∃ t119 : Int, w_2.cell? (t118p.add (Int.toNat (IntKind.i64.wrap (i - 1)) * 1)) = some (.int .i64 t119) ∧ ifP (decide ((t114 : Int) ≤ t119)) (law5_ends.J2 R pA pn pc reachA reachn reachc v tA tn tc i true w_2) (0 ≤ (i : Int) ∧ (i : Int) < ((tn : Nat) : Int) ∧ ∃ t127p : Addr, tA = some t127p ∧ ∃ t128 : Int, w_2.cell? (t127p.add (Int.toNat i * 1)) = some (.int .i64 t128) ∧ 0 ≤ (t128 : Int) ∧ (t128 : Int) < ((reachn : Nat) : Int) ∧ ∃ t129p : Addr, reachA = some t129p ∧ ∃ t130 : Bool, w_2.cell? (t129p.add (Int.toNat t128 * 1)) = some (.bool t130) ∧ law5_ends.J2 R pA pn pc reachA reachn reachc v tA tn tc i (!t130) w_2)) (0 ≤ (i : Int) ∧ (i : Int) < ((tn : Nat) : Int) ∧ ∃ t127p_2 : Addr, tA = some t127p_2 ∧ ∃ t128_2 : Int, w_2.cell? (t127p_2.add (Int.toNat i * 1)) = some (.int .i64 t128_2) ∧ 0 ≤ (t128_2 : Int) ∧ (t128_2 : Int) < ((reachn : Nat) : Int) ∧ ∃ t129p_2 : Addr, reachA = some t129p_2 ∧ ∃ t130_2 : Bool, w_2.cell? (t129p_2.add (Int.toNat t128_2 * 1)) = some (.bool t130_2) ∧ law5_ends.J2 R pA pn pc reachA reachn reachc v tA tn tc i (!t130_2) w_2)))
    (0 ≤ (IntKind.i64.wrap (((tn : Nat) : Int) - 1) : Int) ∧ (IntKind.i64.wrap (((tn : Nat) : Int) - 1) : Int) < ((tn : Nat) : Int) ∧ ∃ t138p : Addr, tA = some t138p ∧ ∃ t139 : Int, w.cell? (t138p.add (Int.toNat (IntKind.i64.wrap (((tn : Nat) : Int) - 1)) * 1)) = some (.int .i64 t139) ∧ 0 ≤ (t139 : Int) ∧ (t139 : Int) < ((pn : Nat) : Int) ∧ ∃ t140p : Addr, pA = some t140p ∧ ∃ t141_0 : Int, w.cell? (t140p.add (Int.toNat t139 * 4)) = some (.int .u16 t141_0) ∧ ∃ t141_1 : Int, w.cell? ((t140p.add (Int.toNat t139 * 4)).add 1) = some (.int .u8 t141_1) ∧ ∃ t141_2 : Int, w.cell? ((t140p.add (Int.toNat t139 * 4)).add 2) = some (.int .u8 t141_2) ∧ ∃ t141_3 : Int, w.cell? ((t140p.add (Int.toNat t139 * 4)).add 3) = some (.int .u32 t141_3) ∧ letW (w.alloc (.cells #[(.int .u16 0), (.int .u8 0), (.int .u8 0), (.int .u32 0)] 45)) fun w_3 => storeRow (newA w) 0 [(.int .u16 t141_0), (.int .u8 t141_1), (.int .u8 t141_2), (.int .u32 t141_3)] w_3 fun w_4 => ∃ t144 : Int, w_4.cell? (newA w) = some (.int .u16 t144) ∧ Run Try.prog 42 #[(.int .u16 t144)] w_4 fun v_2 w_5 => ∃ t1450 : Bool, ∃ t1451 : Bool, ∃ t1452 : Bool, v_2 = (.tuple #[(.bool t1450), (.bool t1451), (.bool t1452)]) ∧ ∃ t150 : Int, w_5.cell? (v.add 1) = some (.int .i64 t150) ∧ ifP ((t150 : Int) != 0)
    (∃ t153 : Int, w_5.cell? v = some (.int .u32 t153) ∧ ifP ((t153 : Int) == 0) (law5_ends.J3 R t1452 w_5) (law5_ends.J3 R false w_5))
    (∃ t159 : Int, w_5.cell? (newA w) = some (.int .u16 t159) ∧ Run Try.prog 43 #[(.int .u16 t159)] w_5 fun v_3 w_6 => ∃ t160 : Bool, v_3 = (.bool t160) ∧ ifP t160 (∃ t163 : Int, w_6.cell? (newA w) = some (.int .u16 t163) ∧ ifP ((t163 : Int) == 22) (law5_ends.J4 R true w_6) (∃ t167 : Int, w_6.cell? v = some (.int .u32 t167) ∧ ∃ t169 : Int, w_6.cell? ((newA w).add 3) = some (.int .u32 t169) ∧ law5_ends.J4 R ((t167 : Int) == t169) w_6)) (law5_ends.J4 R false w_6)))

def law5_ends.J1 (R : Value → World → Prop) (pA : Option Addr) (pn : Nat) (pc : Nat) (reachA : Option Addr) (reachn : Nat) (reachc : Nat) (v : Addr) (tA : Option Addr) (tn : Nat) (tc : Nat) (t93 : Bool) (w : World) : Prop :=
  ifP t93
    (R (.bool false) w)
    (law5_ends.L0 R pA pn pc reachA reachn reachc v tA tn tc 0 w)

@[reducible] def law5_ends.vc (R : Value → World → Prop) (pA : Option Addr) (pn : Nat) (pc : Nat) (packetA : Option Addr) (packetn : Nat) (packetc : Nat) (w : World) : Prop :=
  Run Try.prog 19 #[(.slice pA pn pc)] w fun v w_2 => ∃ (t18A : Option Addr) (t18n t18c : Nat), v = (.slice t18A t18n t18c) ∧ Run Try.prog 41 #[(.slice t18A t18n t18c)] w_2 fun v_2 w_3 => ∃ (t190A : Option Addr) (t190n t190c : Nat), ∃ t191 : Int, v_2 = (.tuple #[(.slice t190A t190n t190c), (.int .i64 t191)]) ∧ Run Try.prog 19 #[(.slice pA pn pc)] w_3 fun v_3 w_4 => ∃ (t24A : Option Addr) (t24n t24c : Nat), v_3 = (.slice t24A t24n t24c) ∧ Run Try.prog 20 #[(.slice packetA packetn packetc)] w_4 fun v_4 w_5 => ∃ (t26A : Option Addr) (t26n t26c : Nat), v_4 = (.slice t26A t26n t26c) ∧ Run Try.prog 14 #[(.slice t24A t24n t24c), (.slice t26A t26n t26c)] w_5 fun v_5 w_6 => ∃ t270_0 : Int, ∃ t270_1 : Int, ∃ t270_2 : Int, ∃ t271 : Int, v_5 = (.tuple #[(.agg #[(.int .u32 t270_0), (.int .i64 t270_1), (.int .i64 t270_2)]), (.int .i64 t271)]) ∧ letW (w_6.alloc (.cells #[(.int .u32 0), (.int .i64 0), (.int .i64 0)] 26)) fun w_7 => storeRow (newA w_6) 0 [(.int .u32 t270_0), (.int .i64 t270_1), (.int .i64 t270_2)] w_7 fun w_8 => Run Try.prog 19 #[(.slice pA pn pc)] w_8 fun v_6 w_9 => ∃ (t32A : Option Addr) (t32n t32c : Nat), v_6 = (.slice t32A t32n t32c) ∧ Run Try.prog 20 #[(.slice packetA packetn packetc)] w_9 fun v_7 w_10 => ∃ (t34A : Option Addr) (t34n t34c : Nat), v_7 = (.slice t34A t34n t34c) ∧ Run Try.prog 18 #[(.slice t32A t32n t32c), (.slice t34A t34n t34c)] w_10 fun v_8 w_11 => ∃ (t350A : Option Addr) (t350n t350c : Nat), ∃ t351 : Int, v_8 = (.tuple #[(.slice t350A t350n t350c), (.int .i64 t351)]) ∧ ifP ((t191 : Int) != 0)
    (ifP ((t271 : Int) == 50) (ifP ((t351 : Int) == 50) (∃ t47_0 : Int, w_11.cell? (newA w_6) = some (.int .u32 t47_0) ∧ ∃ t47_1 : Int, w_11.cell? ((newA w_6).add 1) = some (.int .i64 t47_1) ∧ ∃ t47_2 : Int, w_11.cell? ((newA w_6).add 2) = some (.int .i64 t47_2) ∧ ∃ (v_9 : Value) (w_12 : World), (eqSem .eql 26 (.tmp 47) (.tmp 48) (.agg #[(.int .u32 t47_0), (.int .i64 t47_1), (.int .i64 t47_2)]) (.agg #[(.int .u32 0), (.int .i64 0), (.int .i64 0)])).run Try.prog w_11 = .ok v_9 w_12 ∧ ∃ t49 : Bool, v_9 = (.bool t49) ∧ ifP t49 (law5_ends.J0 R ((((t350n : Nat) : Int) : Int) == 0) w_12) (law5_ends.J0 R false w_12)) (law5_ends.J0 R false w_11)) (law5_ends.J0 R false w_11))
    (ifP ((t271 : Int) != 0) (law5_ends.J1 R pA pn pc t190A t190n t190c (newA w_6) t350A t350n t350c true w_11) (ifP ((t351 : Int) != 0) (law5_ends.J1 R pA pn pc t190A t190n t190c (newA w_6) t350A t350n t350c true w_11) (∃ t64 : Int, w_11.cell? ((newA w_6).add 2) = some (.int .i64 t64) ∧ ifP ((t64 : Int) != ((t350n : Nat) : Int)) (law5_ends.J1 R pA pn pc t190A t190n t190c (newA w_6) t350A t350n t350c true w_11) (ifP ((((t350n : Nat) : Int) : Int) == 0) (law5_ends.J1 R pA pn pc t190A t190n t190c (newA w_6) t350A t350n t350c true w_11) (ifP (decide ((((t350n : Nat) : Int) : Int) > ((pn : Nat) : Int))) (law5_ends.J1 R pA pn pc t190A t190n t190c (newA w_6) t350A t350n t350c true w_11) (ifP ((((t190n : Nat) : Int) : Int) != ((pn : Nat) : Int)) (law5_ends.J1 R pA pn pc t190A t190n t190c (newA w_6) t350A t350n t350c true w_11) (0 ≤ (0 : Int) ∧ (0 : Int) < ((t350n : Nat) : Int) ∧ ∃ t90p : Addr, t350A = some t90p ∧ ∃ t91 : Int, w_11.cell? (t90p.add (Int.toNat 0 * 1)) = some (.int .i64 t91) ∧ law5_ends.J1 R pA pn pc t190A t190n t190c (newA w_6) t350A t350n t350c ((t91 : Int) != 0) w_11)))))))

theorem law5_ends.B0_eq (R : Value → World → Prop) (pA : Option Addr) (pn : Nat) (pc : Nat) (reachA : Option Addr) (reachn : Nat) (reachc : Nat) (v : Addr) (tA : Option Addr) (tn : Nat) (tc : Nat) (i : Int) (w : World) (ts : Nat → Value) :
    code Try.prog none law5_ends.live 0 law5_ends.c0 (thenK (fun st w => loopVC (fun K => code Try.prog none law5_ends.live 0 law5_ends.c0 K) (law5_ends.live 0) (law5_ends.K0 R) (clearFrom (law5_ends.live 0) 0 st) w) (law5_ends.K0 R)) (mergeFrom (law5_ends.live 0) ts 0 (clearFrom (law5_ends.live 0) 0 [(.slice pA pn pc), undef, undef, undef, undef, (.slice reachA reachn reachc), undef, (.pointer (some v)), undef, (.slice tA tn tc), undef, (.int .i64 i), undef, undef, undef, undef, undef, undef, undef, undef, undef, undef, undef, undef, undef, undef, undef, undef, undef, undef, undef, undef, undef, undef, undef, undef, undef, undef, undef, undef, undef, undef, undef, undef, undef, undef, undef, undef, undef, undef, undef, undef, undef, undef, undef, undef, undef, undef, undef, undef, undef, undef, undef, undef, undef, undef, undef, undef, undef, undef, undef, undef, undef, undef, undef, undef, undef, undef, undef, undef, undef, undef, undef, undef, undef, undef, undef, undef, undef, undef, undef, undef, undef, undef, undef, undef, undef, undef, undef, undef, undef, undef, undef, undef, undef, undef, undef, undef, undef, undef, undef, undef, undef, undef, undef, undef, undef, undef, undef, undef, undef, undef, undef, undef, undef, undef, undef, undef, undef, undef, undef, undef, undef, undef, undef, undef, undef, undef, undef, undef, undef, undef, undef, undef, undef, undef, undef, undef, undef, undef, undef, undef, undef, undef, undef, undef, undef, undef, undef, undef, undef, undef, undef, undef, undef, undef, undef, undef, undef, undef, undef, undef, undef])) w = law5_ends.B0 R pA pn pc reachA reachn reachc v tA tn tc i w := by kernel_rfl
theorem law5_ends.L0_step {R : Value → World → Prop} {pA : Option Addr} {pn : Nat} {pc : Nat} {reachA : Option Addr} {reachn : Nat} {reachc : Nat} {v : Addr} {tA : Option Addr} {tn : Nat} {tc : Nat} {i : Int} {w : World} (h : law5_ends.B0 R pA pn pc reachA reachn reachc v tA tn tc i w) : law5_ends.L0 R pA pn pc reachA reachn reachc v tA tn tc i w :=
  loop_step (live := law5_ends.live) (b := 0) (x := law5_ends.c0) fun ts => Eq.mpr (law5_ends.B0_eq R pA pn pc reachA reachn reachc v tA tn tc i w ts) h
theorem law5_ends.eq (R : Value → World → Prop) (pA : Option Addr) (pn : Nat) (pc : Nat) (packetA : Option Addr) (packetn : Nat) (packetc : Nat) (w : World) : fnVC Try.prog none law5_ends.live Try.f26 R [(.slice pA pn pc), (.slice packetA packetn packetc)] w = law5_ends.vc R pA pn pc packetA packetn packetc w := by kernel_rfl
set_option maxHeartbeats 4000000 in
theorem law5_ends.ok {R : Value → World → Prop} {pA : Option Addr} {pn : Nat} {pc : Nat} {packetA : Option Addr} {packetn : Nat} {packetc : Nat} {w : World} (h : law5_ends.vc R pA pn pc packetA packetn packetc w) : Run Try.prog 26 #[(.slice pA pn pc), (.slice packetA packetn packetc)] w R := by
  have h2 := Eq.mpr (law5_ends.eq R pA pn pc packetA packetn packetc w) h
  exact fn_sound Try.mixed Try.func26 (by kernel_rfl) h2

/-! ### riddle/riddlelaw5.VmStops: function 9 -/
noncomputable def law5_VmStops.body : Code := bodyOf Try.f9
def law5_VmStops.live : Nat → List Nat
  | _ => []
def law5_VmStops.J0 (R : Value → World → Prop) (t4 : Bool) (w : World) : Prop :=
  R (.bool t4) w

@[reducible] def law5_VmStops.vc (R : Value → World → Prop) (pA : Option Addr) (pn : Nat) (pc : Nat) (packetA : Option Addr) (packetn : Nat) (packetc : Nat) (w : World) : Prop :=
  ifP (decide ((((packetn : Nat) : Int) : Int) > 65536))
    (Run Try.prog 17 #[] w fun v w_2 => ∃ t8 : Bool, v = (.bool t8) ∧ R (.bool t8) w_2)
    (Run Try.prog 26 #[(.slice pA pn pc), (.slice packetA packetn packetc)] w fun v_2 w_3 => ∃ t11 : Bool, v_2 = (.bool t11) ∧ ifP t11 (Run Try.prog 17 #[] w_3 fun v_3 w_4 => ∃ t13 : Bool, v_3 = (.bool t13) ∧ law5_VmStops.J0 R t13 w_4) (law5_VmStops.J0 R false w_3))

theorem law5_VmStops.eq (R : Value → World → Prop) (pA : Option Addr) (pn : Nat) (pc : Nat) (packetA : Option Addr) (packetn : Nat) (packetc : Nat) (w : World) : fnVC Try.prog none law5_VmStops.live Try.f9 R [(.slice pA pn pc), (.slice packetA packetn packetc)] w = law5_VmStops.vc R pA pn pc packetA packetn packetc w := by kernel_rfl
set_option maxHeartbeats 4000000 in
theorem law5_VmStops.ok {R : Value → World → Prop} {pA : Option Addr} {pn : Nat} {pc : Nat} {packetA : Option Addr} {packetn : Nat} {packetc : Nat} {w : World} (h : law5_VmStops.vc R pA pn pc packetA packetn packetc w) : Run Try.prog 9 #[(.slice pA pn pc), (.slice packetA packetn packetc)] w R := by
  have h2 := Eq.mpr (law5_VmStops.eq R pA pn pc packetA packetn packetc w) h
  exact fn_sound Try.mixed Try.func9 (by kernel_rfl) h2

/-! ### riddle/insn.Decode: function 27 -/
noncomputable def insn_Decode.body : Code := bodyOf Try.f27
def insn_Decode.live : Nat → List Nat
  | 0 => [0, 4, 5]
  | _ => []
noncomputable def insn_Decode.c0 : Code := sub insn_Decode.body [1, 1, 1, 1, 0, 1, 0, 0]
def insn_Decode.K0 (R : Value → World → Prop) : Ex → St → World → Prop := (blockK 0 (thenK (fun st w => code Try.prog none insn_Decode.live 0 (sub insn_Decode.body [1, 1, 1, 1, 1]) (retK Try.prog Try.f27 R) st w) (retK Try.prog Try.f27 R)))
def insn_Decode.L0 (R : Value → World → Prop) (bA : Option Addr) (bn : Nat) (bc : Nat) (outA : Option Addr) (outn : Nat) (outc : Nat) (at_ : Int) (w : World) : Prop :=
  loopVC (fun K => code Try.prog none insn_Decode.live 0 insn_Decode.c0 K) (insn_Decode.live 0) (insn_Decode.K0 R) [(.slice bA bn bc), undef, undef, undef, (.slice outA outn outc), (.int .i64 at_), undef, undef, undef, undef, undef, undef, undef, undef, undef, undef, undef, undef, undef, undef, undef, undef, undef, undef, undef, undef, undef, undef, undef, undef, undef, undef, undef, undef, undef, undef, undef, undef, undef, undef, undef, undef, undef, undef, undef, undef, undef, undef, undef, undef, undef, undef, undef, undef] w
def insn_Decode.J0 (R : Value → World → Prop) (bA : Option Addr) (bn : Nat) (bc : Nat) (outA : Option Addr) (outn : Nat) (outc : Nat) (at_ : Int) (w : World) : Prop :=
  insn_Decode.L0 R bA bn bc outA outn outc (IntKind.i64.wrap (at_ + 8)) w

@[reducible] def insn_Decode.B0 (R : Value → World → Prop) (bA : Option Addr) (bn : Nat) (bc : Nat) (outA : Option Addr) (outn : Nat) (outc : Nat) (at_ : Int) (w : World) : Prop :=
  ifP (decide ((at_ : Int) < ((bn : Nat) : Int)))
    (Run Try.prog 23 #[(.slice bA bn bc), (.int .i64 at_), (.int .i64 2)] w fun v w_2 => ∃ t260 : Int, ∃ t261 : Bool, v = (.tuple #[(.int .u32 t260), (.bool t261)]) ∧ Run Try.prog 23 #[(.slice bA bn bc), (.int .i64 (IntKind.i64.wrap (at_ + 4))), (.int .i64 4)] w_2 fun v_2 w_3 => ∃ t330 : Int, ∃ t331 : Bool, v_2 = (.tuple #[(.int .u32 t330), (.bool t331)]) ∧ ∃ S_ : World → Prop, S_ w_3.drew ∧ letW w_3.drew fun w_4 => 0 ≤ (IntKind.i64.wrap (at_ + 2) : Int) ∧ (IntKind.i64.wrap (at_ + 2) : Int) < ((bn : Nat) : Int) ∧ ∃ t42p : Addr, bA = some t42p ∧ ∃ t43 : Int, (∀ u : World, S_ u → u.cell? (t42p.add (Int.toNat (IntKind.i64.wrap (at_ + 2)) * 1)) = some (.int .u8 t43)) ∧ 0 ≤ (IntKind.i64.wrap (at_ + 3) : Int) ∧ (IntKind.i64.wrap (at_ + 3) : Int) < ((bn : Nat) : Int) ∧ ∃ t47p : Addr, bA = some t47p ∧ ∃ t48 : Int, (∀ u_2 : World, S_ u_2 → u_2.cell? (t47p.add (Int.toNat (IntKind.i64.wrap (at_ + 3)) * 1)) = some (.int .u8 t48)) ∧ letW (w_4.alloc (.cells #[(.int .u16 (IntKind.u16.wrap t260)), (.int .u8 t43), (.int .u8 t48), (.int .u32 t330)] 45)) fun w_5 => ∃ (v_3 : Value) (w_6 : World), (Builtin.append_ #[22, 22] 22 #[(.slice outA outn outc), (.slice (some (newA w_4)) 1 1)]).run Try.prog w_5 = .ok v_3 w_6 ∧ ∃ (t52A : Option Addr) (t52n t52c : Nat), v_3 = (.slice t52A t52n t52c) ∧ insn_Decode.J0 R bA bn bc t52A t52n t52c at_ w_6)
    (R (.tuple #[(.slice outA outn outc), (.int .i64 0)]) w)

@[reducible] def insn_Decode.vc (R : Value → World → Prop) (bA : Option Addr) (bn : Nat) (bc : Nat) (w : World) : Prop :=
  ifP ((Int.tmod ((bn : Nat) : Int) 8 : Int) != 0)
    (R (.tuple #[(.slice none 0 0), (.int .i64 20)]) w)
    (ifP (decide ((((bn : Nat) : Int) : Int) > 32768))
    (R (.tuple #[(.slice none 0 0), (.int .i64 21)]) w)
    (insn_Decode.L0 R bA bn bc none 0 0 0 w))

theorem insn_Decode.B0_eq (R : Value → World → Prop) (bA : Option Addr) (bn : Nat) (bc : Nat) (outA : Option Addr) (outn : Nat) (outc : Nat) (at_ : Int) (w : World) (ts : Nat → Value) :
    code Try.prog none insn_Decode.live 0 insn_Decode.c0 (thenK (fun st w => loopVC (fun K => code Try.prog none insn_Decode.live 0 insn_Decode.c0 K) (insn_Decode.live 0) (insn_Decode.K0 R) (clearFrom (insn_Decode.live 0) 0 st) w) (insn_Decode.K0 R)) (mergeFrom (insn_Decode.live 0) ts 0 (clearFrom (insn_Decode.live 0) 0 [(.slice bA bn bc), undef, undef, undef, (.slice outA outn outc), (.int .i64 at_), undef, undef, undef, undef, undef, undef, undef, undef, undef, undef, undef, undef, undef, undef, undef, undef, undef, undef, undef, undef, undef, undef, undef, undef, undef, undef, undef, undef, undef, undef, undef, undef, undef, undef, undef, undef, undef, undef, undef, undef, undef, undef, undef, undef, undef, undef, undef, undef])) w = insn_Decode.B0 R bA bn bc outA outn outc at_ w := by kernel_rfl
theorem insn_Decode.L0_step {R : Value → World → Prop} {bA : Option Addr} {bn : Nat} {bc : Nat} {outA : Option Addr} {outn : Nat} {outc : Nat} {at_ : Int} {w : World} (h : insn_Decode.B0 R bA bn bc outA outn outc at_ w) : insn_Decode.L0 R bA bn bc outA outn outc at_ w :=
  loop_step (live := insn_Decode.live) (b := 0) (x := insn_Decode.c0) fun ts => Eq.mpr (insn_Decode.B0_eq R bA bn bc outA outn outc at_ w ts) h
theorem insn_Decode.eq (R : Value → World → Prop) (bA : Option Addr) (bn : Nat) (bc : Nat) (w : World) : fnVC Try.prog none insn_Decode.live Try.f27 R [(.slice bA bn bc)] w = insn_Decode.vc R bA bn bc w := by kernel_rfl
set_option maxHeartbeats 4000000 in
theorem insn_Decode.ok {R : Value → World → Prop} {bA : Option Addr} {bn : Nat} {bc : Nat} {w : World} (h : insn_Decode.vc R bA bn bc w) : Run Try.prog 27 #[(.slice bA bn bc)] w R := by
  have h2 := Eq.mpr (insn_Decode.eq R bA bn bc w) h
  exact fn_sound Try.mixed Try.func27 (by kernel_rfl) h2

/-! ### riddle/riddlelaw5.VmEnds: function 10 -/
noncomputable def law5_VmEnds.body : Code := bodyOf Try.f10
def law5_VmEnds.live : Nat → List Nat
  | _ => []
def law5_VmEnds.J1 (R : Value → World → Prop) (t4 : Bool) (w : World) : Prop :=
  R (.bool t4) w

def law5_VmEnds.J0 (R : Value → World → Prop) (packetA : Option Addr) (packetn : Nat) (packetc : Nat) (pA : Option Addr) (pn : Nat) (pc : Nat) (t19 : Bool) (w : World) : Prop :=
  ifP t19
    (Run Try.prog 17 #[] w fun v w_2 => ∃ t20 : Bool, v = (.bool t20) ∧ R (.bool t20) w_2)
    (Run Try.prog 26 #[(.slice pA pn pc), (.slice packetA packetn packetc)] w fun v_2 w_3 => ∃ t23 : Bool, v_2 = (.bool t23) ∧ ifP t23 (Run Try.prog 17 #[] w_3 fun v_3 w_4 => ∃ t25 : Bool, v_3 = (.bool t25) ∧ law5_VmEnds.J1 R t25 w_4) (law5_VmEnds.J1 R false w_3))

@[reducible] def law5_VmEnds.vc (R : Value → World → Prop) (bA : Option Addr) (bn : Nat) (bc : Nat) (packetA : Option Addr) (packetn : Nat) (packetc : Nat) (w : World) : Prop :=
  Run Try.prog 20 #[(.slice bA bn bc)] w fun v w_2 => ∃ (t9A : Option Addr) (t9n t9c : Nat), v = (.slice t9A t9n t9c) ∧ Run Try.prog 27 #[(.slice t9A t9n t9c)] w_2 fun v_2 w_3 => ∃ (t100A : Option Addr) (t100n t100c : Nat), ∃ t101 : Int, v_2 = (.tuple #[(.slice t100A t100n t100c), (.int .i64 t101)]) ∧ ifP ((t101 : Int) != 0) (law5_VmEnds.J0 R packetA packetn packetc t100A t100n t100c true w_3) (law5_VmEnds.J0 R packetA packetn packetc t100A t100n t100c (decide ((((packetn : Nat) : Int) : Int) > 65536)) w_3)

theorem law5_VmEnds.eq (R : Value → World → Prop) (bA : Option Addr) (bn : Nat) (bc : Nat) (packetA : Option Addr) (packetn : Nat) (packetc : Nat) (w : World) : fnVC Try.prog none law5_VmEnds.live Try.f10 R [(.slice bA bn bc), (.slice packetA packetn packetc)] w = law5_VmEnds.vc R bA bn bc packetA packetn packetc w := by kernel_rfl
set_option maxHeartbeats 4000000 in
theorem law5_VmEnds.ok {R : Value → World → Prop} {bA : Option Addr} {bn : Nat} {bc : Nat} {packetA : Option Addr} {packetn : Nat} {packetc : Nat} {w : World} (h : law5_VmEnds.vc R bA bn bc packetA packetn packetc w) : Run Try.prog 10 #[(.slice bA bn bc), (.slice packetA packetn packetc)] w R := by
  have h2 := Eq.mpr (law5_VmEnds.eq R bA bn bc packetA packetn packetc w) h
  exact fn_sound Try.mixed Try.func10 (by kernel_rfl) h2

end
end Go.Proofs.Ytllooifbiapeoaa
