/- Printed by a program of this repo (wip/tools/gen.py) out of Lean's own print of the functions: each function's weakest precondition, and the equation that it is one. -/
import Derived.Test.YthcpkjfccfgiaaaProg
import Derived.Test.YthcpkjfccfgiaaaS4
import Derived.KernelRfl
import Derived.Test.YthcpkjfccfgiaaaV
namespace Go.Proofs.Ythcpkjfccfgiaaa
open Go.Rd
set_option linter.unusedVariables false
set_option maxRecDepth 100000
section

/-! ### riddle/riddlelaw7.FrameBounds: function 6 -/
noncomputable def law7_FrameBounds.body : Code := bodyOf Try.f6
def law7_FrameBounds.live : Nat → List Nat
  | _ => []
def law7_FrameBounds.J1 (R : Value → World → Prop) (t4 : Bool) (w : World) : Prop :=
  R (.bool t4) w

def law7_FrameBounds.J13 (R : Value → World → Prop) (w : World) : Prop :=
  Run Try.prog 16 #[] w fun v w_2 => ∃ t160 : Bool, v = (.bool t160) ∧ R (.bool t160) w_2

def law7_FrameBounds.J12 (R : Value → World → Prop) (t159 : Bool) (w : World) : Prop :=
  ifP t159
    (R (.bool false) w)
    (law7_FrameBounds.J13 R w)

def law7_FrameBounds.J11 (R : Value → World → Prop) (k : Addr) (v : Addr) (space : Int) (w : World) : Prop :=
  ∃ t130 : Bool, w.cell? (v.add 1) = some (.bool t130) ∧ ifP (!t130) (∃ t134 : Bool, w.cell? (v.add 2) = some (.bool t134) ∧ ifP t134 (law7_FrameBounds.J12 R true w) (∃ t137 : Bool, w.cell? (v.add 3) = some (.bool t137) ∧ ifP t137 (law7_FrameBounds.J12 R true w) (∃ t141 : Int, w.cell? (v.add 4) = some (.int .u32 t141) ∧ ifP ((t141 : Int) != 0) (law7_FrameBounds.J12 R true w) (∃ t147 : Bool, w.cell? (v.add 1) = some (.bool t147) ∧ ifP t147 (∃ t150 : Int, w.cell? (k.add 2) = some (.int .i64 t150) ∧ ifP ((t150 : Int) == 0) (law7_FrameBounds.J12 R true w) (∃ t154 : Int, w.cell? (v.add 4) = some (.int .u32 t154) ∧ law7_FrameBounds.J12 R (decide ((t154 : Int) ≥ space)) w)) (law7_FrameBounds.J12 R false w))))) (∃ t147_2 : Bool, w.cell? (v.add 1) = some (.bool t147_2) ∧ ifP t147_2 (∃ t150_2 : Int, w.cell? (k.add 2) = some (.int .i64 t150_2) ∧ ifP ((t150_2 : Int) == 0) (law7_FrameBounds.J12 R true w) (∃ t154_2 : Int, w.cell? (v.add 4) = some (.int .u32 t154_2) ∧ law7_FrameBounds.J12 R (decide ((t154_2 : Int) ≥ space)) w)) (law7_FrameBounds.J12 R false w))

def law7_FrameBounds.J10 (R : Value → World → Prop) (k : Addr) (v : Addr) (w : World) : Prop :=
  ∃ t127 : Int, w.cell? (k.add 2) = some (.int .i64 t127) ∧ ifP ((t127 : Int) == 2)
    (law7_FrameBounds.J11 R k v 16777216 w)
    (law7_FrameBounds.J11 R k v 4096 w)

def law7_FrameBounds.J9 (R : Value → World → Prop) (k : Addr) (v : Addr) (t125 : Bool) (w : World) : Prop :=
  ifP t125
    (R (.bool false) w)
    (law7_FrameBounds.J10 R k v w)

def law7_FrameBounds.J8 (R : Value → World → Prop) (k : Addr) (v : Addr) (net : Int) (w : World) : Prop :=
  ∃ t99 : Int, w.cell? (v.add 6) = some (.int .i64 t99) ∧ ifP ((t99 : Int) != net) (law7_FrameBounds.J9 R k v true w) (ifP ((net : Int) == 0) (∃ t107 : Int, w.cell? (v.add 7) = some (.int .i64 t107) ∧ ifP ((t107 : Int) != 0) (law7_FrameBounds.J9 R k v true w) (∃ t111 : Int, w.cell? (v.add 8) = some (.int .i64 t111) ∧ ifP ((t111 : Int) != 0) (law7_FrameBounds.J9 R k v true w) (∃ t118 : Int, w.cell? (v.add 7) = some (.int .i64 t118) ∧ ifP (decide ((t118 : Int) < 0)) (law7_FrameBounds.J9 R k v true w) (∃ t123 : Int, w.cell? (v.add 7) = some (.int .i64 t123) ∧ law7_FrameBounds.J9 R k v (decide ((t123 : Int) > 255)) w)))) (∃ t118_2 : Int, w.cell? (v.add 7) = some (.int .i64 t118_2) ∧ ifP (decide ((t118_2 : Int) < 0)) (law7_FrameBounds.J9 R k v true w) (∃ t123_2 : Int, w.cell? (v.add 7) = some (.int .i64 t123_2) ∧ law7_FrameBounds.J9 R k v (decide ((t123_2 : Int) > 255)) w)))

def law7_FrameBounds.J7 (R : Value → World → Prop) (k : Addr) (v : Addr) (ip6 : Bool) (net : Int) (w : World) : Prop :=
  ifP ip6
    (law7_FrameBounds.J8 R k v 6 w)
    (law7_FrameBounds.J8 R k v net w)

def law7_FrameBounds.J6 (R : Value → World → Prop) (k : Addr) (v : Addr) (ip : Bool) (ip6 : Bool) (w : World) : Prop :=
  ifP ip
    (law7_FrameBounds.J7 R k v ip6 4 w)
    (law7_FrameBounds.J7 R k v ip6 0 w)

def law7_FrameBounds.J5 (R : Value → World → Prop) (k : Addr) (v : Addr) (ip : Bool) (w : World) : Prop :=
  ∃ t85 : Int, w.cell? v = some (.int .u32 t85) ∧ ifP ((t85 : Int) == 87) (∃ t89 : Bool, w.cell? (v.add 1) = some (.bool t89) ∧ ifP (!t89) (law7_FrameBounds.J6 R k v ip true w) (∃ t93 : Bool, w.cell? (v.add 2) = some (.bool t93) ∧ law7_FrameBounds.J6 R k v ip t93 w)) (law7_FrameBounds.J6 R k v ip false w)

def law7_FrameBounds.J4 (R : Value → World → Prop) (k : Addr) (v : Addr) (w : World) : Prop :=
  ∃ t73 : Int, w.cell? v = some (.int .u32 t73) ∧ ifP ((t73 : Int) == 33) (∃ t77 : Bool, w.cell? (v.add 1) = some (.bool t77) ∧ ifP (!t77) (law7_FrameBounds.J5 R k v true w) (∃ t81 : Bool, w.cell? (v.add 2) = some (.bool t81) ∧ law7_FrameBounds.J5 R k v t81 w)) (law7_FrameBounds.J5 R k v false w)

def law7_FrameBounds.J3 (R : Value → World → Prop) (k : Addr) (v : Addr) (t71 : Bool) (w : World) : Prop :=
  ifP t71
    (R (.bool false) w)
    (law7_FrameBounds.J4 R k v w)

def law7_FrameBounds.J2 (R : Value → World → Prop) (bA : Option Addr) (bn : Nat) (bc : Nat) (k : Addr) (v : Addr) (w : World) : Prop :=
  ∃ t27 : Int, w.cell? (v.add 5) = some (.int .i64 t27) ∧ ifP (decide ((t27 : Int) < 1)) (law7_FrameBounds.J3 R k v true w) (∃ t31 : Int, w.cell? (v.add 5) = some (.int .i64 t31) ∧ ifP (decide ((t31 : Int) > ((bn : Nat) : Int))) (law7_FrameBounds.J3 R k v true w) (∃ t38 : Int, w.cell? (v.add 8) = some (.int .i64 t38) ∧ ifP (decide ((t38 : Int) < 0)) (law7_FrameBounds.J3 R k v true w) (∃ t43 : Int, w.cell? (v.add 8) = some (.int .i64 t43) ∧ ifP (decide ((t43 : Int) > ((bn : Nat) : Int))) (law7_FrameBounds.J3 R k v true w) (∃ t50 : Int, w.cell? (v.add 8) = some (.int .i64 t50) ∧ ifP ((t50 : Int) != 0) (∃ t54 : Int, w.cell? (v.add 8) = some (.int .i64 t54) ∧ ∃ t56 : Int, w.cell? (v.add 5) = some (.int .i64 t56) ∧ ifP (decide ((t54 : Int) < (IntKind.i64.wrap (t56 + 20)))) (law7_FrameBounds.J3 R k v true w) (∃ t63 : Int, w.cell? v = some (.int .u32 t63) ∧ ifP (decide ((t63 : Int) > 65535)) (law7_FrameBounds.J3 R k v true w) (∃ t68 : Int, w.cell? v = some (.int .u32 t68) ∧ law7_FrameBounds.J3 R k v ((Int.tmod t68 2 : Int) == 0) w))) (∃ t63_2 : Int, w.cell? v = some (.int .u32 t63_2) ∧ ifP (decide ((t63_2 : Int) > 65535)) (law7_FrameBounds.J3 R k v true w) (∃ t68_2 : Int, w.cell? v = some (.int .u32 t68_2) ∧ law7_FrameBounds.J3 R k v ((Int.tmod t68_2 2 : Int) == 0) w))))))

def law7_FrameBounds.J0 (R : Value → World → Prop) (bA : Option Addr) (bn : Nat) (bc : Nat) (k : Addr) (v : Addr) (e : Int) (w : World) : Prop :=
  ifP ((e : Int) != 0)
    (∃ t20_0 : Int, w.cell? v = some (.int .u32 t20_0) ∧ ∃ t20_1 : Bool, w.cell? (v.add 1) = some (.bool t20_1) ∧ ∃ t20_2 : Bool, w.cell? (v.add 2) = some (.bool t20_2) ∧ ∃ t20_3 : Bool, w.cell? (v.add 3) = some (.bool t20_3) ∧ ∃ t20_4 : Int, w.cell? (v.add 4) = some (.int .u32 t20_4) ∧ ∃ t20_5 : Int, w.cell? (v.add 5) = some (.int .i64 t20_5) ∧ ∃ t20_6 : Int, w.cell? (v.add 6) = some (.int .i64 t20_6) ∧ ∃ t20_7 : Int, w.cell? (v.add 7) = some (.int .i64 t20_7) ∧ ∃ t20_8 : Int, w.cell? (v.add 8) = some (.int .i64 t20_8) ∧ ∃ (v_2 : Value) (w_2 : World), (eqSem .eql 27 (.tmp 20) (.tmp 21) (.agg #[(.int .u32 t20_0), (.bool t20_1), (.bool t20_2), (.bool t20_3), (.int .u32 t20_4), (.int .i64 t20_5), (.int .i64 t20_6), (.int .i64 t20_7), (.int .i64 t20_8)]) (.agg #[(.int .u32 0), (.bool false), (.bool false), (.bool false), (.int .u32 0), (.int .i64 0), (.int .i64 0), (.int .i64 0), (.int .i64 0)])).run Try.prog w = .ok v_2 w_2 ∧ ∃ t22 : Bool, v_2 = (.bool t22) ∧ ifP t22 (Run Try.prog 16 #[] w_2 fun v_3 w_3 => ∃ t24 : Bool, v_3 = (.bool t24) ∧ law7_FrameBounds.J1 R t24 w_3) (law7_FrameBounds.J1 R false w_2))
    (law7_FrameBounds.J2 R bA bn bc k v w)

@[reducible] def law7_FrameBounds.vc (R : Value → World → Prop) (k_0 : Bool) (k_1 : Bool) (k_2 : Int) (bA : Option Addr) (bn : Nat) (bc : Nat) (w : World) : Prop :=
  letW (w.alloc (.cells #[(.bool k_0), (.bool k_1), (.int .i64 k_2)] 23)) fun w_2 => ∃ S_ : World → Prop, S_ w_2.drew ∧ letW w_2.drew fun w_3 => ∃ t12_0 : Bool, (∀ u : World, S_ u → u.cell? (newA w) = some (.bool t12_0)) ∧ ∃ t12_1 : Bool, (∀ u_2 : World, S_ u_2 → u_2.cell? ((newA w).add 1) = some (.bool t12_1)) ∧ ∃ t12_2 : Int, (∀ u_3 : World, S_ u_3 → u_3.cell? ((newA w).add 2) = some (.int .i64 t12_2)) ∧ (Run Try.prog 17 #[(.slice bA bn bc)] w_3 fun v w_4 => ∃ (t14A : Option Addr) (t14n t14c : Nat), v = (.slice t14A t14n t14c) ∧ S_ w_4 ∧ (Run Try.prog 12 #[(.agg #[(.bool t12_0), (.bool t12_1), (.int .i64 t12_2)]), (.slice t14A t14n t14c)] w_4 fun v_2 w_5 => ∃ t150_0 : Int, ∃ t150_1 : Bool, ∃ t150_2 : Bool, ∃ t150_3 : Bool, ∃ t150_4 : Int, ∃ t150_5 : Int, ∃ t150_6 : Int, ∃ t150_7 : Int, ∃ t150_8 : Int, ∃ t151 : Int, v_2 = (.tuple #[(.agg #[(.int .u32 t150_0), (.bool t150_1), (.bool t150_2), (.bool t150_3), (.int .u32 t150_4), (.int .i64 t150_5), (.int .i64 t150_6), (.int .i64 t150_7), (.int .i64 t150_8)]), (.int .i64 t151)]) ∧ letW (w_5.alloc (.cells #[(.int .u32 0), (.bool false), (.bool false), (.bool false), (.int .u32 0), (.int .i64 0), (.int .i64 0), (.int .i64 0), (.int .i64 0)] 27)) fun w_6 => storeRow (newA w_5) 0 [(.int .u32 t150_0), (.bool t150_1), (.bool t150_2), (.bool t150_3), (.int .u32 t150_4), (.int .i64 t150_5), (.int .i64 t150_6), (.int .i64 t150_7), (.int .i64 t150_8)] w_6 fun w_7 => law7_FrameBounds.J0 R bA bn bc (newA w) (newA w_5) t151 w_7) ∧ (letW (w_4.alloc (.cells #[(.int .u32 0), (.bool false), (.bool false), (.bool false), (.int .u32 0), (.int .i64 0), (.int .i64 0), (.int .i64 0), (.int .i64 0)] 27)) fun w_8 => S_ w_8 ∧ Run Try.prog 12 #[(.agg #[(.bool t12_0), (.bool t12_1), (.int .i64 t12_2)]), (.slice t14A t14n t14c)] w_8 fun v_3 w_9 => ∃ t150_0_2 : Int, ∃ t150_1_2 : Bool, ∃ t150_2_2 : Bool, ∃ t150_3_2 : Bool, ∃ t150_4_2 : Int, ∃ t150_5_2 : Int, ∃ t150_6_2 : Int, ∃ t150_7_2 : Int, ∃ t150_8_2 : Int, ∃ t151_2 : Int, v_3 = (.tuple #[(.agg #[(.int .u32 t150_0_2), (.bool t150_1_2), (.bool t150_2_2), (.bool t150_3_2), (.int .u32 t150_4_2), (.int .i64 t150_5_2), (.int .i64 t150_6_2), (.int .i64 t150_7_2), (.int .i64 t150_8_2)]), (.int .i64 t151_2)]) ∧ storeRow (newA w_4) 0 [(.int .u32 t150_0_2), (.bool t150_1_2), (.bool t150_2_2), (.bool t150_3_2), (.int .u32 t150_4_2), (.int .i64 t150_5_2), (.int .i64 t150_6_2), (.int .i64 t150_7_2), (.int .i64 t150_8_2)] w_9 fun w_10 => law7_FrameBounds.J0 R bA bn bc (newA w) (newA w_4) t151_2 w_10)) ∧ (letW (w_3.alloc (.cells #[(.int .u32 0), (.bool false), (.bool false), (.bool false), (.int .u32 0), (.int .i64 0), (.int .i64 0), (.int .i64 0), (.int .i64 0)] 27)) fun w_11 => S_ w_11 ∧ Run Try.prog 17 #[(.slice bA bn bc)] w_11 fun v_4 w_12 => ∃ (t14A_2 : Option Addr) (t14n_2 t14c_2 : Nat), v_4 = (.slice t14A_2 t14n_2 t14c_2) ∧ S_ w_12 ∧ Run Try.prog 12 #[(.agg #[(.bool t12_0), (.bool t12_1), (.int .i64 t12_2)]), (.slice t14A_2 t14n_2 t14c_2)] w_12 fun v_5 w_13 => ∃ t150_0_3 : Int, ∃ t150_1_3 : Bool, ∃ t150_2_3 : Bool, ∃ t150_3_3 : Bool, ∃ t150_4_3 : Int, ∃ t150_5_3 : Int, ∃ t150_6_3 : Int, ∃ t150_7_3 : Int, ∃ t150_8_3 : Int, ∃ t151_3 : Int, v_5 = (.tuple #[(.agg #[(.int .u32 t150_0_3), (.bool t150_1_3), (.bool t150_2_3), (.bool t150_3_3), (.int .u32 t150_4_3), (.int .i64 t150_5_3), (.int .i64 t150_6_3), (.int .i64 t150_7_3), (.int .i64 t150_8_3)]), (.int .i64 t151_3)]) ∧ storeRow (newA w_3) 0 [(.int .u32 t150_0_3), (.bool t150_1_3), (.bool t150_2_3), (.bool t150_3_3), (.int .u32 t150_4_3), (.int .i64 t150_5_3), (.int .i64 t150_6_3), (.int .i64 t150_7_3), (.int .i64 t150_8_3)] w_13 fun w_14 => law7_FrameBounds.J0 R bA bn bc (newA w) (newA w_3) t151_3 w_14)

@[reducible] def law7_FrameBounds.J13.pat : St := [undef, undef, undef, undef, undef, undef, undef, undef, undef, undef, undef, undef, undef, undef, undef, undef, undef, undef, undef, undef, undef, undef, undef, undef, undef, undef, undef, undef, undef, undef, undef, undef, undef, undef, undef, undef, undef, undef, undef, undef, undef, undef, undef, undef, undef, undef, undef, undef, undef, undef, undef, undef, undef, undef, undef, undef, undef, undef, undef, undef, undef, undef, undef, undef, undef, undef, undef, undef, undef, undef, undef, undef, undef, undef, undef, undef, undef, undef, undef, undef, undef, undef, undef, undef, undef, undef, undef, undef, undef, undef, undef, undef, undef, undef, undef, undef, undef, undef, undef, undef, undef, undef, undef, undef, undef, undef, undef, undef, undef, undef, undef, undef, undef, undef, undef, undef, undef, undef, undef, undef, undef, undef, undef, undef, undef, undef, undef, undef, undef, undef, undef, undef, undef, undef, undef, undef, undef, undef, undef, undef, undef, undef, undef, undef, undef, undef, undef, undef, undef, undef, undef, undef, undef, undef, undef, undef, undef, undef, undef, undef, undef]
theorem law7_FrameBounds.J13.lv (st : St) : liveAll [] st (law7_FrameBounds.J13.pat ) = (True) := by kernel_rfl
def law7_FrameBounds.J13.st (R : Value → World → Prop) (st : St) (w : World) : Prop := condP (hasLen st 161) (law7_FrameBounds.J13 R  w)
theorem law7_FrameBounds.J13.eq (R : Value → World → Prop) (w : World) (ts : Nat → Value) : code Try.prog none law7_FrameBounds.live 0 (sub law7_FrameBounds.body [1, 1, 1, 1, 1, 1, 1, 1, 1, 1, 1, 1, 1]) (retK Try.prog Try.f6 R) (mergeFrom [] ts 0 (clearFrom [] 0 (law7_FrameBounds.J13.pat ))) w = law7_FrameBounds.J13 R  w := by kernel_rfl
set_option maxHeartbeats 2000000 in
theorem law7_FrameBounds.J13.ok {R : Value → World → Prop} {st : St} {w : World} (h : law7_FrameBounds.J13.st R st w) : code Try.prog none law7_FrameBounds.live 0 (sub law7_FrameBounds.body [1, 1, 1, 1, 1, 1, 1, 1, 1, 1, 1, 1, 1]) (retK Try.prog Try.f6 R) st w := by
  unfold law7_FrameBounds.J13.st at h
  obtain ⟨zl, h⟩ := condP_out h

  have zp : liveAll [] st ((law7_FrameBounds.J13.pat )) := Eq.mpr (law7_FrameBounds.J13.lv  st) trivial
  have zm := st_merge zl (by kernel_rfl) zp
  rw [zm]
  have z2 := Eq.mpr (law7_FrameBounds.J13.eq R  w (get st)) h
  exact z2
@[reducible] def law7_FrameBounds.J11.pat (k : Addr) (v : Addr) (space : Int) : St := [undef, undef, (.pointer (some k)), undef, undef, (.pointer (some v)), undef, undef, undef, undef, (.int .u32 space), undef, undef, undef, undef, undef, undef, undef, undef, undef, undef, undef, undef, undef, undef, undef, undef, undef, undef, undef, undef, undef, undef, undef, undef, undef, undef, undef, undef, undef, undef, undef, undef, undef, undef, undef, undef, undef, undef, undef, undef, undef, undef, undef, undef, undef, undef, undef, undef, undef, undef, undef, undef, undef, undef, undef, undef, undef, undef, undef, undef, undef, undef, undef, undef, undef, undef, undef, undef, undef, undef, undef, undef, undef, undef, undef, undef, undef, undef, undef, undef, undef, undef, undef, undef, undef, undef, undef, undef, undef, undef, undef, undef, undef, undef, undef, undef, undef, undef, undef, undef, undef, undef, undef, undef, undef, undef, undef, undef, undef, undef, undef, undef, undef, undef, undef, undef, undef, undef, undef, undef, undef, undef, undef, undef, undef, undef, undef, undef, undef, undef, undef, undef, undef, undef, undef, undef, undef, undef, undef, undef, undef, undef, undef, undef, undef, undef, undef, undef, undef, undef]
theorem law7_FrameBounds.J11.lv (k : Addr) (v : Addr) (space : Int) (st : St) : liveAll [2, 5, 10] st (law7_FrameBounds.J11.pat k v space) = (get st 2 = (.pointer (some k)) ∧ get st 5 = (.pointer (some v)) ∧ get st 10 = (.int .u32 space) ∧ True) := by kernel_rfl
def law7_FrameBounds.J11.st (R : Value → World → Prop) (st : St) (w : World) : Prop := condP (hasLen st 161) (selA (get st 2) fun k => selA (get st 5) fun v => selI .u32 (get st 10) fun space => law7_FrameBounds.J11 R k v space w)
theorem law7_FrameBounds.J13.ctx (R : Value → World → Prop) : behind Try.prog none law7_FrameBounds.live [] 0 (sub law7_FrameBounds.body [1, 1, 1, 1, 1, 1, 1, 1, 1, 1, 1, 1]) (retK Try.prog Try.f6 R) = code Try.prog none law7_FrameBounds.live 0 (sub law7_FrameBounds.body [1, 1, 1, 1, 1, 1, 1, 1, 1, 1, 1, 1, 1]) (retK Try.prog Try.f6 R) := by kernel_rfl
theorem law7_FrameBounds.J11.eq (R : Value → World → Prop) (k : Addr) (v : Addr) (space : Int) (w : World) (ts : Nat → Value) : spine Try.prog none law7_FrameBounds.live (law7_FrameBounds.J13.st R) [] 0 (sub law7_FrameBounds.body [1, 1, 1, 1, 1, 1, 1, 1, 1, 1, 1, 1]) (retK Try.prog Try.f6 R) (mergeFrom [2, 5, 10] ts 0 (clearFrom [2, 5, 10] 0 (law7_FrameBounds.J11.pat k v space))) w = law7_FrameBounds.J11 R k v space w := by kernel_rfl
set_option maxHeartbeats 2000000 in
theorem law7_FrameBounds.J11.ok {R : Value → World → Prop} {st : St} {w : World} (h : law7_FrameBounds.J11.st R st w) : code Try.prog none law7_FrameBounds.live 0 (sub law7_FrameBounds.body [1, 1, 1, 1, 1, 1, 1, 1, 1, 1, 1, 1]) (retK Try.prog Try.f6 R) st w := by
  unfold law7_FrameBounds.J11.st at h
  obtain ⟨zl, h⟩ := condP_out h
  obtain ⟨k, zq2, h⟩ := selA_out h
  obtain ⟨v, zq5, h⟩ := selA_out h
  obtain ⟨space, zq10, h⟩ := selI_out h
  have zp : liveAll [2, 5, 10] st ((law7_FrameBounds.J11.pat k v space)) := Eq.mpr (law7_FrameBounds.J11.lv k v space st) ⟨zq2, zq5, zq10, trivial⟩
  have zm := st_merge zl (by kernel_rfl) zp
  rw [zm]
  have z2 := Eq.mpr (law7_FrameBounds.J11.eq R k v space w (get st)) h
  exact spine_sound (fun st w hj => Eq.mpr (congrFun (congrFun (law7_FrameBounds.J13.ctx R) st) w) (law7_FrameBounds.J13.ok  hj)) z2
@[reducible] def law7_FrameBounds.J10.pat (k : Addr) (v : Addr) : St := [undef, undef, (.pointer (some k)), undef, undef, (.pointer (some v)), undef, undef, undef, undef, undef, undef, undef, undef, undef, undef, undef, undef, undef, undef, undef, undef, undef, undef, undef, undef, undef, undef, undef, undef, undef, undef, undef, undef, undef, undef, undef, undef, undef, undef, undef, undef, undef, undef, undef, undef, undef, undef, undef, undef, undef, undef, undef, undef, undef, undef, undef, undef, undef, undef, undef, undef, undef, undef, undef, undef, undef, undef, undef, undef, undef, undef, undef, undef, undef, undef, undef, undef, undef, undef, undef, undef, undef, undef, undef, undef, undef, undef, undef, undef, undef, undef, undef, undef, undef, undef, undef, undef, undef, undef, undef, undef, undef, undef, undef, undef, undef, undef, undef, undef, undef, undef, undef, undef, undef, undef, undef, undef, undef, undef, undef, undef, undef, undef, undef, undef, undef, undef, undef, undef, undef, undef, undef, undef, undef, undef, undef, undef, undef, undef, undef, undef, undef, undef, undef, undef, undef, undef, undef, undef, undef, undef, undef, undef, undef, undef, undef, undef, undef, undef, undef]
theorem law7_FrameBounds.J10.lv (k : Addr) (v : Addr) (st : St) : liveAll [2, 5] st (law7_FrameBounds.J10.pat k v) = (get st 2 = (.pointer (some k)) ∧ get st 5 = (.pointer (some v)) ∧ True) := by kernel_rfl
def law7_FrameBounds.J10.st (R : Value → World → Prop) (st : St) (w : World) : Prop := condP (hasLen st 161) (selA (get st 2) fun k => selA (get st 5) fun v => law7_FrameBounds.J10 R k v w)
theorem law7_FrameBounds.J11.ctx (R : Value → World → Prop) : behind Try.prog none law7_FrameBounds.live [1] 0 (sub law7_FrameBounds.body [1, 1, 1, 1, 1, 1, 1, 1, 1, 1]) (retK Try.prog Try.f6 R) = code Try.prog none law7_FrameBounds.live 0 (sub law7_FrameBounds.body [1, 1, 1, 1, 1, 1, 1, 1, 1, 1, 1, 1]) (retK Try.prog Try.f6 R) := by kernel_rfl
theorem law7_FrameBounds.J10.eq (R : Value → World → Prop) (k : Addr) (v : Addr) (w : World) (ts : Nat → Value) : spine Try.prog none law7_FrameBounds.live (law7_FrameBounds.J11.st R) [1] 0 (sub law7_FrameBounds.body [1, 1, 1, 1, 1, 1, 1, 1, 1, 1]) (retK Try.prog Try.f6 R) (mergeFrom [2, 5] ts 0 (clearFrom [2, 5] 0 (law7_FrameBounds.J10.pat k v))) w = law7_FrameBounds.J10 R k v w := by kernel_rfl
set_option maxHeartbeats 2000000 in
theorem law7_FrameBounds.J10.ok {R : Value → World → Prop} {st : St} {w : World} (h : law7_FrameBounds.J10.st R st w) : code Try.prog none law7_FrameBounds.live 0 (sub law7_FrameBounds.body [1, 1, 1, 1, 1, 1, 1, 1, 1, 1]) (retK Try.prog Try.f6 R) st w := by
  unfold law7_FrameBounds.J10.st at h
  obtain ⟨zl, h⟩ := condP_out h
  obtain ⟨k, zq2, h⟩ := selA_out h
  obtain ⟨v, zq5, h⟩ := selA_out h
  have zp : liveAll [2, 5] st ((law7_FrameBounds.J10.pat k v)) := Eq.mpr (law7_FrameBounds.J10.lv k v st) ⟨zq2, zq5, trivial⟩
  have zm := st_merge zl (by kernel_rfl) zp
  rw [zm]
  have z2 := Eq.mpr (law7_FrameBounds.J10.eq R k v w (get st)) h
  exact spine_sound (fun st w hj => Eq.mpr (congrFun (congrFun (law7_FrameBounds.J11.ctx R) st) w) (law7_FrameBounds.J11.ok  hj)) z2
@[reducible] def law7_FrameBounds.J8.pat (k : Addr) (v : Addr) (net : Int) : St := [undef, undef, (.pointer (some k)), undef, undef, (.pointer (some v)), undef, undef, undef, (.int .i64 net), undef, undef, undef, undef, undef, undef, undef, undef, undef, undef, undef, undef, undef, undef, undef, undef, undef, undef, undef, undef, undef, undef, undef, undef, undef, undef, undef, undef, undef, undef, undef, undef, undef, undef, undef, undef, undef, undef, undef, undef, undef, undef, undef, undef, undef, undef, undef, undef, undef, undef, undef, undef, undef, undef, undef, undef, undef, undef, undef, undef, undef, undef, undef, undef, undef, undef, undef, undef, undef, undef, undef, undef, undef, undef, undef, undef, undef, undef, undef, undef, undef, undef, undef, undef, undef, undef, undef, undef, undef, undef, undef, undef, undef, undef, undef, undef, undef, undef, undef, undef, undef, undef, undef, undef, undef, undef, undef, undef, undef, undef, undef, undef, undef, undef, undef, undef, undef, undef, undef, undef, undef, undef, undef, undef, undef, undef, undef, undef, undef, undef, undef, undef, undef, undef, undef, undef, undef, undef, undef, undef, undef, undef, undef, undef, undef, undef, undef, undef, undef, undef, undef]
theorem law7_FrameBounds.J8.lv (k : Addr) (v : Addr) (net : Int) (st : St) : liveAll [2, 5, 9] st (law7_FrameBounds.J8.pat k v net) = (get st 2 = (.pointer (some k)) ∧ get st 5 = (.pointer (some v)) ∧ get st 9 = (.int .i64 net) ∧ True) := by kernel_rfl
def law7_FrameBounds.J8.st (R : Value → World → Prop) (st : St) (w : World) : Prop := condP (hasLen st 161) (selA (get st 2) fun k => selA (get st 5) fun v => selI .i64 (get st 9) fun net => law7_FrameBounds.J8 R k v net w)
theorem law7_FrameBounds.J10.ctx (R : Value → World → Prop) : behind Try.prog none law7_FrameBounds.live [] 0 (sub law7_FrameBounds.body [1, 1, 1, 1, 1, 1, 1, 1, 1]) (retK Try.prog Try.f6 R) = code Try.prog none law7_FrameBounds.live 0 (sub law7_FrameBounds.body [1, 1, 1, 1, 1, 1, 1, 1, 1, 1]) (retK Try.prog Try.f6 R) := by kernel_rfl
theorem law7_FrameBounds.J8.eq (R : Value → World → Prop) (k : Addr) (v : Addr) (net : Int) (w : World) (ts : Nat → Value) : spine Try.prog none law7_FrameBounds.live (law7_FrameBounds.J10.st R) [] 0 (sub law7_FrameBounds.body [1, 1, 1, 1, 1, 1, 1, 1, 1]) (retK Try.prog Try.f6 R) (mergeFrom [2, 5, 9] ts 0 (clearFrom [2, 5, 9] 0 (law7_FrameBounds.J8.pat k v net))) w = law7_FrameBounds.J8 R k v net w := by kernel_rfl
set_option maxHeartbeats 2000000 in
theorem law7_FrameBounds.J8.ok {R : Value → World → Prop} {st : St} {w : World} (h : law7_FrameBounds.J8.st R st w) : code Try.prog none law7_FrameBounds.live 0 (sub law7_FrameBounds.body [1, 1, 1, 1, 1, 1, 1, 1, 1]) (retK Try.prog Try.f6 R) st w := by
  unfold law7_FrameBounds.J8.st at h
  obtain ⟨zl, h⟩ := condP_out h
  obtain ⟨k, zq2, h⟩ := selA_out h
  obtain ⟨v, zq5, h⟩ := selA_out h
  obtain ⟨net, zq9, h⟩ := selI_out h
  have zp : liveAll [2, 5, 9] st ((law7_FrameBounds.J8.pat k v net)) := Eq.mpr (law7_FrameBounds.J8.lv k v net st) ⟨zq2, zq5, zq9, trivial⟩
  have zm := st_merge zl (by kernel_rfl) zp
  rw [zm]
  have z2 := Eq.mpr (law7_FrameBounds.J8.eq R k v net w (get st)) h
  exact spine_sound (fun st w hj => Eq.mpr (congrFun (congrFun (law7_FrameBounds.J10.ctx R) st) w) (law7_FrameBounds.J10.ok  hj)) z2
@[reducible] def law7_FrameBounds.J7.pat (k : Addr) (v : Addr) (ip6 : Bool) (net : Int) : St := [undef, undef, (.pointer (some k)), undef, undef, (.pointer (some v)), undef, undef, (.bool ip6), (.int .i64 net), undef, undef, undef, undef, undef, undef, undef, undef, undef, undef, undef, undef, undef, undef, undef, undef, undef, undef, undef, undef, undef, undef, undef, undef, undef, undef, undef, undef, undef, undef, undef, undef, undef, undef, undef, undef, undef, undef, undef, undef, undef, undef, undef, undef, undef, undef, undef, undef, undef, undef, undef, undef, undef, undef, undef, undef, undef, undef, undef, undef, undef, undef, undef, undef, undef, undef, undef, undef, undef, undef, undef, undef, undef, undef, undef, undef, undef, undef, undef, undef, undef, undef, undef, undef, undef, undef, undef, undef, undef, undef, undef, undef, undef, undef, undef, undef, undef, undef, undef, undef, undef, undef, undef, undef, undef, undef, undef, undef, undef, undef, undef, undef, undef, undef, undef, undef, undef, undef, undef, undef, undef, undef, undef, undef, undef, undef, undef, undef, undef, undef, undef, undef, undef, undef, undef, undef, undef, undef, undef, undef, undef, undef, undef, undef, undef, undef, undef, undef, undef, undef, undef]
theorem law7_FrameBounds.J7.lv (k : Addr) (v : Addr) (ip6 : Bool) (net : Int) (st : St) : liveAll [2, 5, 8, 9] st (law7_FrameBounds.J7.pat k v ip6 net) = (get st 2 = (.pointer (some k)) ∧ get st 5 = (.pointer (some v)) ∧ get st 8 = (.bool ip6) ∧ get st 9 = (.int .i64 net) ∧ True) := by kernel_rfl
def law7_FrameBounds.J7.st (R : Value → World → Prop) (st : St) (w : World) : Prop := condP (hasLen st 161) (selA (get st 2) fun k => selA (get st 5) fun v => selB (get st 8) fun ip6 => selI .i64 (get st 9) fun net => law7_FrameBounds.J7 R k v ip6 net w)
theorem law7_FrameBounds.J8.ctx (R : Value → World → Prop) : behind Try.prog none law7_FrameBounds.live [] 0 (sub law7_FrameBounds.body [1, 1, 1, 1, 1, 1, 1, 1]) (retK Try.prog Try.f6 R) = code Try.prog none law7_FrameBounds.live 0 (sub law7_FrameBounds.body [1, 1, 1, 1, 1, 1, 1, 1, 1]) (retK Try.prog Try.f6 R) := by kernel_rfl
theorem law7_FrameBounds.J7.eq (R : Value → World → Prop) (k : Addr) (v : Addr) (ip6 : Bool) (net : Int) (w : World) (ts : Nat → Value) : spine Try.prog none law7_FrameBounds.live (law7_FrameBounds.J8.st R) [] 0 (sub law7_FrameBounds.body [1, 1, 1, 1, 1, 1, 1, 1]) (retK Try.prog Try.f6 R) (mergeFrom [2, 5, 8, 9] ts 0 (clearFrom [2, 5, 8, 9] 0 (law7_FrameBounds.J7.pat k v ip6 net))) w = law7_FrameBounds.J7 R k v ip6 net w := by kernel_rfl
set_option maxHeartbeats 2000000 in
theorem law7_FrameBounds.J7.ok {R : Value → World → Prop} {st : St} {w : World} (h : law7_FrameBounds.J7.st R st w) : code Try.prog none law7_FrameBounds.live 0 (sub law7_FrameBounds.body [1, 1, 1, 1, 1, 1, 1, 1]) (retK Try.prog Try.f6 R) st w := by
  unfold law7_FrameBounds.J7.st at h
  obtain ⟨zl, h⟩ := condP_out h
  obtain ⟨k, zq2, h⟩ := selA_out h
  obtain ⟨v, zq5, h⟩ := selA_out h
  obtain ⟨ip6, zq8, h⟩ := selB_out h
  obtain ⟨net, zq9, h⟩ := selI_out h
  have zp : liveAll [2, 5, 8, 9] st ((law7_FrameBounds.J7.pat k v ip6 net)) := Eq.mpr (law7_FrameBounds.J7.lv k v ip6 net st) ⟨zq2, zq5, zq8, zq9, trivial⟩
  have zm := st_merge zl (by kernel_rfl) zp
  rw [zm]
  have z2 := Eq.mpr (law7_FrameBounds.J7.eq R k v ip6 net w (get st)) h
  exact spine_sound (fun st w hj => Eq.mpr (congrFun (congrFun (law7_FrameBounds.J8.ctx R) st) w) (law7_FrameBounds.J8.ok  hj)) z2
@[reducible] def law7_FrameBounds.J6.pat (k : Addr) (v : Addr) (ip : Bool) (ip6 : Bool) : St := [undef, undef, (.pointer (some k)), undef, undef, (.pointer (some v)), undef, (.bool ip), (.bool ip6), undef, undef, undef, undef, undef, undef, undef, undef, undef, undef, undef, undef, undef, undef, undef, undef, undef, undef, undef, undef, undef, undef, undef, undef, undef, undef, undef, undef, undef, undef, undef, undef, undef, undef, undef, undef, undef, undef, undef, undef, undef, undef, undef, undef, undef, undef, undef, undef, undef, undef, undef, undef, undef, undef, undef, undef, undef, undef, undef, undef, undef, undef, undef, undef, undef, undef, undef, undef, undef, undef, undef, undef, undef, undef, undef, undef, undef, undef, undef, undef, undef, undef, undef, undef, undef, undef, undef, undef, undef, undef, undef, undef, undef, undef, undef, undef, undef, undef, undef, undef, undef, undef, undef, undef, undef, undef, undef, undef, undef, undef, undef, undef, undef, undef, undef, undef, undef, undef, undef, undef, undef, undef, undef, undef, undef, undef, undef, undef, undef, undef, undef, undef, undef, undef, undef, undef, undef, undef, undef, undef, undef, undef, undef, undef, undef, undef, undef, undef, undef, undef, undef, undef]
theorem law7_FrameBounds.J6.lv (k : Addr) (v : Addr) (ip : Bool) (ip6 : Bool) (st : St) : liveAll [2, 5, 7, 8] st (law7_FrameBounds.J6.pat k v ip ip6) = (get st 2 = (.pointer (some k)) ∧ get st 5 = (.pointer (some v)) ∧ get st 7 = (.bool ip) ∧ get st 8 = (.bool ip6) ∧ True) := by kernel_rfl
def law7_FrameBounds.J6.st (R : Value → World → Prop) (st : St) (w : World) : Prop := condP (hasLen st 161) (selA (get st 2) fun k => selA (get st 5) fun v => selB (get st 7) fun ip => selB (get st 8) fun ip6 => law7_FrameBounds.J6 R k v ip ip6 w)
theorem law7_FrameBounds.J7.ctx (R : Value → World → Prop) : behind Try.prog none law7_FrameBounds.live [1] 0 (sub law7_FrameBounds.body [1, 1, 1, 1, 1, 1]) (retK Try.prog Try.f6 R) = code Try.prog none law7_FrameBounds.live 0 (sub law7_FrameBounds.body [1, 1, 1, 1, 1, 1, 1, 1]) (retK Try.prog Try.f6 R) := by kernel_rfl
theorem law7_FrameBounds.J6.eq (R : Value → World → Prop) (k : Addr) (v : Addr) (ip : Bool) (ip6 : Bool) (w : World) (ts : Nat → Value) : spine Try.prog none law7_FrameBounds.live (law7_FrameBounds.J7.st R) [1] 0 (sub law7_FrameBounds.body [1, 1, 1, 1, 1, 1]) (retK Try.prog Try.f6 R) (mergeFrom [2, 5, 7, 8] ts 0 (clearFrom [2, 5, 7, 8] 0 (law7_FrameBounds.J6.pat k v ip ip6))) w = law7_FrameBounds.J6 R k v ip ip6 w := by kernel_rfl
set_option maxHeartbeats 2000000 in
theorem law7_FrameBounds.J6.ok {R : Value → World → Prop} {st : St} {w : World} (h : law7_FrameBounds.J6.st R st w) : code Try.prog none law7_FrameBounds.live 0 (sub law7_FrameBounds.body [1, 1, 1, 1, 1, 1]) (retK Try.prog Try.f6 R) st w := by
  unfold law7_FrameBounds.J6.st at h
  obtain ⟨zl, h⟩ := condP_out h
  obtain ⟨k, zq2, h⟩ := selA_out h
  obtain ⟨v, zq5, h⟩ := selA_out h
  obtain ⟨ip, zq7, h⟩ := selB_out h
  obtain ⟨ip6, zq8, h⟩ := selB_out h
  have zp : liveAll [2, 5, 7, 8] st ((law7_FrameBounds.J6.pat k v ip ip6)) := Eq.mpr (law7_FrameBounds.J6.lv k v ip ip6 st) ⟨zq2, zq5, zq7, zq8, trivial⟩
  have zm := st_merge zl (by kernel_rfl) zp
  rw [zm]
  have z2 := Eq.mpr (law7_FrameBounds.J6.eq R k v ip ip6 w (get st)) h
  exact spine_sound (fun st w hj => Eq.mpr (congrFun (congrFun (law7_FrameBounds.J7.ctx R) st) w) (law7_FrameBounds.J7.ok  hj)) z2
@[reducible] def law7_FrameBounds.J5.pat (k : Addr) (v : Addr) (ip : Bool) : St := [undef, undef, (.pointer (some k)), undef, undef, (.pointer (some v)), undef, (.bool ip), undef, undef, undef, undef, undef, undef, undef, undef, undef, undef, undef, undef, undef, undef, undef, undef, undef, undef, undef, undef, undef, undef, undef, undef, undef, undef, undef, undef, undef, undef, undef, undef, undef, undef, undef, undef, undef, undef, undef, undef, undef, undef, undef, undef, undef, undef, undef, undef, undef, undef, undef, undef, undef, undef, undef, undef, undef, undef, undef, undef, undef, undef, undef, undef, undef, undef, undef, undef, undef, undef, undef, undef, undef, undef, undef, undef, undef, undef, undef, undef, undef, undef, undef, undef, undef, undef, undef, undef, undef, undef, undef, undef, undef, undef, undef, undef, undef, undef, undef, undef, undef, undef, undef, undef, undef, undef, undef, undef, undef, undef, undef, undef, undef, undef, undef, undef, undef, undef, undef, undef, undef, undef, undef, undef, undef, undef, undef, undef, undef, undef, undef, undef, undef, undef, undef, undef, undef, undef, undef, undef, undef, undef, undef, undef, undef, undef, undef, undef, undef, undef, undef, undef, undef]
theorem law7_FrameBounds.J5.lv (k : Addr) (v : Addr) (ip : Bool) (st : St) : liveAll [2, 5, 7] st (law7_FrameBounds.J5.pat k v ip) = (get st 2 = (.pointer (some k)) ∧ get st 5 = (.pointer (some v)) ∧ get st 7 = (.bool ip) ∧ True) := by kernel_rfl
def law7_FrameBounds.J5.st (R : Value → World → Prop) (st : St) (w : World) : Prop := condP (hasLen st 161) (selA (get st 2) fun k => selA (get st 5) fun v => selB (get st 7) fun ip => law7_FrameBounds.J5 R k v ip w)
theorem law7_FrameBounds.J6.ctx (R : Value → World → Prop) : behind Try.prog none law7_FrameBounds.live [] 0 (sub law7_FrameBounds.body [1, 1, 1, 1, 1]) (retK Try.prog Try.f6 R) = code Try.prog none law7_FrameBounds.live 0 (sub law7_FrameBounds.body [1, 1, 1, 1, 1, 1]) (retK Try.prog Try.f6 R) := by kernel_rfl
theorem law7_FrameBounds.J5.eq (R : Value → World → Prop) (k : Addr) (v : Addr) (ip : Bool) (w : World) (ts : Nat → Value) : spine Try.prog none law7_FrameBounds.live (law7_FrameBounds.J6.st R) [] 0 (sub law7_FrameBounds.body [1, 1, 1, 1, 1]) (retK Try.prog Try.f6 R) (mergeFrom [2, 5, 7] ts 0 (clearFrom [2, 5, 7] 0 (law7_FrameBounds.J5.pat k v ip))) w = law7_FrameBounds.J5 R k v ip w := by kernel_rfl
set_option maxHeartbeats 2000000 in
theorem law7_FrameBounds.J5.ok {R : Value → World → Prop} {st : St} {w : World} (h : law7_FrameBounds.J5.st R st w) : code Try.prog none law7_FrameBounds.live 0 (sub law7_FrameBounds.body [1, 1, 1, 1, 1]) (retK Try.prog Try.f6 R) st w := by
  unfold law7_FrameBounds.J5.st at h
  obtain ⟨zl, h⟩ := condP_out h
  obtain ⟨k, zq2, h⟩ := selA_out h
  obtain ⟨v, zq5, h⟩ := selA_out h
  obtain ⟨ip, zq7, h⟩ := selB_out h
  have zp : liveAll [2, 5, 7] st ((law7_FrameBounds.J5.pat k v ip)) := Eq.mpr (law7_FrameBounds.J5.lv k v ip st) ⟨zq2, zq5, zq7, trivial⟩
  have zm := st_merge zl (by kernel_rfl) zp
  rw [zm]
  have z2 := Eq.mpr (law7_FrameBounds.J5.eq R k v ip w (get st)) h
  exact spine_sound (fun st w hj => Eq.mpr (congrFun (congrFun (law7_FrameBounds.J6.ctx R) st) w) (law7_FrameBounds.J6.ok  hj)) z2
@[reducible] def law7_FrameBounds.J4.pat (k : Addr) (v : Addr) : St := [undef, undef, (.pointer (some k)), undef, undef, (.pointer (some v)), undef, undef, undef, undef, undef, undef, undef, undef, undef, undef, undef, undef, undef, undef, undef, undef, undef, undef, undef, undef, undef, undef, undef, undef, undef, undef, undef, undef, undef, undef, undef, undef, undef, undef, undef, undef, undef, undef, undef, undef, undef, undef, undef, undef, undef, undef, undef, undef, undef, undef, undef, undef, undef, undef, undef, undef, undef, undef, undef, undef, undef, undef, undef, undef, undef, undef, undef, undef, undef, undef, undef, undef, undef, undef, undef, undef, undef, undef, undef, undef, undef, undef, undef, undef, undef, undef, undef, undef, undef, undef, undef, undef, undef, undef, undef, undef, undef, undef, undef, undef, undef, undef, undef, undef, undef, undef, undef, undef, undef, undef, undef, undef, undef, undef, undef, undef, undef, undef, undef, undef, undef, undef, undef, undef, undef, undef, undef, undef, undef, undef, undef, undef, undef, undef, undef, undef, undef, undef, undef, undef, undef, undef, undef, undef, undef, undef, undef, undef, undef, undef, undef, undef, undef, undef, undef]
theorem law7_FrameBounds.J4.lv (k : Addr) (v : Addr) (st : St) : liveAll [2, 5] st (law7_FrameBounds.J4.pat k v) = (get st 2 = (.pointer (some k)) ∧ get st 5 = (.pointer (some v)) ∧ True) := by kernel_rfl
def law7_FrameBounds.J4.st (R : Value → World → Prop) (st : St) (w : World) : Prop := condP (hasLen st 161) (selA (get st 2) fun k => selA (get st 5) fun v => law7_FrameBounds.J4 R k v w)
theorem law7_FrameBounds.J5.ctx (R : Value → World → Prop) : behind Try.prog none law7_FrameBounds.live [] 0 (sub law7_FrameBounds.body [1, 1, 1, 1]) (retK Try.prog Try.f6 R) = code Try.prog none law7_FrameBounds.live 0 (sub law7_FrameBounds.body [1, 1, 1, 1, 1]) (retK Try.prog Try.f6 R) := by kernel_rfl
theorem law7_FrameBounds.J4.eq (R : Value → World → Prop) (k : Addr) (v : Addr) (w : World) (ts : Nat → Value) : spine Try.prog none law7_FrameBounds.live (law7_FrameBounds.J5.st R) [] 0 (sub law7_FrameBounds.body [1, 1, 1, 1]) (retK Try.prog Try.f6 R) (mergeFrom [2, 5] ts 0 (clearFrom [2, 5] 0 (law7_FrameBounds.J4.pat k v))) w = law7_FrameBounds.J4 R k v w := by kernel_rfl
set_option maxHeartbeats 2000000 in
theorem law7_FrameBounds.J4.ok {R : Value → World → Prop} {st : St} {w : World} (h : law7_FrameBounds.J4.st R st w) : code Try.prog none law7_FrameBounds.live 0 (sub law7_FrameBounds.body [1, 1, 1, 1]) (retK Try.prog Try.f6 R) st w := by
  unfold law7_FrameBounds.J4.st at h
  obtain ⟨zl, h⟩ := condP_out h
  obtain ⟨k, zq2, h⟩ := selA_out h
  obtain ⟨v, zq5, h⟩ := selA_out h
  have zp : liveAll [2, 5] st ((law7_FrameBounds.J4.pat k v)) := Eq.mpr (law7_FrameBounds.J4.lv k v st) ⟨zq2, zq5, trivial⟩
  have zm := st_merge zl (by kernel_rfl) zp
  rw [zm]
  have z2 := Eq.mpr (law7_FrameBounds.J4.eq R k v w (get st)) h
  exact spine_sound (fun st w hj => Eq.mpr (congrFun (congrFun (law7_FrameBounds.J5.ctx R) st) w) (law7_FrameBounds.J5.ok  hj)) z2
@[reducible] def law7_FrameBounds.J2.pat (bA : Option Addr) (bn : Nat) (bc : Nat) (k : Addr) (v : Addr) : St := [undef, (.slice bA bn bc), (.pointer (some k)), undef, undef, (.pointer (some v)), undef, undef, undef, undef, undef, undef, undef, undef, undef, undef, undef, undef, undef, undef, undef, undef, undef, undef, undef, undef, undef, undef, undef, undef, undef, undef, undef, undef, undef, undef, undef, undef, undef, undef, undef, undef, undef, undef, undef, undef, undef, undef, undef, undef, undef, undef, undef, undef, undef, undef, undef, undef, undef, undef, undef, undef, undef, undef, undef, undef, undef, undef, undef, undef, undef, undef, undef, undef, undef, undef, undef, undef, undef, undef, undef, undef, undef, undef, undef, undef, undef, undef, undef, undef, undef, undef, undef, undef, undef, undef, undef, undef, undef, undef, undef, undef, undef, undef, undef, undef, undef, undef, undef, undef, undef, undef, undef, undef, undef, undef, undef, undef, undef, undef, undef, undef, undef, undef, undef, undef, undef, undef, undef, undef, undef, undef, undef, undef, undef, undef, undef, undef, undef, undef, undef, undef, undef, undef, undef, undef, undef, undef, undef, undef, undef, undef, undef, undef, undef, undef, undef, undef, undef, undef, undef]
theorem law7_FrameBounds.J2.lv (bA : Option Addr) (bn : Nat) (bc : Nat) (k : Addr) (v : Addr) (st : St) : liveAll [1, 2, 5] st (law7_FrameBounds.J2.pat bA bn bc k v) = (get st 1 = (.slice bA bn bc) ∧ get st 2 = (.pointer (some k)) ∧ get st 5 = (.pointer (some v)) ∧ True) := by kernel_rfl
def law7_FrameBounds.J2.st (R : Value → World → Prop) (st : St) (w : World) : Prop := condP (hasLen st 161) (selS (get st 1) fun bA bn bc => selA (get st 2) fun k => selA (get st 5) fun v => law7_FrameBounds.J2 R bA bn bc k v w)
theorem law7_FrameBounds.J4.ctx (R : Value → World → Prop) : behind Try.prog none law7_FrameBounds.live [] 0 (sub law7_FrameBounds.body [1, 1, 1]) (retK Try.prog Try.f6 R) = code Try.prog none law7_FrameBounds.live 0 (sub law7_FrameBounds.body [1, 1, 1, 1]) (retK Try.prog Try.f6 R) := by kernel_rfl
theorem law7_FrameBounds.J2.eq (R : Value → World → Prop) (bA : Option Addr) (bn : Nat) (bc : Nat) (k : Addr) (v : Addr) (w : World) (ts : Nat → Value) : spine Try.prog none law7_FrameBounds.live (law7_FrameBounds.J4.st R) [] 0 (sub law7_FrameBounds.body [1, 1, 1]) (retK Try.prog Try.f6 R) (mergeFrom [1, 2, 5] ts 0 (clearFrom [1, 2, 5] 0 (law7_FrameBounds.J2.pat bA bn bc k v))) w = law7_FrameBounds.J2 R bA bn bc k v w := by kernel_rfl
set_option maxHeartbeats 2000000 in
theorem law7_FrameBounds.J2.ok {R : Value → World → Prop} {st : St} {w : World} (h : law7_FrameBounds.J2.st R st w) : code Try.prog none law7_FrameBounds.live 0 (sub law7_FrameBounds.body [1, 1, 1]) (retK Try.prog Try.f6 R) st w := by
  unfold law7_FrameBounds.J2.st at h
  obtain ⟨zl, h⟩ := condP_out h
  obtain ⟨bA, bn, bc, zq1, h⟩ := selS_out h
  obtain ⟨k, zq2, h⟩ := selA_out h
  obtain ⟨v, zq5, h⟩ := selA_out h
  have zp : liveAll [1, 2, 5] st ((law7_FrameBounds.J2.pat bA bn bc k v)) := Eq.mpr (law7_FrameBounds.J2.lv bA bn bc k v st) ⟨zq1, zq2, zq5, trivial⟩
  have zm := st_merge zl (by kernel_rfl) zp
  rw [zm]
  have z2 := Eq.mpr (law7_FrameBounds.J2.eq R bA bn bc k v w (get st)) h
  exact spine_sound (fun st w hj => Eq.mpr (congrFun (congrFun (law7_FrameBounds.J4.ctx R) st) w) (law7_FrameBounds.J4.ok  hj)) z2
@[reducible] def law7_FrameBounds.J0.pat (bA : Option Addr) (bn : Nat) (bc : Nat) (k : Addr) (v : Addr) (e : Int) : St := [undef, (.slice bA bn bc), (.pointer (some k)), undef, undef, (.pointer (some v)), (.int .i64 e), undef, undef, undef, undef, undef, undef, undef, undef, undef, undef, undef, undef, undef, undef, undef, undef, undef, undef, undef, undef, undef, undef, undef, undef, undef, undef, undef, undef, undef, undef, undef, undef, undef, undef, undef, undef, undef, undef, undef, undef, undef, undef, undef, undef, undef, undef, undef, undef, undef, undef, undef, undef, undef, undef, undef, undef, undef, undef, undef, undef, undef, undef, undef, undef, undef, undef, undef, undef, undef, undef, undef, undef, undef, undef, undef, undef, undef, undef, undef, undef, undef, undef, undef, undef, undef, undef, undef, undef, undef, undef, undef, undef, undef, undef, undef, undef, undef, undef, undef, undef, undef, undef, undef, undef, undef, undef, undef, undef, undef, undef, undef, undef, undef, undef, undef, undef, undef, undef, undef, undef, undef, undef, undef, undef, undef, undef, undef, undef, undef, undef, undef, undef, undef, undef, undef, undef, undef, undef, undef, undef, undef, undef, undef, undef, undef, undef, undef, undef, undef, undef, undef, undef, undef, undef]
theorem law7_FrameBounds.J0.lv (bA : Option Addr) (bn : Nat) (bc : Nat) (k : Addr) (v : Addr) (e : Int) (st : St) : liveAll [1, 2, 5, 6] st (law7_FrameBounds.J0.pat bA bn bc k v e) = (get st 1 = (.slice bA bn bc) ∧ get st 2 = (.pointer (some k)) ∧ get st 5 = (.pointer (some v)) ∧ get st 6 = (.int .i64 e) ∧ True) := by kernel_rfl
def law7_FrameBounds.J0.st (R : Value → World → Prop) (st : St) (w : World) : Prop := condP (hasLen st 161) (selS (get st 1) fun bA bn bc => selA (get st 2) fun k => selA (get st 5) fun v => selI .i64 (get st 6) fun e => law7_FrameBounds.J0 R bA bn bc k v e w)
theorem law7_FrameBounds.J2.ctx (R : Value → World → Prop) : behind Try.prog none law7_FrameBounds.live [] 0 (sub law7_FrameBounds.body [1, 1]) (retK Try.prog Try.f6 R) = code Try.prog none law7_FrameBounds.live 0 (sub law7_FrameBounds.body [1, 1, 1]) (retK Try.prog Try.f6 R) := by kernel_rfl
theorem law7_FrameBounds.J0.eq (R : Value → World → Prop) (bA : Option Addr) (bn : Nat) (bc : Nat) (k : Addr) (v : Addr) (e : Int) (w : World) (ts : Nat → Value) : spine Try.prog none law7_FrameBounds.live (law7_FrameBounds.J2.st R) [] 0 (sub law7_FrameBounds.body [1, 1]) (retK Try.prog Try.f6 R) (mergeFrom [1, 2, 5, 6] ts 0 (clearFrom [1, 2, 5, 6] 0 (law7_FrameBounds.J0.pat bA bn bc k v e))) w = law7_FrameBounds.J0 R bA bn bc k v e w := by kernel_rfl
set_option maxHeartbeats 2000000 in
theorem law7_FrameBounds.J0.ok {R : Value → World → Prop} {st : St} {w : World} (h : law7_FrameBounds.J0.st R st w) : code Try.prog none law7_FrameBounds.live 0 (sub law7_FrameBounds.body [1, 1]) (retK Try.prog Try.f6 R) st w := by
  unfold law7_FrameBounds.J0.st at h
  obtain ⟨zl, h⟩ := condP_out h
  obtain ⟨bA, bn, bc, zq1, h⟩ := selS_out h
  obtain ⟨k, zq2, h⟩ := selA_out h
  obtain ⟨v, zq5, h⟩ := selA_out h
  obtain ⟨e, zq6, h⟩ := selI_out h
  have zp : liveAll [1, 2, 5, 6] st ((law7_FrameBounds.J0.pat bA bn bc k v e)) := Eq.mpr (law7_FrameBounds.J0.lv bA bn bc k v e st) ⟨zq1, zq2, zq5, zq6, trivial⟩
  have zm := st_merge zl (by kernel_rfl) zp
  rw [zm]
  have z2 := Eq.mpr (law7_FrameBounds.J0.eq R bA bn bc k v e w (get st)) h
  exact spine_sound (fun st w hj => Eq.mpr (congrFun (congrFun (law7_FrameBounds.J2.ctx R) st) w) (law7_FrameBounds.J2.ok  hj)) z2
theorem law7_FrameBounds.J0.ctx (R : Value → World → Prop) : behind Try.prog none law7_FrameBounds.live [1] 0 (bodyOf Try.f6) (retK Try.prog Try.f6 R) = code Try.prog none law7_FrameBounds.live 0 (sub law7_FrameBounds.body [1, 1]) (retK Try.prog Try.f6 R) := by kernel_rfl
theorem law7_FrameBounds.eq (R : Value → World → Prop) (k_0 : Bool) (k_1 : Bool) (k_2 : Int) (bA : Option Addr) (bn : Nat) (bc : Nat) (w : World) : spine Try.prog none law7_FrameBounds.live (law7_FrameBounds.J0.st R) [1] 0 (bodyOf Try.f6) (retK Try.prog Try.f6 R) ([(.agg #[(.bool k_0), (.bool k_1), (.int .i64 k_2)]), (.slice bA bn bc)] ++ undefs (Try.f6.ntmps - 2)) w = law7_FrameBounds.vc R k_0 k_1 k_2 bA bn bc w := by kernel_rfl
theorem law7_FrameBounds.ok {R : Value → World → Prop} {k_0 : Bool} {k_1 : Bool} {k_2 : Int} {bA : Option Addr} {bn : Nat} {bc : Nat} {w : World} (h : law7_FrameBounds.vc R k_0 k_1 k_2 bA bn bc w) : Run Try.prog 6 #[(.agg #[(.bool k_0), (.bool k_1), (.int .i64 k_2)]), (.slice bA bn bc)] w R := by
  have h2 : fnVC Try.prog none law7_FrameBounds.live Try.f6 R [(.agg #[(.bool k_0), (.bool k_1), (.int .i64 k_2)]), (.slice bA bn bc)] w := spine_sound (b := 0) (c := bodyOf Try.f6) (K := (retK Try.prog Try.f6 R)) (fun st w hj => Eq.mpr (congrFun (congrFun (law7_FrameBounds.J0.ctx R) st) w) (law7_FrameBounds.J0.ok  hj)) (Eq.mpr (law7_FrameBounds.eq R k_0 k_1 k_2 bA bn bc w) h)
  exact fn_sound Try.mixed Try.func6 (by kernel_rfl) h2

end
end Go.Proofs.Ythcpkjfccfgiaaa
