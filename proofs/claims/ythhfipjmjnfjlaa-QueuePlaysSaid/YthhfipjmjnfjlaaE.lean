/- A typed weakest precondition over the model's code, free of panics, and its soundness against the kit's own 'Code.wp' and 'Calls'. No program in sight. -/
import Derived.OrdersHeld
import Derived.Still
import Derived.StillTail
import Derived.Tactics
import Derived.Laws.World
import Derived.Scope
namespace Go.Rd
set_option linter.unusedVariables false

/-! ## States -/

abbrev St := List Value

def get : List Value → Nat → Value
  | [], _ => undef
  | v :: _, 0 => v
  | _ :: l, n + 1 => get l n

def ev (st : St) : Operand → Value
  | .tmp t => get st t
  | .const v => v
  | .global g => .pointer (some ⟨g, 0, none⟩)
  | .func f => .func (.func f) #[] #[]

def put (st : St) : Option Tmp → Value → St
  | some d, v => st.set d v
  | none, _ => st

def act (D : List Deferred) (st : St) : Act := { tmps := st.toArray, defers := D }

theorem get_eq (l : List Value) : ∀ n, get l n = l.toArray.getD n undef := by
  induction l with
  | nil => intro n; simp [get]
  | cons v l ih =>
    intro n
    cases n with
    | zero => simp [get]
    | succ n => rw [get, ih n]; simp [Array.getD_eq_getD_getElem?]

theorem act_eval (D : List Deferred) (st : St) : (act D st).eval = ev st := by
  funext x
  cases x with
  | tmp t => simp only [Act.eval, act, ev]; rw [get_eq]
  | _ => rfl

theorem act_put (D : List Deferred) (st : St) (d : Option Tmp) (v : Value) : (act D st).put d v = act D (put st d v) := by
  cases d with
  | none => rfl
  | some d => simp [Act.put, act, put]

/-! ## Types -/

def zeroOf (P : Program) (t : TypeId) : Option Value := (P.info? t).bind (·.zero)
def sizeOfT (P : Program) (t : TypeId) : Option Nat := (P.info? t).map (·.size)

/-- One cell's value, of the zero value's kind. -/
def ex1 : Value → (Value → Prop) → Prop
  | .int k _, φ => ∃ x : Int, φ (.int k x)
  | .bool _, φ => ∃ b : Bool, φ (.bool b)
  | .string _, φ => ∃ s : ByteArray, φ (.string s)
  | .pointer _, φ => ∃ A : Option Addr, φ (.pointer A)
  | .slice _ _ _, φ => ∃ (A : Option Addr) (n c : Nat), φ (.slice A n c)
  | _, φ => ∃ v : Value, φ v

def exL : List Value → (List Value → Prop) → Prop
  | [], φ => φ []
  | z :: zs, φ => ex1 z fun v => exL zs fun vs => φ (v :: vs)

def exA : Value → (Value → Prop) → Prop
  | .agg cs, φ => exL cs.toList fun vs => φ (.agg vs.toArray)
  | z, φ => ex1 z φ

def exT : List Value → (List Value → Prop) → Prop
  | [], φ => φ []
  | z :: zs, φ => exA z fun v => exT zs fun vs => φ (v :: vs)

/-- A value of the zero value's kind. -/
def ex : Value → (Value → Prop) → Prop
  | .tuple cs, φ => exT cs.toList fun vs => φ (.tuple vs.toArray)
  | z, φ => exA z φ

theorem ex1_out {z : Value} {φ : Value → Prop} (h : ex1 z φ) : ∃ v, φ v := by
  cases z <;> simp only [ex1] at h <;> first | exact ⟨_, h.choose_spec⟩ | (obtain ⟨A, n, c, h⟩ := h; exact ⟨_, h⟩)
theorem exL_out {zs : List Value} : ∀ {φ : List Value → Prop}, exL zs φ → ∃ vs, vs.length = zs.length ∧ φ vs := by
  induction zs with
  | nil => intro φ h; exact ⟨[], rfl, h⟩
  | cons z zs ih =>
    intro φ h
    obtain ⟨v, h⟩ := ex1_out h
    obtain ⟨vs, hl, h⟩ := ih h
    exact ⟨v :: vs, by simp [hl], h⟩
theorem exA_out {z : Value} {φ : Value → Prop} (h : exA z φ) : ∃ v, φ v := by
  cases z with
  | agg cs => obtain ⟨vs, _, h⟩ := exL_out (zs := cs.toList) (φ := fun vs => φ (.agg vs.toArray)) h; exact ⟨_, h⟩
  | _ => (simp only [exA] at h; exact ex1_out h)
theorem exT_out {zs : List Value} : ∀ {φ : List Value → Prop}, exT zs φ → ∃ vs, φ vs := by
  induction zs with
  | nil => intro φ h; exact ⟨[], h⟩
  | cons z zs ih =>
    intro φ h
    obtain ⟨v, h⟩ := exA_out h
    obtain ⟨vs, h⟩ := ih h
    exact ⟨v :: vs, h⟩
theorem ex_out {z : Value} {φ : Value → Prop} (h : ex z φ) : ∃ v, φ v := by
  cases z with
  | tuple cs => obtain ⟨vs, h⟩ := exT_out (zs := cs.toList) (φ := fun vs => φ (.tuple vs.toArray)) h; exact ⟨_, h⟩
  | _ => (simp only [ex] at h; exact exA_out h)

theorem ex1_mono {z : Value} {φ ψ : Value → Prop} (hq : ∀ v, φ v → ψ v) (h : ex1 z φ) : ex1 z ψ := by
  cases z <;> simp only [ex1] at h ⊢ <;> first | exact h.imp fun _ => hq _ | (obtain ⟨A, n, c, h⟩ := h; exact ⟨A, n, c, hq _ h⟩)
theorem exL_mono {zs : List Value} : ∀ {φ ψ : List Value → Prop}, (∀ v, φ v → ψ v) → exL zs φ → exL zs ψ := by
  induction zs with
  | nil => intro φ ψ hq h; exact hq _ h
  | cons z zs ih => intro φ ψ hq h; exact ex1_mono (fun v => ih fun vs => hq _) h
theorem exA_mono {z : Value} {φ ψ : Value → Prop} (hq : ∀ v, φ v → ψ v) (h : exA z φ) : exA z ψ := by
  cases z with
  | agg cs => exact exL_mono (zs := cs.toList) (φ := fun vs => φ (.agg vs.toArray)) (ψ := fun vs => ψ (.agg vs.toArray)) (fun vs => hq _) h
  | _ => (simp only [exA] at h ⊢; exact ex1_mono hq h)
theorem exT_mono {zs : List Value} : ∀ {φ ψ : List Value → Prop}, (∀ v, φ v → ψ v) → exT zs φ → exT zs ψ := by
  induction zs with
  | nil => intro φ ψ hq h; exact hq _ h
  | cons z zs ih => intro φ ψ hq h; exact exA_mono (fun v => ih fun vs => hq _) h
theorem ex_mono {z : Value} {φ ψ : Value → Prop} (hq : ∀ v, φ v → ψ v) (h : ex z φ) : ex z ψ := by
  cases z with
  | tuple cs => exact exT_mono (zs := cs.toList) (φ := fun vs => φ (.tuple vs.toArray)) (ψ := fun vs => ψ (.tuple vs.toArray)) (fun vs => hq _) h
  | _ => (simp only [ex] at h ⊢; exact exA_mono hq h)

/-- 'v' is a value of type 't', and 'φ' holds of it. -/
def typed (P : Program) (t : TypeId) (v : Value) (φ : Value → Prop) : Prop :=
  match zeroOf P t with
  | some z => ex z fun u => v = u ∧ φ u
  | none => False
theorem typed_out {P : Program} {t : TypeId} {v : Value} {φ : Value → Prop} (h : typed P t v φ) : φ v := by
  unfold typed at h
  split at h
  · obtain ⟨u, rfl, h⟩ := ex_out h; exact h
  · exact h.elim
theorem typed_mono {P : Program} {t : TypeId} {v : Value} {φ ψ : Value → Prop} (hq : ∀ v, φ v → ψ v) (h : typed P t v φ) : typed P t v ψ := by
  unfold typed at *
  split at h
  · exact ex_mono (fun _ h => ⟨h.1, hq _ h.2⟩) h
  · exact h.elim

/-! ## Runs -/

/-- The call returns, and 'R' holds of what it returns and the world behind it. -/
def Run (P : Program) (f : FuncId) (args : Array Value) (w : World) (R : Value → World → Prop) : Prop :=
  Calls P f args w fun e w' => ∃ v, e = .returned v ∧ R v w'
theorem Run.mono {P : Program} {f : FuncId} {args : Array Value} {w : World} {R R' : Value → World → Prop} (h : Run P f args w R)
    (hr : ∀ v w', R v w' → R' v w') : Run P f args w R' :=
  Calls.mono h fun _ _ ⟨v, e, r⟩ => ⟨v, e, hr _ _ r⟩

/-- What holds where a call ends by a panic; none: it must not. -/
abbrev Xs := Option (List PanicEntry → World → Prop)
/-- The call returns, or ends by a panic. -/
def RunE (P : Program) (f : FuncId) (args : Array Value) (w : World) (R : Value → World → Prop) (X : List PanicEntry → World → Prop) : Prop :=
  Calls P f args w fun e w' => match e with
    | .returned v => R v w'
    | .panicked c => X c w'
    | .outgrown => False
theorem RunE.mono {P : Program} {f : FuncId} {args : Array Value} {w : World} {R R' : Value → World → Prop} {X X' : List PanicEntry → World → Prop} (h : RunE P f args w R X)
    (hr : ∀ v w', R v w' → R' v w') (hx : ∀ c w', X c w' → X' c w') : RunE P f args w R' X' :=
  Calls.mono h fun e w' he => by
    cases e with
    | returned v => exact hr _ _ he
    | panicked c => exact hx _ _ he
    | outgrown => exact he
theorem Run.e {P : Program} {f : FuncId} {args : Array Value} {w : World} {R : Value → World → Prop} {X : List PanicEntry → World → Prop} (h : Run P f args w R) : RunE P f args w R X :=
  Calls.mono h fun e w' ⟨v, he, hv⟩ => by subst he; exact hv
def callX (X : Xs) (P : Program) (f : FuncId) (args : Array Value) (w : World) (R : Value → World → Prop) : Prop :=
  match X with
  | none => Run P f args w R
  | some X => RunE P f args w R X

/-- What an operation does that asks neither the memory nor the tape: a value, and new blocks. -/
def arun {α : Type} (P : Program) : Sem α → World → Option (α × World)
  | .pure a, w => some (a, w)
  | .new o k, w => arun P (k w.heap.size) (w.alloc o)
  | .program k, w => arun P (k P) w
  | .mark _ k, w => arun P k w
  | _, _ => none
theorem arun_run {α : Type} {P : Program} (s : Sem α) : ∀ {w w' : World} {a : α}, arun P s w = some (a, w') → s.run P w = .ok a w' := by
  induction s with
  | pure a => intro w w' b h; simp only [arun, Option.some.injEq, Prod.mk.injEq] at h; obtain ⟨rfl, rfl⟩ := h; rfl
  | new o k ih => intro w w' b h; exact ih _ h
  | program k ih => intro w w' b h; exact ih _ h
  | mark m k ih => intro w w' b h; exact ih h
  | _ => intro w w' b h; simp [arun] at h
/-- The same of what makes nothing: the world plays no part. -/
def qrun {α : Type} (P : Program) : Sem α → Option α
  | .pure a => some a
  | .program k => qrun P (k P)
  | .mark _ k => qrun P k
  | _ => none
theorem qrun_run {α : Type} {P : Program} (s : Sem α) : ∀ {a : α}, qrun P s = some a → ∀ w, s.run P w = .ok a w := by
  induction s with
  | pure a => intro b h w; simp only [qrun, Option.some.injEq] at h; subst h; rfl
  | program k ih => intro b h w; exact ih _ h w
  | mark m k ih => intro b h w; exact ih h w
  | _ => intro b h; simp [qrun] at h

def ifP (b : Bool) (A B : Prop) : Prop := match b with | true => A | false => B
theorem ifP_true {A B : Prop} : ifP true A B = A := rfl
theorem ifP_false {A B : Prop} : ifP false A B = B := rfl
theorem ifP_of {b : Bool} {A B : Prop} (ht : b = true → A) (hf : b = false → B) : ifP b A B := by cases b; exact hf rfl; exact ht rfl
theorem ifP_dec {p : Prop} [Decidable p] {A B : Prop} (ht : p → A) (hf : ¬ p → B) : ifP (decide p) A B := by
  by_cases h : p
  · rw [decide_eq_true h]; exact ht h
  · rw [decide_eq_false h]; exact hf h
theorem ifP_mono {b : Bool} {A B A' B' : Prop} (ha : A → A') (hb : B → B') (h : ifP b A B) : ifP b A' B' := by cases b; exact hb h; exact ha h

/-! ## Words of the printed texts -/

def newA (w : World) : Addr := ⟨w.heap.size, 0, none⟩
def globA (g : Nat) : Addr := ⟨g, 0, none⟩
@[reducible] def letW (w : World) (f : World → Prop) : Prop := f w
def subA (A : Option Addr) (c l sz : Nat) : Option Addr := if c = l then A else A.map (·.add (l * sz))
def btAt (s : ByteArray) (i : Int) : Int := ((s.data.getD i.toNat 0).toNat : Int)
def minI (x y : Int) : Int := if y < x then y else x
def maxI (x y : Int) : Int := if y > x then y else x
def andI (k : IntKind) (x y : Int) : Int := k.wrap ((BitVec.ofInt k.bits x &&& BitVec.ofInt k.bits y).toNat : Int)
def orI (k : IntKind) (x y : Int) : Int := k.wrap ((BitVec.ofInt k.bits x ||| BitVec.ofInt k.bits y).toNat : Int)
def xorI (k : IntKind) (x y : Int) : Int := k.wrap ((BitVec.ofInt k.bits x ^^^ BitVec.ofInt k.bits y).toNat : Int)
def andNotI (k : IntKind) (x y : Int) : Int := k.wrap ((BitVec.ofInt k.bits x &&& ~~~(BitVec.ofInt k.bits y)).toNat : Int)
def eqSem (op : BinOp) (t : TypeId) (x y : Operand) (a b : Value) : Sem Value := do eqGuard op t x y a b; binOp op t a b

/-! ## Operations -/

/-- The cells from 'a' on, number 'i' first, of the kinds of 'zs'; 'C a v': the cell at 'a' holds 'v'. -/
def loadRow (C : Addr → Value → Prop) (a : Addr) : Nat → List Value → (List Value → Prop) → Prop
  | _, [], φ => φ []
  | i, z :: zs, φ => ex1 z fun v => C (a.add i) v ∧ loadRow C a (i + 1) zs fun vs => φ (v :: vs)

def isAggT (P : Program) (t : TypeId) : Option Bool :=
  match P.underlying t with
  | some (.struct _) => some true
  | some (.array _ _) => some true
  | some _ => some false
  | none => none

def loadVC (P : Program) (t : TypeId) (C : Addr → Value → Prop) (a : Addr) (φ : Value → Prop) : Prop :=
  match isAggT P t, zeroOf P t, sizeOfT P t with
  | some true, some (.agg cs), some n => if n = cs.toList.length then loadRow C a 0 cs.toList fun vs => φ (.agg vs.toArray) else False
  | some false, some z, _ => ex1 z fun v => C a v ∧ φ v
  | _, _, _ => False

def okCall (P : Program) (g : FuncId) : Bool :=
  match P.funcs[g]? with
  | some fn => fn.body.isSome && !(fn.name == "runtime.NumGoroutine")
  | none => false

def storeRow (a : Addr) : Nat → List Value → World → (World → Prop) → Prop
  | _, [], w, φ => φ w
  | _, .agg _ :: _, _, _ => False
  | _, .tuple _ :: _, _, _ => False
  | i, v :: vs, w, φ => (∃ u, w.cell? (a.add i) = some u) ∧ w.frozen? (a.add i) = false ∧ storeRow a (i + 1) vs (w.setCell (a.add i) v) φ

def storeVC (P : Program) (t : TypeId) (a : Addr) (v : Value) (w : World) (φ : World → Prop) : Prop :=
  match sizeOfT P t with
  | some n => if v.cells.toList.length = n then storeRow a 0 v.cells.toList w φ else False
  | none => False

def sliceLo : Option Value → Option Int
  | none => some 0
  | some (.int _ i) => some i
  | _ => none

def sliceHi (n : Nat) : Option Value → Option Int
  | none => some n
  | some (.int _ i) => some i
  | _ => none

def elemSize (P : Program) (t : TypeId) : Option Nat :=
  match P.underlying t with
  | some (.slice e) => sizeOfT P e
  | _ => none

/-- An array's length, and its elements' size. -/
def arrayOf (P : Program) (t : TypeId) : Option (Nat × Nat) :=
  match P.underlying t with
  | some (.array n e) => (sizeOfT P e).map fun sz => (n, sz)
  | _ => none

def isStringT (P : Program) (t : TypeId) : Bool := match P.underlying t with | some .string => true | _ => false
def isPointerT (P : Program) (t : TypeId) : Bool := match P.underlying t with | some (.pointer _) => true | _ => false
def isScalarT (P : Program) (t : TypeId) : Bool := match P.underlying t with | some (.int _) => true | some .bool => true | some .string => true | some (.pointer _) => true | _ => false
def isIntT (P : Program) (t : TypeId) : Bool := match P.underlying t with | some (.int _) => true | _ => false

inductive Kind where
  | pure | load | store | alloc | raw | call | dyn | panic | none

def kind (P : Program) (o : Oper) : Kind :=
  match o.op with
  | .move _ | .assign _ | .pick .. | .nilCheck _ | .indexAddr .. | .index .. | .unOp .. | .fieldAddr .. | .field .. | .extract .. | .build .. | .makeFunc .. | .makeInterface .. | .typeAssert .. | .sliceToArrayPointer .. => .pure
  | .slice _ _ _ _ m => if m.isNone then .pure else .none
  | .binOp _ t _ _ _ => if isScalarT P t then .pure else .raw
  | .convert s d _ => if isIntT P s && isIntT P d then .pure else .raw
  | .load .. => .load
  | .store .. => .store
  | .alloc _ | .box .. | .buildSlice .. => .alloc
  | .makeSlice .. => .raw
  | .call c => (match c.callee with
    | .value (.func _) => .call
    | .value _ => .dyn
    | .builtin .append => .raw
    | .builtin .copy => .raw
    | .builtin .len => .pure
    | .builtin .cap => .pure
    | .builtin .min => .pure
    | .builtin .max => .pure
    | _ => .none)
  | .panic _ => .panic
  | _ => .none

/-- An operation that asks neither the memory nor the tape, and makes nothing. -/
def qVC (P : Program) (o : Oper) (st : St) (K : Value → Prop) : Prop :=
  match qrun P (execOp (ev st) o) with
  | some (.value v) => K v
  | _ => False

def binVC (P : Program) (o : Oper) (op : BinOp) (t : TypeId) (y : Operand) (a b : Value) (st : St) (K : Value → Prop) : Prop :=
  match op, a, b with
  | .quo, .int k a, .int k' b => if Region.isConst y then qVC P o st K else if k = k' then b ≠ 0 ∧ K (.int k (k.wrap (a.tdiv b))) else False
  | .rem, .int k a, .int k' b => if Region.isConst y then qVC P o st K else if k = k' then b ≠ 0 ∧ K (.int k (a.tmod b)) else False
  | .shl, .int k a, .int _ b => if Region.isConst y then qVC P o st K else 0 ≤ b ∧ K (.int k (k.wrap (a * 2 ^ min b.toNat k.bits)))
  | .shr, .int k a, .int _ b => if Region.isConst y then qVC P o st K else 0 ≤ b ∧ K (.int k (a.fdiv (2 ^ min b.toNat k.bits)))
  | .add, .string a, .string b => a.size + b.size ≤ 9223372036854775807 ∧ K (.string (a ++ b))
  | .eql, .pointer A, .pointer none => if isPointerT P t then K (.bool A.isNone) else False
  | .neq, .pointer A, .pointer none => if isPointerT P t then K (.bool (!A.isNone)) else False
  | _, .pointer _, _ => False
  | _, _, _ => qVC P o st K

/-- An operation that is no load, and makes nothing: what becomes of its value, in whatever world. -/
def pureVC (P : Program) (o : Oper) (st : St) (K : Value → Prop) : Prop :=
  match o.op with
  | .move x => K (ev st x)
  | .assign x => K (ev st x)
  | .pick c a b => (match ev st c with
    | .bool t => ifP t (K (ev st a)) (K (ev st b))
    | _ => False)
  | .nilCheck x => (match ev st x with
    | .pointer A => ∃ ad, A = some ad ∧ K (.pointer (some ad))
    | _ => qVC P o st K)
  | .indexAddr t x i => (match ev st x, ev st i with
    | .slice A n _, .int _ i => (match elemSize P t with
      | some sz => 0 ≤ i ∧ i < (n : Int) ∧ ∃ ad, A = some ad ∧ K (.pointer (some (ad.add (i.toNat * sz))))
      | none => False)
    | .pointer (some ad), .int _ i => (match arrayOf P t with
      | some (n, sz) => 0 ≤ i ∧ i < (n : Int) ∧ K (.pointer (some (ad.add (i.toNat * sz))))
      | none => False)
    | _, _ => qVC P o st K)
  | .index t x i => (match ev st x, ev st i with
    | .string s, .int _ i => if isStringT P t then 0 ≤ i ∧ i < (s.size : Int) ∧ K (.int .u8 ((s.data.getD i.toNat 0).toNat : Int)) else False
    | _, _ => qVC P o st K)
  | .slice t x lo hi _ => (match ev st x with
    | .slice A n c => (match elemSize P t, sliceLo (lo.map (ev st)), sliceHi n (hi.map (ev st)) with
      | some sz, some l, some h => 0 ≤ l ∧ l ≤ h ∧ h ≤ (c : Int) ∧
          K (.slice (if c = l.toNat then A else A.map (·.add (l.toNat * sz))) (h.toNat - l.toNat) (c - l.toNat))
      | _, _, _ => False)
    | .string s => (match isStringT P t, sliceLo (lo.map (ev st)), sliceHi s.size (hi.map (ev st)) with
      | true, some l, some h => 0 ≤ l ∧ l ≤ h ∧ h ≤ (s.size : Int) ∧ K (.string (s.extract l.toNat h.toNat))
      | _, _, _ => False)
    | .pointer (some ad) => (match arrayOf P t with
      | some (n, sz) => (match sliceLo (lo.map (ev st)), sliceHi n (hi.map (ev st)) with
        | some l, some h => 0 ≤ l ∧ l ≤ h ∧ h ≤ (n : Int) ∧ K (.slice (if n = l.toNat then some ad else (some ad).map (·.add (l.toNat * sz))) (h.toNat - l.toNat) (n - l.toNat))
        | _, _ => False)
      | none => False)
    | _ => qVC P o st K)
  | .binOp op t x y _ => binVC P o op t y (ev st x) (ev st y) st K
  | .sliceToArrayPointer t x => (match ev st x, arrayOf P t with
    | .slice A n _, some (m, _) => m ≤ n ∧ K (.pointer A)
    | _, _ => False)
  | _ => qVC P o st K

/-- What is told by its run alone. -/
def rawSem (P : Program) (o : Oper) (st : St) : Sem Value :=
  match o.op with
  | .makeSlice t l c => Instr.makeSlice t (ev st l) (ev st c)
  | .convert s d x => convert s d (ev st x)
  | .binOp op t x y _ => do eqGuard op t x y (ev st x) (ev st y); binOp op t (ev st x) (ev st y)
  | .call c => (match c.callee with
    | .builtin .append => Builtin.append_ c.argTypes o.type (c.args.toList.map (ev st)).toArray
    | _ => Builtin.copy_ c.argTypes o.type (c.args.toList.map (ev st)).toArray)
  | _ => stuck ""

def rawVC (P : Program) (s : Sem Value) (t : TypeId) (w : World) (K : Value → World → Prop) : Prop :=
  ∃ v w', s.run P w = .ok v w' ∧ typed P t v fun u => K u w'

def loadOf (P : Program) (o : Oper) (st : St) (C : Addr → Value → Prop) (K : Value → Prop) : Prop :=
  match o.op with
  | .load t a => (match ev st a with
    | .pointer (some ad) => loadVC P t C ad K
    | _ => False)
  | _ => False

/-- The operation's weakest precondition. -/
def opVC (P : Program) (X : Xs) (o : Oper) (st : St) (w : World) (K : Value → World → Prop) : Prop :=
  match kind P o with
  | .pure => pureVC P o st fun v => K v w
  | .load => loadOf P o st (fun a v => w.cell? a = some v) fun v => K v w
  | .store => (match o.op with
    | .store t a x => (match ev st a with
      | .pointer (some ad) => storeVC P t ad (ev st x) w fun w' => K undef w'
      | _ => False)
    | _ => False)
  | .alloc => (match arun P (execOp (ev st) o) w with
    | some (.value v, w') => K v w'
    | _ => False)
  | .raw => rawVC P (rawSem P o st) o.type w K
  | .call => (match o.op with
    | .call c => (match c.callee with
      | .value (.func g) => if okCall P g then callX X P g (c.args.toList.map (ev st)).toArray w fun v w' => typed P o.type v fun u => K u w' else False
      | _ => False)
    | _ => False)
  | .dyn => (match o.op with
    | .call c => (match c.callee with
      | .value x => ∃ (g : FuncId) (fs cs : Array Value), ev st x = .func (.func g) fs cs ∧ okCall P g = true ∧ callX X P g (fs ++ (c.args.toList.map (ev st)).toArray ++ cs) w fun v w' => typed P o.type v fun u => K u w'
      | _ => False)
    | _ => False)
  | .panic => (match o.op with
    | .panic x => (match X, ev st x with
      | some X, .iface t v => X [{ v := .iface t v, recovered := false }] w
      | _, _ => False)
    | _ => False)
  | .none => False

/-! ## Regions -/

def nth : List Oper → Nat → Option Oper
  | [], _ => none
  | o :: _, 0 => some o
  | _ :: l, n + 1 => nth l n

/-- Is the operation carried out? 'yes' and 'no' speak of the state with what its guard has shown. -/
def guardVC (all : List Oper) (o : Oper) (st : St) (yes no : St → Prop) : Prop :=
  match o.guard with
  | none => yes st
  | some (j, want) =>
    match (nth all j).bind (·.dst) with
    | none => False
    | some d =>
      match get st d with
      | .bool b => ifP b (if want then yes (st.set d (.bool true)) else no (st.set d (.bool true))) (if want then no (st.set d (.bool false)) else yes (st.set d (.bool false)))
      | .tuple _ => no st
      | _ => False

def opsVC (P : Program) (X : Xs) (all : List Oper) (K : St → World → Prop) : List Oper → St → World → Prop
  | [], st, w => K st w
  | o :: r, st, w => guardVC all o st
      (fun st => opVC P X o st w fun v w' => opsVC P X all K r (put st o.dst v) w')
      (fun st => opsVC P X all K r (put st o.dst undef) w)

def still (P : Program) (ops : List Oper) : Bool := ops.all fun o => match kind P o with | .pure => true | .load => true | _ => false
def hasLoad (P : Program) (ops : List Oper) : Bool := ops.any fun o => match kind P o with | .load => true | _ => false

def quickOf (P : Program) (ops : List Oper) (listed : List Bool) : List Nat → Option Nat
  | [] => none
  | i :: is => match nth ops i with
    | some o => (match kind P o with
      | .pure => if Region.free .any ops.toArray listed.toArray i then some i else quickOf P ops listed is
      | .load => if Region.free .any ops.toArray listed.toArray i then some i else quickOf P ops listed is
      | _ => quickOf P ops listed is)
    | none => quickOf P ops listed is

def holdS (S : Option (World → Prop)) (w : World) (p : Prop) : Prop := match S with | none => p | some S => S w ∧ p
def cellS (S : Option (World → Prop)) (a : Addr) (v : Value) : Prop := match S with | none => False | some S => ∀ w, S w → w.cell? a = some v

def allVC (f : Nat → Prop) (base : Prop) : List Nat → Prop
  | [] => base
  | [i] => f i
  | i :: j :: r => f i ∧ allVC f base (j :: r)

/-- Is operation i, by the ties of the region, ahead of operation j? -/
def ancB (ops : List Oper) : Nat → Nat → Nat → Bool
  | 0, _, _ => false
  | n + 1, i, j => match nth ops j with
    | some o => o.after.toList.any fun e => Region.binds .any e && (Nat.beq e.on i || ancB ops n i e.on)
    | none => false
def lateGo (P : Program) (all : List Oper) (j : Nat) : List Oper → Nat → Bool
  | [], _ => true
  | o :: r, i => (match kind P o with | .load => ancB all all.length i j | _ => true) && lateGo P all j r (i + 1)
/-- An operation that all loads are ahead of. -/
def lateB (P : Program) (ops : List Oper) (j : Nat) : Bool :=
  match nth ops j with
  | some o => (match kind P o with | .pure => false | .load => false | _ => lateGo P ops j ops 0)
  | none => false

def drawVC (P : Program) (X : Xs) (ops : List Oper) (S : Option (World → Prop)) (K : St → World → Prop) : Nat → List Bool → St → World → Prop
  | 0, listed, st, w => if (Region.ready .any ops.toArray listed.toArray).isEmpty then K st w else False
  | n + 1, listed, st, w =>
    match quickOf P ops listed (Region.ready .any ops.toArray listed.toArray) with
    | some i => (match nth ops i with
      | some o => guardVC ops o st
          (fun st => match kind P o with
            | .load => loadOf P o st (cellS S) fun v => drawVC P X ops S K n (listed.set i true) (put st o.dst v) w
            | _ => pureVC P o st fun v => drawVC P X ops S K n (listed.set i true) (put st o.dst v) w)
          (fun st => drawVC P X ops S K n (listed.set i true) (put st o.dst undef) w)
      | none => False)
    | none => allVC (fun i => match nth ops i with
      | some o => guardVC ops o st
          (fun st => opVC P X o st w fun v w' => if lateB P ops i then drawVC P X ops none K n (listed.set i true) (put st o.dst v) w' else holdS S w' (drawVC P X ops S K n (listed.set i true) (put st o.dst v) w'))
          (fun st => drawVC P X ops S K n (listed.set i true) (put st o.dst undef) w)
      | none => False) (K st w) (Region.ready .any ops.toArray listed.toArray)

def regionVC (P : Program) (X : Xs) (ops : List Oper) (draw : Bool) (K : St → World → Prop) (st : St) (w : World) : Prop :=
  if draw then
    if still P ops && Region.lexB .any ops.toArray then opsVC P X ops K ops st w.drew
    else if Region.noSelect ops.toArray then
      if hasLoad P ops then ∃ S : World → Prop, S w.drew ∧ drawVC P X ops (some S) K ops.length (List.replicate ops.length false) st w.drew
      else drawVC P X ops none K ops.length (List.replicate ops.length false) st w.drew
    else False
  else opsVC P X ops K ops st w

/-! ## Code -/

inductive Ex where
  | normal | exit (id : Nat) | ret

def isIn (L : List Nat) (i : Nat) : Bool := match L with | [] => false | j :: L => if Nat.beq i j then true else isIn L i

/-- What a loop carries from round to round: the slots of 'L'; the others are forgotten. -/
def clearFrom (L : List Nat) : Nat → St → St
  | _, [] => []
  | i, v :: st => (if isIn L i then v else undef) :: clearFrom L (i + 1) st
def mergeFrom (L : List Nat) (ts : Nat → Value) : Nat → St → St
  | _, [] => []
  | i, v :: st => (if isIn L i then v else ts i) :: mergeFrom L ts (i + 1) st

def thenK (K₁ : St → World → Prop) (K : Ex → St → World → Prop) : Ex → St → World → Prop
  | .normal, st, w => K₁ st w
  | .exit i, st, w => K (.exit i) st w
  | .ret, st, w => K .ret st w

def blockK (id : Nat) (K : Ex → St → World → Prop) : Ex → St → World → Prop
  | .normal, st, w => K .normal st w
  | .exit i, st, w => if Nat.beq i id then K .normal st w else K (.exit i) st w
  | .ret, st, w => K .ret st w

def loopF (body : (Ex → St → World → Prop) → St → World → Prop) (L : List Nat) (K : Ex → St → World → Prop) (X : St → World → Prop) (l : St) (w : World) : Prop :=
  ∀ ts : Nat → Value, body (thenK (fun st' w' => X (clearFrom L 0 st') w') K) (mergeFrom L ts 0 l) w

def loopVC (body : (Ex → St → World → Prop) → St → World → Prop) (L : List Nat) (K : Ex → St → World → Prop) (st : St) (w : World) : Prop :=
  ∀ X : St → World → Prop, (∀ l w, loopF body L K X l w → X l w) → X (clearFrom L 0 st) w

def code (P : Program) (X : Xs) (live : Nat → List Nat) : Nat → Code → (Ex → St → World → Prop) → St → World → Prop
  | _, .skip, K, st, w => K .normal st w
  | _, .region _ ops d, K, st, w => regionVC P X ops.toList d (fun st w => K .normal st w) st w
  | b, .seq x y, K, st, w => code P X live b x (thenK (fun st w => code P X live b y K st w) K) st w
  | b, .cond c x y, K, st, w => (match ev st c with
    | .bool t => ifP t (code P X live b x K st w) (code P X live b y K st w)
    | _ => False)
  | _, .block id x, K, st, w => code P X live id x (blockK id K) st w
  | b, .loop x, K, st, w => loopVC (fun K => code P X live b x K) (live b) K st w
  | _, .exit id, K, st, w => K (.exit id) st w
  | _, .ret, K, st, w => K .ret st w
  | _, .label _, K, st, w => K .normal st w
  | b, .scope x, K, st, w => code P X live b x K st w
  | _, _, _, _, _ => False

/-- The part of the code at a place. -/
def sub : Code → List Nat → Code
  | c, [] => c
  | .seq a b, i :: p => if Nat.beq i 0 then sub a p else sub b p
  | .cond _ a b, i :: p => if Nat.beq i 0 then sub a p else sub b p
  | .block _ a, _ :: p => sub a p
  | .loop a, _ :: p => sub a p
  | .scope a, _ :: p => sub a p
  | c, _ => c

/-! ## Functions -/

def resVC (P : Program) (w : World) (st : St) : List ResultVar → (List Value → Prop) → Prop
  | [], φ => φ []
  | .tmp t :: r, φ => resVC P w st r fun vs => φ (get st t :: vs)
  | .cell a t :: r, φ => (match get st a with
    | .pointer (some ad) => loadVC P t (fun a v => w.cell? a = some v) ad fun v => resVC P w st r fun vs => φ (v :: vs)
    | _ => False)

def oneOr : List Value → Value
  | [v] => v
  | vs => .tuple vs.toArray

def retK (P : Program) (fn : Func) (R : Value → World → Prop) : Ex → St → World → Prop
  | .normal, st, w => resVC P w st fn.results.toList fun vs => R (oneOr vs) w
  | .ret, st, w => resVC P w st fn.results.toList fun vs => R (oneOr vs) w
  | .exit _, _, _ => False

def undefs : Nat → St
  | 0 => []
  | n + 1 => undef :: undefs n

def bodyOf (fn : Func) : Code := fn.body.getD .skip

def fnVC (P : Program) (X : Xs) (live : Nat → List Nat) (fn : Func) (R : Value → World → Prop) (args : List Value) (w : World) : Prop :=
  code P X live 0 (bodyOf fn) (retK P fn R) (args ++ undefs (fn.ntmps - args.length)) w

end Go.Rd
