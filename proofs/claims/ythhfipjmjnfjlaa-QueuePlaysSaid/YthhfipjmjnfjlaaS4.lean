/- A sequence cut in two: what its second part is asked is said apart. -/
import Derived.Test.YthhfipjmjnfjlaaS3
namespace Go.Rd
set_option linter.unusedVariables false
section
variable {P : Program} {Z : Xs}

/-- The code, down to a place: there, 'J' stands for what comes behind. -/
def spine (P : Program) (Z : Xs) (live : Nat → List Nat) (J : St → World → Prop) : List Nat → Nat → Code → (Ex → St → World → Prop) → St → World → Prop
  | [], b, .seq x y, K, st, w => code P Z live b x (thenK J K) st w
  | 0 :: p, b, .seq x y, K, st, w => spine P Z live J p b x (thenK (fun st w => code P Z live b y K st w) K) st w
  | 1 :: p, b, .seq x y, K, st, w => code P Z live b x (thenK (fun st w => spine P Z live J p b y K st w) K) st w
  | 0 :: p, _, .block id x, K, st, w => spine P Z live J p id x (blockK id K) st w
  | 0 :: p, b, .scope x, K, st, w => spine P Z live J p b x K st w
  | 0 :: p, b, .cond c x y, K, st, w => (match ev st c with
    | .bool t => ifP t (spine P Z live J p b x K st w) (code P Z live b y K st w)
    | _ => False)
  | 1 :: p, b, .cond c x y, K, st, w => (match ev st c with
    | .bool t => ifP t (code P Z live b x K st w) (spine P Z live J p b y K st w)
    | _ => False)
  | _, _, _, _, _, _ => False
/-- What stands behind that place. -/
def behind (P : Program) (Z : Xs) (live : Nat → List Nat) : List Nat → Nat → Code → (Ex → St → World → Prop) → St → World → Prop
  | [], b, .seq x y, K => code P Z live b y K
  | 0 :: p, b, .seq x y, K => behind P Z live p b x (thenK (fun st w => code P Z live b y K st w) K)
  | 1 :: p, b, .seq x y, K => behind P Z live p b y K
  | 0 :: p, _, .block id x, K => behind P Z live p id x (blockK id K)
  | 0 :: p, b, .scope x, K => behind P Z live p b x K
  | 0 :: p, b, .cond _ x _, K => behind P Z live p b x K
  | 1 :: p, b, .cond _ _ y, K => behind P Z live p b y K
  | _, _, _, _ => fun _ _ => False

theorem spine_sound {live : Nat → List Nat} {J : St → World → Prop} : ∀ {p : List Nat} {b : Nat} {c : Code} {K : Ex → St → World → Prop} {st : St} {w : World},
    (∀ st w, J st w → behind P Z live p b c K st w) → spine P Z live J p b c K st w → code P Z live b c K st w := by
  intro p
  induction p with
  | nil =>
    intro b c K st w hJ h
    cases c with
    | seq x y => exact code_mono x (thenK_mono (fun st w hj => hJ st w hj) fun _ _ _ h => h) h
    | _ => exact h.elim
  | cons i p ih =>
    intro b c K st w hJ h
    rcases i with _ | _ | i
    · cases c with
      | seq x y => exact ih (b := b) (c := x) (K := thenK (fun st w => code P Z live b y K st w) K) hJ h
      | block id x => exact ih (b := id) (c := x) (K := blockK id K) hJ h
      | scope x => exact ih (b := b) (c := x) (K := K) hJ h
      | cond c x y =>
        have h' : (match ev st c with | .bool t => ifP t (spine P Z live J p b x K st w) (code P Z live b y K st w) | _ => False) := h
        show (match ev st c with | .bool t => ifP t (code P Z live b x K st w) (code P Z live b y K st w) | _ => False)
        split at h'
        · exact ifP_mono (fun h => ih (b := b) (c := x) (K := K) hJ h) (fun h => h) h'
        · exact h'.elim
      | _ => exact h.elim
    · cases c with
      | seq x y => exact code_mono x (thenK_mono (fun st w hs => ih (b := b) (c := y) (K := K) hJ hs) fun _ _ _ h => h) h
      | cond c x y =>
        have h' : (match ev st c with | .bool t => ifP t (code P Z live b x K st w) (spine P Z live J p b y K st w) | _ => False) := h
        show (match ev st c with | .bool t => ifP t (code P Z live b x K st w) (code P Z live b y K st w) | _ => False)
        split at h'
        · exact ifP_mono (fun h => h) (fun h => ih (b := b) (c := y) (K := K) hJ h) h'
        · exact h'.elim
      | _ => exact h.elim
    · cases c <;> exact h.elim
end

/-! ## A state's slots -/

def selI (k : IntKind) (v : Value) (φ : Int → Prop) : Prop := match v with | .int k' x => (match k, k' with
    | .i8, .i8 => φ x | .i16, .i16 => φ x | .i32, .i32 => φ x | .i64, .i64 => φ x | .u8, .u8 => φ x | .u16, .u16 => φ x | .u32, .u32 => φ x | .u64, .u64 => φ x | _, _ => False) | _ => False
def selB (v : Value) (φ : Bool → Prop) : Prop := match v with | .bool x => φ x | _ => False
def selT (v : Value) (φ : ByteArray → Prop) : Prop := match v with | .string x => φ x | _ => False
def selP (v : Value) (φ : Option Addr → Prop) : Prop := match v with | .pointer x => φ x | _ => False
def selA (v : Value) (φ : Addr → Prop) : Prop := match v with | .pointer (some x) => φ x | _ => False
def selS (v : Value) (φ : Option Addr → Nat → Nat → Prop) : Prop := match v with | .slice A n c => φ A n c | _ => False
def selV (v : Value) (φ : Value → Prop) : Prop := φ v
def condP (b : Bool) (φ : Prop) : Prop := match b with | true => φ | false => False
theorem condP_out {b : Bool} {φ : Prop} (h : condP b φ) : b = true ∧ φ := by cases b; exact h.elim; exact ⟨rfl, h⟩
def hasLen : St → Nat → Bool
  | [], 0 => true
  | _ :: l, n + 1 => hasLen l n
  | _, _ => false

theorem selI_out {k : IntKind} {v : Value} {φ : Int → Prop} (h : selI k v φ) : ∃ x, v = .int k x ∧ φ x := by
  unfold selI at h
  split at h
  · rename_i k' x
    cases k <;> cases k' <;> first | exact ⟨_, rfl, h⟩ | exact h.elim
  · exact h.elim
theorem selB_out {v : Value} {φ : Bool → Prop} (h : selB v φ) : ∃ x, v = .bool x ∧ φ x := by
  unfold selB at h
  split at h
  · exact ⟨_, rfl, h⟩
  · exact h.elim
theorem selT_out {v : Value} {φ : ByteArray → Prop} (h : selT v φ) : ∃ x, v = .string x ∧ φ x := by
  unfold selT at h
  split at h
  · exact ⟨_, rfl, h⟩
  · exact h.elim
theorem selP_out {v : Value} {φ : Option Addr → Prop} (h : selP v φ) : ∃ x, v = .pointer x ∧ φ x := by
  unfold selP at h
  split at h
  · exact ⟨_, rfl, h⟩
  · exact h.elim
theorem selA_out {v : Value} {φ : Addr → Prop} (h : selA v φ) : ∃ x, v = .pointer (some x) ∧ φ x := by
  unfold selA at h
  split at h
  · exact ⟨_, rfl, h⟩
  · exact h.elim
theorem selS_out {v : Value} {φ : Option Addr → Nat → Nat → Prop} (h : selS v φ) : ∃ A n c, v = .slice A n c ∧ φ A n c := by
  unfold selS at h
  split at h
  · exact ⟨_, _, _, rfl, h⟩
  · exact h.elim
theorem selV_out {v : Value} {φ : Value → Prop} (h : selV v φ) : ∃ x, v = x ∧ φ x := ⟨v, rfl, h⟩
theorem hasLen_iff : ∀ {st : St} {n : Nat}, hasLen st n = true → st.length = n
  | [], 0, _ => rfl
  | [], n + 1, h => by cases h
  | _ :: l, 0, h => by cases h
  | _ :: l, n + 1, h => by have := hasLen_iff (st := l) h; simp [this]

def liveAll : List Nat → St → St → Prop
  | [], _, _ => True
  | i :: L, st, pat => get st i = get pat i ∧ liveAll L st pat

theorem merge_eq {L : List Nat} (f : Nat → Value) : ∀ (st pat : St) (i : Nat), st.length = pat.length → (∀ j, isIn L (i + j) = true → get st j = get pat j) → (∀ j, f (i + j) = get st j) →
    st = mergeFrom L f i (clearFrom L i pat)
  | [], [], i, _, _, _ => rfl
  | [], _ :: _, i, h, _, _ => by cases h
  | _ :: _, [], i, h, _, _ => by cases h
  | v :: st, u :: pat, i, h, hl, hf => by
    simp only [clearFrom, mergeFrom]
    have h0 := hl 0
    have hf0 := hf 0
    have ih := merge_eq (L := L) f st pat (i + 1) (by simpa using h) (fun j hj => by have := hl (j + 1); rw [show i + (j + 1) = i + 1 + j by omega] at this; exact this hj) (fun j => by have := hf (j + 1); rwa [show i + (j + 1) = i + 1 + j by omega] at this)
    rw [← ih]
    congr 1
    cases hi : isIn L i with
    | true => exact h0 hi
    | false => exact hf0.symm

theorem isIn_all : ∀ {L : List Nat} {i : Nat} {st pat : St}, liveAll L st pat → isIn L i = true → get st i = get pat i
  | [], i, st, pat, _, h => by cases h
  | j :: L, i, st, pat, hl, h => by
    simp only [isIn] at h
    split at h
    · rename_i he
      have := Nat.eq_of_beq_eq_true he
      subst this
      exact hl.1
    · exact isIn_all hl.2 h
theorem st_merge {L : List Nat} {st pat : St} {n : Nat} (h : hasLen st n = true) (hp : hasLen pat n = true) (hl : liveAll L st pat) : st = mergeFrom L (get st) 0 (clearFrom L 0 pat) :=
  merge_eq _ _ _ _ (by rw [hasLen_iff h, hasLen_iff hp]) (fun j hj => isIn_all hl (by rwa [Nat.zero_add] at hj)) (fun j => by rw [Nat.zero_add])
end Go.Rd
