/- Memory: what stays, what is read, what is owned; small lemmas on numbers. No program in sight. -/
import Derived.Test.YthhfipjmjnfjlaaS3
import Derived.Below
namespace Go.Rd
open Go.RowKit
set_option linter.unusedVariables false

/-! ## Preconditions -/

theorem ifP_iff {b : Bool} {A B : Prop} : ifP b A B ↔ (b = true → A) ∧ (b = false → B) := by cases b <;> simp [ifP]
theorem ifP_decide {p : Prop} [Decidable p] {A B : Prop} : ifP (decide p) A B ↔ (p → A) ∧ (¬ p → B) := by
  by_cases h : p <;> simp [ifP, h]
theorem ifP_beq {a b : Int} {A B : Prop} : ifP (a == b) A B ↔ (a = b → A) ∧ (a ≠ b → B) := by
  by_cases h : a = b <;> simp [ifP, h, beq_eq_false_iff_ne.2]
theorem ifP_bne {a b : Int} {A B : Prop} : ifP (a != b) A B ↔ (a ≠ b → A) ∧ (a = b → B) := by
  by_cases h : a = b
  · simp [ifP, h]
  · have : (a != b) = true := bne_iff_ne.2 h
    simp [ifP, this, h]
theorem ifP_not {b : Bool} {A B : Prop} : ifP (!b) A B ↔ ifP b B A := by cases b <;> simp [ifP]
theorem ifP_same {b : Bool} {A : Prop} (h : A) : ifP b A A := by cases b <;> exact h
theorem ifP_t {b : Bool} {A B : Prop} (hb : b = true) (h : A) : ifP b A B := by subst hb; exact h
theorem ifP_f {b : Bool} {A B : Prop} (hb : b = false) (h : B) : ifP b A B := by subst hb; exact h
theorem ifP_yes {p : Prop} [Decidable p] {A B : Prop} (hb : p) (h : A) : ifP (decide p) A B := ifP_t (decide_eq_true hb) h
theorem ifP_no {p : Prop} [Decidable p] {A B : Prop} (hb : ¬ p) (h : B) : ifP (decide p) A B := ifP_f (decide_eq_false hb) h
theorem ifP_eq {a b : Int} {A B : Prop} (hb : a = b) (h : A) : ifP (a == b) A B := ifP_t (beq_iff_eq.2 hb) h
theorem ifP_neq {a b : Int} {A B : Prop} (hb : a ≠ b) (h : B) : ifP (a == b) A B := ifP_f (beq_eq_false_iff_ne.2 hb) h
theorem ifP_ne {a b : Int} {A B : Prop} (hb : a ≠ b) (h : A) : ifP (a != b) A B := ifP_t (bne_iff_ne.2 hb) h
theorem ifP_nne {a b : Int} {A B : Prop} (hb : a = b) (h : B) : ifP (a != b) A B := ifP_f (by simp [hb]) h
theorem ifP_int {a b : Int} {A B : Prop} (ht : a = b → A) (hf : a ≠ b → B) : ifP (a == b) A B := ifP_beq.2 ⟨ht, hf⟩

/-! ## Addresses -/

theorem add_zero (a : Addr) : a.add 0 = a := rfl
theorem add_mk (b i k : Nat) : (Addr.mk b i none).add k = ⟨b, i + k, none⟩ := by
  unfold Addr.add
  split
  · rename_i h; subst h; rfl
  · rfl
theorem add_add (a : Addr) (h : a.spot = none) (i j : Nat) : (a.add i).add j = a.add (i + j) := by
  obtain ⟨b, o, s⟩ := a
  simp only at h
  subst h
  simp only [add_mk, Nat.add_assoc]
theorem add_block (a : Addr) (i : Nat) : (a.add i).block = a.block := by unfold Addr.add; split <;> rfl

/-! ## Worlds -/

theorem size_alloc (w : World) (o : Obj) : (w.alloc o).heap.size = w.heap.size + 1 := by show (w.heap.push o).size = _; simp
theorem hp_old {w : World} {o : Obj} {k : Nat} (h : k < w.heap.size) : (w.alloc o).heap[k]? = w.heap[k]? := Below.heap_alloc w o k h
theorem hp_new (w : World) (o : Obj) : (w.alloc o).heap[w.heap.size]? = some o := by show (w.heap.push o)[w.heap.size]? = _; simp
theorem size_setCell (w : World) (a : Addr) (v : Value) : (w.setCell a v).heap.size = w.heap.size := by simp [World.setCell]
theorem hp_ne {w : World} {a : Addr} {v : Value} {k : Nat} (h : k ≠ a.block) : (w.setCell a v).heap[k]? = w.heap[k]? := Below.heap_setCell w a v k h
theorem hp_set {w : World} {b i : Nat} {v : Value} {cs : Array Value} {t : TypeId} {fz : Nat × Nat} (h : w.heap[b]? = some (.cells cs t fz)) :
    (w.setCell ⟨b, i, none⟩ v).heap[b]? = some (.cells (cs.setIfInBounds i v) t fz) := by
  simp [World.setCell, Array.getElem?_modify, h]
theorem hp_drew (w : World) : w.drew.heap = w.heap := rfl
theorem size_drew (w : World) : w.drew.heap.size = w.heap.size := rfl

theorem cell_of {w : World} {b i : Nat} {cs : Array Value} {t : TypeId} {fz : Nat × Nat} (h : w.heap[b]? = some (.cells cs t fz)) : w.cell? ⟨b, i, none⟩ = cs[i]? := by
  simp [World.cell?, h]
theorem frozen_of {w : World} {b i : Nat} {cs : Array Value} {t : TypeId} (h : w.heap[b]? = some (.cells cs t (0, 0))) : w.frozen? ⟨b, i, none⟩ = false := by
  simp [World.frozen?, h]
theorem cell_lt {w : World} {a : Addr} {v : Value} (h : w.cell? a = some v) : a.block < w.heap.size := by
  unfold World.cell? at h
  split at h
  · rename_i c t f hb
    exact (Array.getElem?_eq_some_iff.1 hb).1
  · cases h
theorem heap_lt {w : World} {b : Nat} {o : Obj} (h : w.heap[b]? = some o) : b < w.heap.size := (Array.getElem?_eq_some_iff.1 h).1

/-- What stood in 'w' stands in 'w'' as it did, but for the blocks of 'S'. -/
structure Keep (S : Nat → Prop) (w w' : World) : Prop where
  os : w'.os = w.os
  tape : w'.tape = w.tape
  output : w'.output = w.output
  size : w.heap.size ≤ w'.heap.size
  block : ∀ k, k < w.heap.size → ¬ S k → w'.heap[k]? = w.heap[k]?

abbrev Ext (w w' : World) : Prop := Keep (fun _ => False) w w'

theorem Keep.refl {S : Nat → Prop} (w : World) : Keep S w w := ⟨rfl, rfl, rfl, Nat.le_refl _, fun _ _ _ => rfl⟩
theorem Keep.mono {S T : Nat → Prop} {w w' : World} (h : Keep S w w') (hs : ∀ k, k < w.heap.size → S k → T k) : Keep T w w' :=
  ⟨h.os, h.tape, h.output, h.size, fun k hk ht => h.block k hk fun s => ht (hs k hk s)⟩
theorem Keep.trans {S T U : Nat → Prop} {a b c : World} (h : Keep S a b) (k : Keep T b c) (hs : ∀ i, i < a.heap.size → S i → U i) (ht : ∀ i, i < a.heap.size → T i → U i) : Keep U a c :=
  ⟨k.os.trans h.os, k.tape.trans h.tape, k.output.trans h.output, Nat.le_trans h.size k.size, fun i hi hu => by
    rw [k.block i (Nat.lt_of_lt_of_le hi h.size) fun t => hu (ht i hi t)]
    exact h.block i hi fun s => hu (hs i hi s)⟩
theorem Keep.trans' {S : Nat → Prop} {a b c : World} (h : Keep S a b) (k : Keep S b c) : Keep S a c := h.trans k (fun _ _ h => h) (fun _ _ h => h)
theorem Keep.ext {S : Nat → Prop} {a b : World} (h : Ext a b) : Keep S a b := h.mono fun _ _ h => h.elim
theorem Keep.drew {S : Nat → Prop} (w : World) : Keep S w w.drew := ⟨rfl, rfl, rfl, Nat.le_refl _, fun _ _ _ => rfl⟩
theorem Keep.alloc {S : Nat → Prop} (w : World) (o : Obj) : Keep S w (w.alloc o) :=
  ⟨rfl, rfl, rfl, by rw [size_alloc]; omega, fun k hk _ => hp_old hk⟩
theorem Keep.setCell {S : Nat → Prop} {w : World} {a : Addr} (v : Value) (h : S a.block) : Keep S w (w.setCell a v) :=
  ⟨rfl, rfl, rfl, by rw [size_setCell]; omega, fun k _ hs => hp_ne fun e => hs (e ▸ h)⟩
theorem Keep.below {S : Nat → Prop} {B : Nat} {w w' : World} (h : Keep S w w') (hB : B ≤ w.heap.size) (hs : ∀ k, k < B → ¬ S k) : Below B w w' :=
  ⟨h.os, h.tape, h.output, h.size, fun k hk => h.block k (Nat.lt_of_lt_of_le hk hB) (hs k hk)⟩
theorem Keep.of_below {B : Nat} {w w' : World} (h : Below B w w') : Keep (fun k => B ≤ k) w w' :=
  ⟨h.os, h.tape, h.output, h.size, fun k _ hs => h.block k (by omega)⟩
/-- New blocks that were written to since are no part of the old world. -/
theorem Keep.fresh {S : Nat → Prop} {a b c : World} (h : Ext a b) (k : Keep S b c) (hs : ∀ i, S i → a.heap.size ≤ i) : Ext a c :=
  h.trans k (fun _ _ h => h) fun i hi s => by have := hs i s; omega

theorem Keep.cell {S : Nat → Prop} {w w' : World} (h : Keep S w w') {a : Addr} {v : Value} (hc : w.cell? a = some v) (hs : ¬ S a.block) : w'.cell? a = some v := by
  have := h.block _ (cell_lt hc) hs
  unfold World.cell? at hc ⊢
  rw [this]; exact hc
theorem Keep.heap {S : Nat → Prop} {w w' : World} (h : Keep S w w') {b : Nat} {o : Obj} (hc : w.heap[b]? = some o) (hs : ¬ S b) : w'.heap[b]? = some o := by
  rw [h.block _ (heap_lt hc) hs]; exact hc
theorem Ext.cell {w w' : World} (h : Ext w w') {a : Addr} {v : Value} (hc : w.cell? a = some v) : w'.cell? a = some v := Keep.cell h hc id
theorem Ext.heap {w w' : World} (h : Ext w w') {b : Nat} {o : Obj} (hc : w.heap[b]? = some o) : w'.heap[b]? = some o := Keep.heap h hc id
theorem Ext.trans {a b c : World} (h : Ext a b) (k : Ext b c) : Ext a c := Keep.trans' h k
theorem Ext.refl (w : World) : Ext w w := Keep.refl w
theorem Ext.drew (w : World) : Ext w w.drew := Keep.drew w
theorem Ext.alloc (w : World) (o : Obj) : Ext w (w.alloc o) := Keep.alloc w o

/-- Everything that stood in 'W' stands in 'w' as it did. -/
abbrev Fr (W w : World) : Prop := Below W.heap.size W w
theorem Fr.step {S : Nat → Prop} {W w w' : World} (h : Fr W w) (k : Keep S w w') (hs : ∀ i, S i → W.heap.size ≤ i) : Fr W w' :=
  ⟨k.os.trans h.os, k.tape.trans h.tape, k.output.trans h.output, Nat.le_trans h.size k.size, fun i hi => by
    rw [k.block i (Nat.lt_of_lt_of_le hi h.size) fun s => by have := hs i s; omega]; exact h.block i hi⟩
theorem Fr.ext {W w w' : World} (h : Fr W w) (k : Ext w w') : Fr W w' := h.step k fun _ h => h.elim
theorem Fr.refl (W : World) : Fr W W := Below.refl _ _
theorem Fr.of_ext {W w : World} (k : Ext W w) : Fr W w := (Fr.refl W).ext k

/-! ## Stores -/

theorem st_cell {w : World} {b i : Nat} {cs : Array Value} {t : TypeId} {fz : Nat × Nat} (h : w.heap[b]? = some (.cells cs t fz)) (hi : i < cs.size) : ∃ u, w.cell? ⟨b, i, none⟩ = some u :=
  ⟨cs[i], by rw [cell_of h]; exact Array.getElem?_eq_getElem hi⟩

theorem letA {w : World} {o : Obj} {f : World → Prop} (h : ∀ w', w'.heap[w.heap.size]? = some o → Ext w w' → w'.heap.size = w.heap.size + 1 → f w') : letW (w.alloc o) f :=
  h _ (hp_new w o) (Ext.alloc w o) (size_alloc w o)
theorem letS {w : World} {b i : Nat} {v : Value} {cs : Array Value} {t : TypeId} {f : World → Prop} (ho : w.heap[b]? = some (.cells cs t (0, 0)))
    (h : ∀ w', w'.heap[b]? = some (.cells (cs.setIfInBounds i v) t (0, 0)) → Keep (· = b) w w' → w'.heap.size = w.heap.size → f w') : letW (w.setCell ⟨b, i, none⟩ v) f :=
  h _ (hp_set ho) (Keep.setCell v rfl) (size_setCell ..)
theorem letD {w : World} {f : World → Prop} (h : ∀ w', w'.heap = w.heap → Ext w w' → f w') : letW w.drew f := h _ rfl (Ext.drew w)

def isCell : Value → Bool
  | .agg _ => false
  | .tuple _ => false
  | _ => true

def setFrom (cs : Array Value) : Nat → List Value → Array Value
  | _, [] => cs
  | i, v :: vs => setFrom (cs.setIfInBounds i v) (i + 1) vs

theorem setFrom_size : ∀ (vs : List Value) (cs : Array Value) (i : Nat), (setFrom cs i vs).size = cs.size
  | [], _, _ => rfl
  | v :: vs, cs, i => by rw [setFrom, setFrom_size vs]; simp

/-- A row of stores into one block. -/
theorem storeRow_block {b : Nat} {t : TypeId} {off : Nat} : ∀ {vs : List Value} {i : Nat} {w : World} {cs : Array Value} {φ : World → Prop},
    w.heap[b]? = some (.cells cs t (0, 0)) → off + i + vs.length ≤ cs.size → (vs.all isCell) = true →
    (∀ w', w'.heap[b]? = some (.cells (setFrom cs (off + i) vs) t (0, 0)) → Keep (· = b) w w' → w'.heap.size = w.heap.size → φ w') → storeRow ⟨b, off, none⟩ i vs w φ
  | [], i, w, cs, φ, h, hl, hv, hφ => hφ w h (Keep.refl w) rfl
  | v :: vs, i, w, cs, φ, h, hl, hv, hφ => by
    simp only [List.length_cons] at hl
    simp only [List.all_cons, Bool.and_eq_true] at hv
    have h1 := hp_set (i := off + i) (v := v) h
    have rest : storeRow ⟨b, off, none⟩ (i + 1) vs (w.setCell (Addr.add ⟨b, off, none⟩ i) v) φ := by
      rw [add_mk]
      refine storeRow_block h1 (by simp; omega) hv.2 fun w' hw hk hs => hφ w' ?_ ?_ ?_
      · rw [setFrom]; exact hw
      · exact (Keep.setCell (S := (· = b)) v rfl).trans' hk
      · rw [hs, size_setCell]
    have c1 : ∃ u, w.cell? (Addr.add ⟨b, off, none⟩ i) = some u := by rw [add_mk]; exact st_cell h (by omega)
    have c2 : w.frozen? (Addr.add ⟨b, off, none⟩ i) = false := by rw [add_mk]; exact frozen_of h
    cases v <;> first
      | (simp [isCell] at hv; done)
      | exact ⟨c1, c2, rest⟩

/-! ## Reading a slice -/

/-- The slice at 'A' of 'n' elements of one cell each reads 'xs'. -/
def Rd {α : Type} (f : α → Value) (w : World) (A : Option Addr) (n : Nat) (xs : List α) : Prop :=
  xs.length = n ∧ ∀ i x, xs[i]? = some x → ∃ a, A = some a ∧ w.cell? (a.add (i * 1)) = some (f x)

theorem Rd.len {α : Type} {f : α → Value} {w : World} {A : Option Addr} {n : Nat} {xs : List α} (h : Rd f w A n xs) : xs.length = n := h.1
theorem Rd.at {α : Type} {f : α → Value} {w : World} {A : Option Addr} {n : Nat} {xs : List α} (h : Rd f w A n xs) {i : Nat} (hi : i < n) :
    ∃ a, A = some a ∧ w.cell? (a.add (i * 1)) = some (f (xs[i]'(by rw [h.1]; exact hi))) :=
  h.2 i _ (List.getElem?_eq_getElem (by rw [h.1]; exact hi))
theorem Rd.keep {α : Type} {f : α → Value} {S : Nat → Prop} {w w' : World} {A : Option Addr} {n : Nat} {xs : List α} (h : Rd f w A n xs) (hk : Keep S w w')
    (hs : ∀ a, A = some a → ¬ S a.block) : Rd f w' A n xs :=
  ⟨h.1, fun i x hx => let ⟨a, ha, hc⟩ := h.2 i x hx; ⟨a, ha, hk.cell hc (by rw [add_block]; exact hs a ha)⟩⟩
theorem Rd.ext {α : Type} {f : α → Value} {w w' : World} {A : Option Addr} {n : Nat} {xs : List α} (h : Rd f w A n xs) (hk : Ext w w') : Rd f w' A n xs :=
  h.keep hk fun _ _ h => h
theorem Rd.nil {α : Type} {f : α → Value} {w : World} {A : Option Addr} : Rd f w A 0 ([] : List α) := ⟨rfl, fun i x h => by cases h⟩
/-- A new block's first cells. -/
theorem Rd.block {α : Type} {f : α → Value} {w : World} {b : Nat} {cs : Array Value} {t : TypeId} {fz : Nat × Nat} {xs : List α} (h : w.heap[b]? = some (.cells cs t fz))
    (hx : ∀ (i : Nat) (x : α), xs[i]? = some x → cs[i]? = some (f x)) : Rd f w (some ⟨b, 0, none⟩) xs.length xs :=
  ⟨rfl, fun i x hi => ⟨_, rfl, by rw [add_mk, cell_of h]; simpa using hx i x hi⟩⟩

theorem Rd.fr {α : Type} {f : α → Value} {W w : World} {A : Option Addr} {n : Nat} {xs : List α} (h : Rd f W A n xs) (hf : Fr W w) : Rd f w A n xs :=
  ⟨h.1, fun i x hx => let ⟨a, ha, hc⟩ := h.2 i x hx; ⟨a, ha, by rw [hf.cell (cell_lt hc)]; exact hc⟩⟩

/-! ## Numbers -/

theorem wrap_i64 {x : Int} (h0 : -9223372036854775808 ≤ x) (h1 : x ≤ 9223372036854775807) : IntKind.i64.wrap x = x := by
  simp only [IntKind.wrap, IntKind.bits, IntKind.signed]; simp; omega
theorem wrap_u64 {x : Int} (h0 : 0 ≤ x) (h1 : x ≤ 18446744073709551615) : IntKind.u64.wrap x = x := by
  simp only [IntKind.wrap, IntKind.bits, IntKind.signed]; simp; omega
theorem wrap_u32 {x : Int} (h0 : 0 ≤ x) (h1 : x ≤ 4294967295) : IntKind.u32.wrap x = x := by
  simp only [IntKind.wrap, IntKind.bits, IntKind.signed]; simp; omega
theorem wrap_u16 {x : Int} (h0 : 0 ≤ x) (h1 : x ≤ 65535) : IntKind.u16.wrap x = x := by
  simp only [IntKind.wrap, IntKind.bits, IntKind.signed]; simp; omega
theorem wrap_u8 {x : Int} (h0 : 0 ≤ x) (h1 : x ≤ 255) : IntKind.u8.wrap x = x := by
  simp only [IntKind.wrap, IntKind.bits, IntKind.signed]; simp; omega
theorem wrap_u32_mod (x : Int) : IntKind.u32.wrap x = x % 4294967296 := by
  simp only [IntKind.wrap, IntKind.bits, IntKind.signed]; simp
theorem wrap_u64_mod (x : Int) : IntKind.u64.wrap x = x % 18446744073709551616 := by
  simp only [IntKind.wrap, IntKind.bits, IntKind.signed]; simp
theorem wrap_u8_mod (x : Int) : IntKind.u8.wrap x = x % 256 := by
  simp only [IntKind.wrap, IntKind.bits, IntKind.signed]; simp

theorem tmod_pos {x y : Int} (h : 0 ≤ x) : Int.tmod x y = x % y := Int.tmod_eq_emod_of_nonneg h
theorem tdiv_pos {x y : Int} (h : 0 ≤ x) : Int.tdiv x y = x / y := Int.tdiv_eq_ediv_of_nonneg h
theorem toNat_ofInt (n : Nat) (x : Int) : (BitVec.ofInt n x).toNat = (x % ((2 ^ n : Nat) : Int)).toNat := by simp [BitVec.toNat_ofInt]

/-- The lowest k bits. -/
theorem andI_i64 {x : Int} (k : Nat) (hk : k ≤ 63) : andI .i64 x ((2 ^ k : Nat) - 1 : Nat) = x % ((2 ^ k : Nat) : Int) := by
  have h2 : 2 ^ k ≤ 2 ^ 63 := Nat.pow_le_pow_right (by omega) hk
  have hp : 0 < 2 ^ k := Nat.pow_pos (by omega)
  unfold andI
  have e : (BitVec.ofInt IntKind.i64.bits x &&& BitVec.ofInt IntKind.i64.bits (((2 ^ k : Nat) - 1 : Nat) : Int)).toNat = (x % ((2 ^ k : Nat) : Int)).toNat := by
    rw [BitVec.toNat_and, toNat_ofInt, toNat_ofInt]
    have e1 : ((((2 ^ k : Nat) - 1 : Nat) : Int) % ((2 ^ IntKind.i64.bits : Nat) : Int)).toNat = 2 ^ k - 1 := by
      rw [← Int.natCast_emod, Int.toNat_natCast, Nat.mod_eq_of_lt]
      have : 2 ^ IntKind.i64.bits = 18446744073709551616 := rfl
      omega
    rw [e1, Nat.and_two_pow_sub_one_eq_mod]
    have hd : ((2 ^ k : Nat) : Int) ∣ ((2 ^ IntKind.i64.bits : Nat) : Int) := Int.natCast_dvd_natCast.2 (Nat.pow_dvd_pow 2 (show k ≤ 64 by omega))
    have h0 : 0 ≤ x % ((2 ^ IntKind.i64.bits : Nat) : Int) := Int.emod_nonneg _ (by have : 0 < 2 ^ IntKind.i64.bits := Nat.pow_pos (by omega); omega)
    have e2 : (((x % ((2 ^ IntKind.i64.bits : Nat) : Int)).toNat % 2 ^ k : Nat) : Int) = x % ((2 ^ k : Nat) : Int) := by
      rw [Int.natCast_emod, Int.toNat_of_nonneg h0, Int.emod_emod_of_dvd _ hd]
    omega
  rw [e]
  have h0 : 0 ≤ x % ((2 ^ k : Nat) : Int) := Int.emod_nonneg _ (by omega)
  have h1 : x % ((2 ^ k : Nat) : Int) < ((2 ^ k : Nat) : Int) := Int.emod_lt_of_pos _ (by omega)
  rw [Int.toNat_of_nonneg h0]
  exact wrap_i64 (by omega) (by omega)
end Go.Rd
