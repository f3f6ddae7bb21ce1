/- Lists of elements of several cells each. -/
import Derived.Test.YthhfipjmjnfjlaaM3
import Derived.Laws.StructEq
namespace Go.Rd
open Go.RowKit
set_option linter.unusedVariables false
set_option linter.unusedSimpArgs false

/-- An instruction. -/
structure Ins where
  c : Int
  t : Int
  f : Int
  k : Int
deriving DecidableEq
def Ins.v (i : Ins) : List Value := [.int .u16 i.c, .int .u8 i.t, .int .u8 i.f, .int .u32 i.k]
def Ins.ok (i : Ins) : Prop := (0 ≤ i.c ∧ i.c ≤ 65535) ∧ (0 ≤ i.t ∧ i.t ≤ 255) ∧ (0 ≤ i.f ∧ i.f ≤ 255) ∧ 0 ≤ i.k ∧ i.k ≤ 4294967295
theorem Ins.len (i : Ins) : i.v.length = 4 := rfl
theorem Ins.isCell (xs : List Ins) : (xs.flatMap Ins.v).all isCell = true := by
  induction xs with
  | nil => rfl
  | cons x xs ih => rw [List.flatMap_cons, List.all_append, ih]; rfl

section
variable {α β : Type} {f : α → List β} {sz : Nat}

theorem flat_len (hf : ∀ x, (f x).length = sz) (xs : List α) : (xs.flatMap f).length = xs.length * sz := by
  induction xs with
  | nil => simp
  | cons x xs ih => rw [List.flatMap_cons, List.length_append, ih, hf, List.length_cons, Nat.add_mul, Nat.one_mul, Nat.add_comm]

theorem flat_get (hf : ∀ x, (f x).length = sz) : ∀ {xs : List α} {i j : Nat} {x : α}, xs[i]? = some x → j < sz → (xs.flatMap f)[i * sz + j]? = (f x)[j]?
  | [], i, j, x, h, hj => by simp at h
  | y :: ys, 0, j, x, h, hj => by
    obtain rfl : y = x := by simpa using h
    rw [List.flatMap_cons, Nat.zero_mul, Nat.zero_add, List.getElem?_append_left (by rw [hf]; exact hj)]
  | y :: ys, i + 1, j, x, h, hj => by
    have h : ys[i]? = some x := by simpa using h
    rw [List.flatMap_cons, List.getElem?_append_right (by rw [hf, Nat.add_mul]; omega), hf, Nat.add_mul, Nat.one_mul, show i * sz + sz + j - sz = i * sz + j by omega]
    exact flat_get hf h hj

theorem flat_take (hf : ∀ x, (f x).length = sz) : ∀ (xs : List α) (n : Nat), (xs.take n).flatMap f = (xs.flatMap f).take (n * sz)
  | [], n => by simp
  | y :: ys, 0 => by simp
  | y :: ys, n + 1 => by
    rw [List.take_succ_cons, List.flatMap_cons, List.flatMap_cons, flat_take hf ys n, List.take_append, hf, Nat.add_mul, Nat.one_mul, List.take_of_length_le (l := f y) (by rw [hf]; omega), show n * sz + sz - sz = n * sz by omega]
theorem flat_drop (hf : ∀ x, (f x).length = sz) : ∀ (xs : List α) (n : Nat), (xs.drop n).flatMap f = (xs.flatMap f).drop (n * sz)
  | [], n => by simp
  | y :: ys, 0 => by simp
  | y :: ys, n + 1 => by
    rw [List.drop_succ_cons, List.flatMap_cons, flat_drop hf ys n, List.drop_append, hf, Nat.add_mul, Nat.one_mul, List.drop_of_length_le (l := f y) (by rw [hf]; omega), show n * sz + sz - sz = n * sz by omega]
    rfl

end

section
variable {α : Type} {f : α → List Value} {sz : Nat}

/-- A slice of elements of several cells reads these. -/
def RdM (f : α → List Value) (w : World) (A : Option Addr) (n : Nat) (xs : List α) : Prop := xs.length = n ∧ RdC w A (xs.flatMap f)

theorem RdM.len {w : World} {A : Option Addr} {n : Nat} {xs : List α} (h : RdM f w A n xs) : xs.length = n := h.1
theorem RdM.nil {w : World} {A : Option Addr} : RdM f w A 0 [] := ⟨rfl, RdC.nil⟩
theorem RdM.ext {w w' : World} {A : Option Addr} {n : Nat} {xs : List α} (h : RdM f w A n xs) (hk : Ext w w') : RdM f w' A n xs := ⟨h.1, h.2.ext hk⟩
theorem RdM.keep {S : Nat → Prop} {w w' : World} {A : Option Addr} {n : Nat} {xs : List α} (h : RdM f w A n xs) (hk : Keep S w w') (hs : ∀ k, blk A k → ¬ S k) : RdM f w' A n xs :=
  ⟨h.1, h.2.keep hk fun a ha => hs _ ⟨a, ha, rfl⟩⟩
theorem RdM.fr {W w : World} {A : Option Addr} {n : Nat} {xs : List α} (h : RdM f W A n xs) (hf : Fr W w) : RdM f w A n xs :=
  ⟨h.1, fun j v hv => let ⟨a, ha, hc⟩ := h.2 j v hv; ⟨a, ha, by rw [hf.cell (cell_lt hc)]; exact hc⟩⟩
theorem RdM.at (hf : ∀ x, (f x).length = sz) (h0 : 0 < sz) {w : World} {A : Option Addr} {n i : Nat} {xs : List α} (h : RdM f w A n xs) (hi : i < n) :
    ∃ a x, A = some a ∧ xs[i]? = some x ∧ ∀ j v, (f x)[j]? = some v → w.cell? ((a.add (i * sz)).add j) = some v := by
  have hx : xs[i]? = some (xs[i]'(by rw [h.1]; exact hi)) := List.getElem?_eq_getElem _
  generalize xs[i]'(by rw [h.1]; exact hi) = x at hx
  have key : ∀ j v, (f x)[j]? = some v → ∃ a, A = some a ∧ w.cell? (a.add (i * sz + j)) = some v := fun j v hv => by
    have hj : j < sz := by rw [← hf x]; exact (List.getElem?_eq_some_iff.1 hv).1
    exact h.2 _ v ((flat_get hf hx hj).trans hv)
  obtain ⟨v0, hv0⟩ : ∃ v, (f x)[0]? = some v := ⟨_, List.getElem?_eq_getElem (by rw [hf]; exact h0)⟩
  obtain ⟨a, ha, _⟩ := key 0 v0 hv0
  refine ⟨a, x, ha, hx, fun j v hv => ?_⟩
  obtain ⟨a', ha', hc⟩ := key j v hv
  rw [ha] at ha'
  obtain rfl := Option.some.inj ha'
  rw [addr_add]
  exact hc
theorem RdM.take (hf : ∀ x, (f x).length = sz) {w : World} {A : Option Addr} {n : Nat} {xs : List α} (h : RdM f w A n xs) {k : Nat} (hk : k ≤ n) : RdM f w A k (xs.take k) :=
  ⟨by rw [List.length_take, h.1]; omega, by rw [flat_take hf]; exact h.2.take _⟩
theorem RdC.dropM {w : World} {A : Option Addr} {cs : List Value} (h : RdC w A cs) (n sz : Nat) {c : Nat} (hn : n < c) : RdC w (subA A c n sz) (cs.drop (n * sz)) := fun j v hv => by
  rw [List.getElem?_drop] at hv
  obtain ⟨a, rfl, hc⟩ := h _ _ hv
  refine ⟨a.add (n * sz), ?_, by rw [addr_add]; exact hc⟩
  unfold subA
  rw [if_neg (by omega)]
  rfl
theorem RdM.drop (hf : ∀ x, (f x).length = sz) {w : World} {A : Option Addr} {n c : Nat} {xs : List α} (h : RdM f w A n xs) {k : Nat} (hk : k ≤ n) (hc : n ≤ c) : RdM f w (subA A c k sz) (n - k) (xs.drop k) := by
  refine ⟨by rw [List.length_drop, h.1], ?_⟩
  by_cases he : k < c
  · rw [flat_drop hf]; exact h.2.dropM k sz he
  · have : xs.drop k = [] := List.drop_of_length_le (by rw [h.1]; omega)
    rw [this]
    exact RdC.nil
theorem Own.rdM {e : TypeId} {w : World} {A : Option Addr} {n c : Nat} {xs : List α} (h : Own e sz w A c (xs.flatMap f)) (hn : xs.length = n) : RdM f w A n xs := ⟨hn, h.cells⟩

/-- An element is written. -/
theorem Wr.store {e : TypeId} {w : World} {A B : Option Addr} {n m i : Nat} {vs : List Value} {φ : World → Prop} (h : Wr e sz w A n) (hi : i < n) (hB : Wr e sz w B m) (hv : vs.length = sz) (hc : (vs.all isCell) = true)
    (hφ : ∀ w', Wr e sz w' A n → Wr e sz w' B m → Keep (blk A) w w' → φ w') : ∃ p, A = some p ∧ storeRow (p.add (i * sz)) 0 vs w φ := by
  obtain ⟨b, cs, rfl, hb, hl⟩ := h i hi
  refine ⟨_, rfl, ?_⟩
  have e : (Addr.mk b 0 none).add (i * sz) = ⟨b, i * sz, none⟩ := by rw [add_mk]; simp
  rw [e]
  exact storeRow_block hb (by omega) hc fun w' hw hk hs => hφ w' (h.set hb hw (setFrom_size ..) hk) (hB.set hb hw (setFrom_size ..) hk) (hk.mono fun k _ h => blk_some.2 h)
end
end Go.Rd
