/- Slices: read, owned, appended to, made. -/
import Derived.Test.YthhfipjmjnfjlaaM
import Derived.Laws.Append
import Derived.Laws.AppendOwn
namespace Go.Rd
open Go.RowKit
set_option linter.unusedVariables false
set_option linter.unusedSimpArgs false

theorem addr_add (a : Addr) (i j : Nat) : (a.add i).add j = a.add (i + j) := by
  obtain ⟨b, o, s⟩ := a
  unfold Addr.add
  by_cases hi : i = 0
  · subst hi; simp
  · by_cases hj : j = 0
    · subst hj; simp [hi]
    · have : i + j ≠ 0 := by omega
      simp [hi, hj, this, Nat.add_assoc]

/-- The cells from 'A' on. -/
def RdC (w : World) (A : Option Addr) (cs : List Value) : Prop := ∀ (j : Nat) (v : Value), cs[j]? = some v → ∃ a, A = some a ∧ w.cell? (a.add j) = some v

theorem RdC.nil {w : World} {A : Option Addr} : RdC w A [] := fun j v h => by simp at h
theorem RdC.keep {S : Nat → Prop} {w w' : World} {A : Option Addr} {cs : List Value} (h : RdC w A cs) (hk : Keep S w w') (hs : ∀ a, A = some a → ¬ S a.block) : RdC w' A cs :=
  fun j v hv => let ⟨a, ha, hc⟩ := h j v hv; ⟨a, ha, hk.cell hc (by rw [add_block]; exact hs a ha)⟩
theorem RdC.ext {w w' : World} {A : Option Addr} {cs : List Value} (h : RdC w A cs) (hk : Ext w w') : RdC w' A cs := h.keep hk fun _ _ h => h
theorem RdC.take {w : World} {A : Option Addr} {cs : List Value} (h : RdC w A cs) (n : Nat) : RdC w A (cs.take n) := fun j v hv => h j v (by
  rw [List.getElem?_take] at hv; split at hv <;> simp_all)
theorem RdC.isSome {w : World} {A : Option Addr} {cs : List Value} (h : RdC w A cs) (h0 : cs ≠ []) : ∃ a, A = some a := by
  cases cs with
  | nil => exact absurd rfl h0
  | cons v cs => obtain ⟨a, ha, _⟩ := h 0 v rfl; exact ⟨a, ha⟩
theorem RdC.addr {w : World} {a : Addr} {cs : List Value} (h : RdC w (some a) cs) {j : Nat} {v : Value} (hv : cs[j]? = some v) : w.cell? (a.add j) = some v := by
  obtain ⟨a', ha, hc⟩ := h j v hv
  obtain rfl := Option.some.inj ha
  exact hc
theorem Rd.cells {α : Type} {f : α → Value} {w : World} {A : Option Addr} {n : Nat} {xs : List α} (h : Rd f w A n xs) : RdC w A (xs.map f) := fun j v hv => by
  rw [List.getElem?_map] at hv
  cases hx : xs[j]? with
  | none => rw [hx] at hv; cases hv
  | some x =>
    rw [hx] at hv
    obtain ⟨a, ha, hc⟩ := h.2 j x hx
    exact ⟨a, ha, by rw [Nat.mul_one] at hc; rw [hc]; exact hv⟩
theorem RdC.rd {α : Type} {f : α → Value} {w : World} {A : Option Addr} {n : Nat} {xs : List α} (h : RdC w A (xs.map f)) (hn : xs.length = n) : Rd f w A n xs :=
  ⟨hn, fun i x hx => by
    obtain ⟨a, ha, hc⟩ := h i (f x) (by rw [List.getElem?_map, hx]; rfl)
    exact ⟨a, ha, by rw [Nat.mul_one]; exact hc⟩⟩

/-- The slice at 'A' with so much room is the call's own, and its first cells are 'cs'. -/
def Own (e : TypeId) (sz : Nat) (w : World) (A : Option Addr) (c : Nat) (cs : List Value) : Prop :=
  (A = none ∧ c = 0 ∧ cs = []) ∨ ∃ b sp, A = some ⟨b, 0, none⟩ ∧ w.heap[b]? = some (.cells (cs ++ sp).toArray e (0, 0)) ∧ (cs ++ sp).length = c * sz

/-- The block of a slice. -/
def blk (A : Option Addr) (k : Nat) : Prop := ∃ a, A = some a ∧ a.block = k
theorem blk_some {b o : Nat} {s : Option Nat} {k : Nat} : blk (some ⟨b, o, s⟩) k ↔ k = b := ⟨fun ⟨a, ha, hk⟩ => by obtain rfl := Option.some.inj ha; exact hk.symm, fun h => ⟨_, rfl, h.symm⟩⟩
theorem blk_none {k : Nat} : ¬ blk none k := fun ⟨_, h, _⟩ => by cases h
theorem Fr.blk {W w w' : World} {A : Option Addr} (h : Fr W w) (k : Keep (blk A) w w') (hb : ∀ k, blk A k → W.heap.size ≤ k) : Fr W w' := h.step k hb

theorem Own.empty {e sz : Nat} {w : World} : Own e sz w none 0 [] := .inl ⟨rfl, rfl, rfl⟩
theorem Own.keep {e sz : Nat} {S : Nat → Prop} {w w' : World} {A : Option Addr} {c : Nat} {cs : List Value} (h : Own e sz w A c cs) (hk : Keep S w w') (hs : ∀ k, blk A k → ¬ S k) : Own e sz w' A c cs := by
  rcases h with h | ⟨b, sp, rfl, hb, hl⟩
  · exact .inl h
  · exact .inr ⟨b, sp, rfl, hk.heap hb (hs b (blk_some.2 rfl)), hl⟩
theorem Own.ext {e sz : Nat} {w w' : World} {A : Option Addr} {c : Nat} {cs : List Value} (h : Own e sz w A c cs) (hk : Ext w w') : Own e sz w' A c cs := h.keep hk fun _ _ h => h
theorem Own.lt {e sz : Nat} {w : World} {A : Option Addr} {c : Nat} {cs : List Value} (h : Own e sz w A c cs) : ∀ k, blk A k → k < w.heap.size := by
  rcases h with ⟨rfl, _⟩ | ⟨b, sp, rfl, hb, _⟩
  · exact fun k h => (blk_none h).elim
  · intro k hk; rw [blk_some.1 hk]; exact heap_lt hb
theorem Own.cells {e sz : Nat} {w : World} {A : Option Addr} {c : Nat} {cs : List Value} (h : Own e sz w A c cs) : RdC w A cs := by
  rcases h with ⟨rfl, rfl, rfl⟩ | ⟨b, sp, rfl, hb, hl⟩
  · exact RdC.nil
  · intro j v hv
    refine ⟨_, rfl, ?_⟩
    rw [add_mk, cell_of hb]
    have hj : j < cs.length := (List.getElem?_eq_some_iff.1 hv).1
    simp [List.getElem?_append_left hj, hv]
theorem Own.rd {α : Type} {f : α → Value} {e sz : Nat} {w : World} {A : Option Addr} {n c : Nat} {xs : List α} (h : Own e sz w A c (xs.map f)) (hn : xs.length = n) : Rd f w A n xs := h.cells.rd hn
theorem Own.le {e sz : Nat} {w : World} {A : Option Addr} {c : Nat} {cs : List Value} (h : Own e sz w A c cs) : cs.length ≤ c * sz := by
  rcases h with ⟨rfl, rfl, rfl⟩ | ⟨b, sp, rfl, hb, hl⟩
  · simp
  · simp at hl; omega
theorem Own.len {e sz : Nat} (h0 : 0 < sz) {w : World} {A : Option Addr} {n c : Nat} {cs : List Value} (h : Own e sz w A c cs) (hn : cs.length = n * sz) : n ≤ c := by
  have := h.le
  rw [hn] at this
  exact Nat.le_of_mul_le_mul_right this h0

section
variable {P : Program}

theorem run_und {t : TypeId} {d : TypeDesc} (h : P.underlying t = some d) (w : World) : (underlying t).run P w = .ok d w := run_underlying' h w

structure SliceOf (P : Program) (t e sz bytes : Nat) (z : Value) : Prop where
  und : P.underlying t = some (.slice e)
  info : (P.info? e).map (fun i => (i.zero, i.size, i.bytes)) = some (some z, sz, bytes)
  size : z.cells.size = sz
  pos : 0 < sz

theorem SliceOf.get {t e sz bytes : Nat} {z : Value} (h : SliceOf P t e sz bytes z) : ∃ i, P.info? e = some i ∧ i.zero = some z ∧ i.size = sz ∧ i.bytes = bytes := by
  have := h.info
  cases hi : P.info? e with
  | none => simp [hi] at this
  | some i => simp [hi] at this; exact ⟨i, rfl, this.1, this.2.1, this.2.2⟩

theorem run_firstCells {w : World} {sz n len cap : Nat} {A : Option Addr} {cs : List Value} (h : RdC w A cs) (hl : cs.length = n * sz) (hz : 0 < sz) :
    (Builtin.firstCells sz n (.slice A len cap)).run P w = .ok cs.toArray w := by
  cases A with
  | none =>
    have : cs = [] := by
      cases cs with
      | nil => rfl
      | cons v cs => obtain ⟨a, ha, _⟩ := h 0 v rfl; cases ha
    subst this
    simp [Builtin.firstCells]
  | some a => exact run_firstCells_some (P := P) w sz n a len cap cs hl (fun j v hv => h.addr hv)

theorem run_storeCells_own {b e : Nat} : ∀ {vs : List Value} {off i : Nat} {pre suf : List Value} {w : World}, pre.length = off + i → vs.length ≤ suf.length →
    w.heap[b]? = some (.cells (pre ++ suf).toArray e (0, 0)) → (vs.all isCell) = true →
    ∃ w', (storeCells ⟨b, off, none⟩ vs i).run P w = .ok () w' ∧ w'.heap[b]? = some (.cells (pre ++ vs ++ suf.drop vs.length).toArray e (0, 0)) ∧ Keep (· = b) w w' ∧ w'.heap.size = w.heap.size
  | [], off, i, pre, suf, w, hp, hs, hb, hv => ⟨w, by simp [storeCells], by simpa using hb, Keep.refl w, rfl⟩
  | v :: vs, off, i, pre, suf, w, hp, hs, hb, hv => by
    simp only [List.all_cons, Bool.and_eq_true] at hv
    cases suf with
    | nil => simp at hs
    | cons u suf =>
      have h1 := hp_set (i := off + i) (v := v) hb
      have e1 : ((pre ++ u :: suf).toArray.setIfInBounds (off + i) v) = (pre ++ [v] ++ suf).toArray := by
        simp [hp, List.set_append]
      rw [e1] at h1
      obtain ⟨w', hr, hw', hk, hz⟩ := run_storeCells_own (vs := vs) (off := off) (i := i + 1) (pre := pre ++ [v]) (suf := suf) (by simp; omega) (by simp at hs; omega) h1 hv.2
      refine ⟨w', ?_, ?_, (Keep.setCell (S := (· = b)) v rfl).trans' hk, by rw [hz, size_setCell]⟩
      · simp only [storeCells, Sem.run_bind]
        have c1 : w.cell? ((Addr.mk b off none).add i) = some u := by rw [add_mk, cell_of hb]; simp [← hp]
        have c2 : w.frozen? ((Addr.mk b off none).add i) = false := by rw [add_mk]; exact frozen_of hb
        have c3 : (store ((Addr.mk b off none).add i) v).run P w = .ok () (w.setCell ⟨b, off + i, none⟩ v) := by
          rw [← add_mk]
          cases v <;> first | (simp [isCell] at hv; done) | simp [store, Sem.run, c1, c2]
        rw [c3]
        exact hr
      · simpa using hw'

/-- 'append': in place where there is room, else in a new block. -/
theorem append_cases {t e sz bytes : Nat} {z : Value} (hT : SliceOf P t e sz bytes z) {w : World} {A B : Option Addr} {n c m d ty : Nat} {cs ys : List Value}
    (hO : Own e sz w A c cs) (hn : cs.length = n * sz) (hB : RdC w B ys) (hm : ys.length = m * sz) (hys : ys.all isCell = true)
    (hlim : (n + m) * bytes ≤ 140737488355328) (h63 : n + m ≤ 9223372036854775807) :
    (n + m ≤ c ∧ ∃ w', (Builtin.append_ #[t, t] ty #[.slice A n c, .slice B m d]).run P w = .ok (.slice A (n + m) c) w' ∧ Own e sz w' A c (cs ++ ys) ∧ Keep (blk A) w w' ∧ w'.heap.size = w.heap.size) ∨
    (c < n + m ∧ ∃ c' w', (Builtin.append_ #[t, t] ty #[.slice A n c, .slice B m d]).run P w = .ok (.slice (some ⟨w.heap.size, 0, none⟩) (n + m) c') w' ∧ Own e sz w' (some ⟨w.heap.size, 0, none⟩) c' (cs ++ ys) ∧ n + m ≤ c' ∧ Ext w w' ∧ w'.heap.size = w.heap.size + 1) := by
  obtain ⟨i, hi, hz, hsz, hby⟩ := hT.get
  have hz0 := hT.pos
  by_cases hroom : n + m ≤ c
  · refine .inl ⟨hroom, ?_⟩
    rcases hO with ⟨rfl, rfl, rfl⟩ | ⟨b, sp, rfl, hb, hl⟩
    · obtain ⟨rfl, rfl⟩ : n = 0 ∧ m = 0 := by omega
      have : ys = [] := List.length_eq_zero_iff.1 (by simpa using hm)
      subst this
      refine ⟨w, ?_, .inl ⟨rfl, rfl, rfl⟩, Keep.refl w, rfl⟩
      have hf := run_firstCells (P := P) (n := 0) (len := 0) (cap := d) hB (by simp) hz0
      simp [Builtin.append_, run_und hT.und, sizeOf, typeInfo, hi, hsz, Builtin.lenOf, hf]
    · have hcs : cs.length = n * sz := hn
      have hle : ys.length ≤ sp.length := by
        have h1 : (n + m) * sz ≤ c * sz := Nat.mul_le_mul_right _ hroom
        rw [List.length_append, hn] at hl
        rw [Nat.add_mul] at h1
        omega
      obtain ⟨w', hr, hw', hk, hs⟩ := run_storeCells_own (P := P) (vs := ys) (off := n * sz) (i := 0) (pre := cs) (suf := sp) (by omega) hle hb hys
      refine ⟨w', ?_, .inr ⟨b, sp.drop ys.length, rfl, hw', ?_⟩, hk.mono fun k _ h => blk_some.2 h, hs⟩
      · have hf := run_firstCells (P := P) (n := m) (len := m) (cap := d) hB hm hz0
        have ha : (Addr.mk b 0 none).add (n * sz) = ⟨b, n * sz, none⟩ := by rw [add_mk]; simp
        simp [Builtin.append_, run_und hT.und, sizeOf, typeInfo, hi, hsz, Builtin.lenOf, hroom, hf, ha, hr]
      · simp only [List.length_append, List.length_drop] at hl ⊢
        omega
  · have hf := run_firstCells (P := P) (w := w.drew) (n := m) (len := m) (cap := d) (hB.ext (Ext.drew w)) hm hz0
    have hfo := run_firstCells (P := P) (w := w.drew) (n := n) (len := n) (cap := c) (hO.cells.ext (Ext.drew w)) hn hz0
    have h63' : ¬ (9223372036854775807 < ((n : Int) + (m : Int))) := by omega
    have hfit := growslice_fits (bytes := bytes) (Nat.not_le.1 hroom) hlim
    have h48' : ¬ (281474976710656 < Builtin.nextslicecap (n + m) c * bytes) := by omega
    have hcap := grownCap_ge w (n + m) c e
    generalize hg : grownCap w (n + m) c e = cap at *
    have hnew := hp_new w.drew (.cells ((cs ++ ys) ++ (Builtin.zeroCells z.cells (cap - (n + m))).toList).toArray e)
    refine .inr ⟨Nat.not_le.1 hroom, cap, w.drew.alloc (.cells ((cs ++ ys) ++ (Builtin.zeroCells z.cells (cap - (n + m))).toList).toArray e), ?_, .inr ⟨_, _, rfl, hnew, ?_⟩, hcap, (Ext.drew w).trans (Ext.alloc _ _), size_alloc _ _⟩
    · unfold grownCap at hg
      simp [Builtin.append_, run_und hT.und, sizeOf, typeInfo, zeroValue, hi, hz, hsz, hby, Builtin.lenOf, hroom, h63', h48', Question.forced, hf, hfo, newRow, hg]
      congr 2
      apply Array.ext'
      simp
    · simp only [List.length_append, Array.length_toList, size_zeroCells, hn, hm, hT.size]
      rw [← Nat.add_mul, ← Nat.add_mul]
      congr 1
      omega

theorem append_own {t e sz bytes : Nat} {z : Value} (hT : SliceOf P t e sz bytes z) {w : World} {A B : Option Addr} {n c m d ty : Nat} {cs ys : List Value}
    (hO : Own e sz w A c cs) (hn : cs.length = n * sz) (hB : RdC w B ys) (hm : ys.length = m * sz) (hys : ys.all isCell = true)
    (hlim : (n + m) * bytes ≤ 140737488355328) (h63 : n + m ≤ 9223372036854775807) :
    ∃ A' c' w', (Builtin.append_ #[t, t] ty #[.slice A n c, .slice B m d]).run P w = .ok (.slice A' (n + m) c') w' ∧ Own e sz w' A' c' (cs ++ ys) ∧ n + m ≤ c' ∧ Keep (blk A) w w' ∧
      (∀ k, blk A' k → blk A k ∨ w.heap.size ≤ k) := by
  rcases append_cases hT (ty := ty) (d := d) hO hn hB hm hys hlim h63 with ⟨hr, w', h, hO', hk, _⟩ | ⟨hr, c', w', h, hO', hc, hx, _⟩
  · exact ⟨A, c, w', h, hO', hr, hk, fun k hk => .inl hk⟩
  · exact ⟨_, c', w', h, hO', hc, Keep.ext hx, fun k hk => .inr (by rw [blk_some.1 hk]; exact Nat.le_refl _)⟩
end

theorem subA_zero {A : Option Addr} {c sz : Nat} : subA A c 0 sz = A := by
  unfold subA
  split
  · rfl
  · rw [Nat.zero_mul]
    cases A <;> rfl

theorem RdC.drop {w : World} {A : Option Addr} {cs : List Value} (h : RdC w A cs) (n : Nat) {c : Nat} (hn : n < c) : RdC w (subA A c n 1) (cs.drop n) := fun j v hv => by
  rw [List.getElem?_drop] at hv
  obtain ⟨a, rfl, hc⟩ := h _ _ hv
  refine ⟨a.add n, ?_, by rw [addr_add]; exact hc⟩
  unfold subA
  rw [if_neg (by omega), Nat.mul_one]
  rfl

/-- So many elements may be written. -/
def Wr (e sz : Nat) (w : World) (A : Option Addr) (n : Nat) : Prop :=
  ∀ i, i < n → ∃ b cs, A = some ⟨b, 0, none⟩ ∧ w.heap[b]? = some (.cells cs e (0, 0)) ∧ i * sz + sz ≤ cs.size

theorem Own.wr {e sz : Nat} {w : World} {A : Option Addr} {n c : Nat} {cs : List Value} (h0 : 0 < sz) (h : Own e sz w A c cs) (hn : cs.length = n * sz) : Wr e sz w A n := by
  intro i hi
  have h1 : (i + 1) * sz ≤ n * sz := Nat.mul_le_mul_right _ hi
  rw [Nat.add_mul, Nat.one_mul] at h1
  rcases h with ⟨rfl, rfl, rfl⟩ | ⟨b, sp, rfl, hb, hl⟩
  · have := Nat.mul_pos (show 0 < n by omega) h0
    simp at hn; omega
  · exact ⟨b, _, rfl, hb, by simp; omega⟩
theorem Wr.keep {e sz : Nat} {S : Nat → Prop} {w w' : World} {A : Option Addr} {n : Nat} (h : Wr e sz w A n) (hk : Keep S w w') (hs : ∀ k, blk A k → ¬ S k) : Wr e sz w' A n := fun i hi =>
  let ⟨b, cs, hA, hb, hl⟩ := h i hi; ⟨b, cs, hA, hk.heap hb (hs b (by rw [hA]; exact blk_some.2 rfl)), hl⟩
theorem Wr.set {e sz : Nat} {w w' : World} {A : Option Addr} {n b : Nat} {cs cs' : Array Value} {t : TypeId} (h : Wr e sz w A n) (hb : w.heap[b]? = some (.cells cs t (0, 0))) (hb' : w'.heap[b]? = some (.cells cs' t (0, 0)))
    (hs : cs'.size = cs.size) (hk : Keep (· = b) w w') : Wr e sz w' A n := fun i hi => by
  obtain ⟨b2, cs2, hA, h2, hl⟩ := h i hi
  by_cases he : b2 = b
  · subst he
    rw [hb] at h2
    have h2 := Option.some.inj h2
    injection h2 with e1 e2 e3
    subst e1
    subst e2
    exact ⟨b2, cs', hA, hb', by omega⟩
  · exact ⟨b2, cs2, hA, hk.heap h2 he, hl⟩
end Go.Rd
