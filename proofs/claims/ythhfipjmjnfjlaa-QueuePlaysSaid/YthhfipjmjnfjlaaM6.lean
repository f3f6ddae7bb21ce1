/- Slices that were cut at their front: owned, appended to, cut again. -/
import Derived.Test.YthhfipjmjnfjlaaM5
namespace Go.Rd
open Go.RowKit
set_option linter.unusedVariables false
set_option linter.unusedSimpArgs false

/-- The slice at 'A' with so much room, somewhere in a block, is the call's own, and its first cells are 'cs'. -/
def OwnS (e : TypeId) (sz : Nat) (w : World) (A : Option Addr) (c : Nat) (cs : List Value) : Prop :=
  (c = 0 ∧ cs = []) ∨ ∃ b pre sp, A = some ⟨b, List.length pre, none⟩ ∧ w.heap[b]? = some (.cells (pre ++ (cs ++ sp)).toArray e (0, 0)) ∧ (cs ++ sp).length = c * sz
/-- Its block, if it has room. -/
def blkC (A : Option Addr) (c k : Nat) : Prop := 0 < c ∧ blk A k

theorem Own.s {e sz : Nat} {w : World} {A : Option Addr} {c : Nat} {cs : List Value} (h : Own e sz w A c cs) : OwnS e sz w A c cs := by
  rcases h with ⟨_, hc, hcs⟩ | ⟨b, sp, hA, hb, hl⟩
  · exact .inl ⟨hc, hcs⟩
  · exact .inr ⟨b, [], sp, hA, hb, hl⟩
theorem OwnS.keep {e sz : Nat} {S : Nat → Prop} {w w' : World} {A : Option Addr} {c : Nat} {cs : List Value} (h : OwnS e sz w A c cs) (hk : Keep S w w') (hs : ∀ k, blkC A c k → ¬ S k) : OwnS e sz w' A c cs := by
  rcases h with h | ⟨b, pre, sp, rfl, hb, hl⟩
  · exact .inl h
  · by_cases h0 : 0 < c
    · exact .inr ⟨b, pre, sp, rfl, hk.heap hb (hs b ⟨h0, blk_some.2 rfl⟩), hl⟩
    · have hc : c = 0 := by omega
      subst hc
      simp at hl
      exact .inl ⟨rfl, hl.1⟩
theorem OwnS.ext {e sz : Nat} {w w' : World} {A : Option Addr} {c : Nat} {cs : List Value} (h : OwnS e sz w A c cs) (hk : Ext w w') : OwnS e sz w' A c cs := h.keep hk fun _ _ h => h
theorem OwnS.cells {e sz : Nat} {w : World} {A : Option Addr} {c : Nat} {cs : List Value} (h : OwnS e sz w A c cs) : RdC w A cs := by
  rcases h with ⟨_, rfl⟩ | ⟨b, pre, sp, rfl, hb, hl⟩
  · exact RdC.nil
  · intro j v hv
    refine ⟨_, rfl, ?_⟩
    rw [add_mk, cell_of hb]
    have hj := (List.getElem?_eq_some_iff.1 hv).1
    simp [List.getElem?_append_right, List.getElem?_append_left hj, hv]
theorem OwnS.lt {e sz : Nat} {w : World} {A : Option Addr} {c : Nat} {cs : List Value} (h : OwnS e sz w A c cs) : ∀ k, blkC A c k → k < w.heap.size := by
  rintro k ⟨h0, hk⟩
  rcases h with ⟨hc, _⟩ | ⟨b, pre, sp, rfl, hb, hl⟩
  · omega
  · rw [blk_some.1 hk]
    exact (Array.getElem?_eq_some_iff.1 hb).1
theorem OwnS.le {e sz : Nat} {w : World} {A : Option Addr} {c : Nat} {cs : List Value} (h : OwnS e sz w A c cs) : cs.length ≤ c * sz := by
  rcases h with ⟨rfl, rfl⟩ | ⟨b, pre, sp, rfl, hb, hl⟩
  · simp
  · rw [List.length_append] at hl; omega
/-- The slice behind its first element. -/
theorem OwnS.tail {e : Nat} {w : World} {A : Option Addr} {c : Nat} {v : Value} {cs : List Value} (h : OwnS e 1 w A c (v :: cs)) : OwnS e 1 w (subA A c 1 1) (c - 1) cs ∧ ∀ k, blkC (subA A c 1 1) (c - 1) k → blkC A c k := by
  have hle := h.le
  rw [List.length_cons] at hle
  rcases h with ⟨_, hc⟩ | ⟨b, pre, sp, rfl, hb, hl⟩
  · cases hc
  · by_cases h1 : c = 1
    · subst h1
      refine ⟨.inl ⟨rfl, List.length_eq_zero_iff.1 (by omega)⟩, fun k hk => absurd hk.1 (by omega)⟩
    · have e1 : subA (some ⟨b, pre.length, none⟩) c 1 1 = some ⟨b, (pre ++ [v]).length, none⟩ := by
        unfold subA
        rw [if_neg h1]
        show some (Addr.add _ _) = _
        rw [add_mk]
        simp
      rw [e1]
      refine ⟨.inr ⟨b, pre ++ [v], sp, rfl, ?_, ?_⟩, fun k hk => ⟨by omega, blk_some.2 (blk_some.1 hk.2)⟩⟩
      · rw [hb]; simp
      · simp only [List.length_append, List.length_cons] at hl ⊢
        omega

section
variable {P : Program}
/-- 'append', over such a slice: in place where there is room, else in a new block. -/
theorem append_casesS {t e sz bytes : Nat} {z : Value} (hT : SliceOf P t e sz bytes z) {w : World} {A B : Option Addr} {n c m d ty : Nat} {cs ys : List Value}
    (hO : OwnS e sz w A c cs) (hn : cs.length = n * sz) (hB : RdC w B ys) (hm : ys.length = m * sz) (hys : ys.all isCell = true)
    (hlim : (n + m) * bytes ≤ 140737488355328) (h63 : n + m ≤ 9223372036854775807) :
    (n + m ≤ c ∧ ∃ w', (Builtin.append_ #[t, t] ty #[.slice A n c, .slice B m d]).run P w = .ok (.slice A (n + m) c) w' ∧ OwnS e sz w' A c (cs ++ ys) ∧ Keep (blkC A c) w w' ∧ w'.heap.size = w.heap.size) ∨
    (c < n + m ∧ ∃ c' w', (Builtin.append_ #[t, t] ty #[.slice A n c, .slice B m d]).run P w = .ok (.slice (some ⟨w.heap.size, 0, none⟩) (n + m) c') w' ∧ OwnS e sz w' (some ⟨w.heap.size, 0, none⟩) c' (cs ++ ys) ∧ n + m ≤ c' ∧ Ext w w' ∧ w'.heap.size = w.heap.size + 1) := by
  obtain ⟨i, hi, hz, hsz, hby⟩ := hT.get
  have hz0 := hT.pos
  by_cases hroom : n + m ≤ c
  · refine .inl ⟨hroom, ?_⟩
    rcases hO with ⟨rfl, rfl⟩ | ⟨b, pre, sp, rfl, hb, hl⟩
    · obtain ⟨rfl, rfl⟩ : n = 0 ∧ m = 0 := by omega
      have : ys = [] := List.length_eq_zero_iff.1 (by simpa using hm)
      subst this
      refine ⟨w, ?_, .inl ⟨rfl, rfl⟩, Keep.refl w, rfl⟩
      have hf := run_firstCells (P := P) (n := 0) (len := 0) (cap := d) hB (by simp) hz0
      cases A <;> simp [Builtin.append_, run_und hT.und, sizeOf, typeInfo, hi, hsz, Builtin.lenOf, hf, storeCells]
    · have hcs : cs.length = n * sz := hn
      have hle : ys.length ≤ sp.length := by
        have h1 : (n + m) * sz ≤ c * sz := Nat.mul_le_mul_right _ hroom
        rw [List.length_append, hn] at hl
        rw [Nat.add_mul] at h1
        omega
      obtain ⟨w', hr, hw', hk, hs⟩ := run_storeCells_own (P := P) (e := e) (vs := ys) (off := pre.length + n * sz) (i := 0) (pre := pre ++ cs) (suf := sp) (by simp; omega) hle (by rw [hb]; simp) hys
      by_cases h0 : 0 < c
      · refine ⟨w', ?_, .inr ⟨b, pre, sp.drop ys.length, rfl, by rw [hw']; simp, ?_⟩, hk.mono fun k _ h => ⟨h0, blk_some.2 h⟩, hs⟩
        · have hf := run_firstCells (P := P) (n := m) (len := m) (cap := d) hB hm hz0
          have ha : (Addr.mk b pre.length none).add (n * sz) = ⟨b, pre.length + n * sz, none⟩ := by rw [add_mk]
          simp [Builtin.append_, run_und hT.und, sizeOf, typeInfo, hi, hsz, Builtin.lenOf, hroom, hf, ha, hr]
        · simp only [List.length_append, List.length_drop] at hl ⊢
          omega
      · obtain ⟨rfl, rfl, rfl⟩ : c = 0 ∧ n = 0 ∧ m = 0 := by omega
        have e1 : ys = [] := List.length_eq_zero_iff.1 (by simpa using hm)
        have e2 : cs = [] := List.length_eq_zero_iff.1 (by simpa using hn)
        subst e1 e2
        refine ⟨w, ?_, .inl ⟨rfl, rfl⟩, Keep.refl w, rfl⟩
        have hf := run_firstCells (P := P) (n := 0) (len := 0) (cap := d) hB (by simp) hz0
        simp [Builtin.append_, run_und hT.und, sizeOf, typeInfo, hi, hsz, Builtin.lenOf, hf, storeCells]
  · have hf := run_firstCells (P := P) (w := w.drew) (n := m) (len := m) (cap := d) (hB.ext (Ext.drew w)) hm hz0
    have hfo := run_firstCells (P := P) (w := w.drew) (n := n) (len := n) (cap := c) (hO.cells.ext (Ext.drew w)) hn hz0
    have h63' : ¬ (9223372036854775807 < ((n : Int) + (m : Int))) := by omega
    have hfit := growslice_fits (bytes := bytes) (Nat.not_le.1 hroom) hlim
    have h48' : ¬ (281474976710656 < Builtin.nextslicecap (n + m) c * bytes) := by omega
    have hcap := grownCap_ge w (n + m) c e
    generalize hg : grownCap w (n + m) c e = cap at *
    have hnew := hp_new w.drew (.cells ((cs ++ ys) ++ (Builtin.zeroCells z.cells (cap - (n + m))).toList).toArray e)
    refine .inr ⟨Nat.not_le.1 hroom, cap, w.drew.alloc (.cells ((cs ++ ys) ++ (Builtin.zeroCells z.cells (cap - (n + m))).toList).toArray e), ?_, .inr ⟨_, [], _, rfl, hnew, ?_⟩, hcap, (Ext.drew w).trans (Ext.alloc _ _), size_alloc _ _⟩
    · unfold grownCap at hg
      simp [Builtin.append_, run_und hT.und, sizeOf, typeInfo, zeroValue, hi, hz, hsz, hby, Builtin.lenOf, hroom, h63', h48', Question.forced, hf, hfo, newRow, hg]
      congr 2
      apply Array.ext'
      simp
    · simp only [List.length_append, Array.length_toList, size_zeroCells, hn, hm, hT.size]
      rw [← Nat.add_mul, ← Nat.add_mul]
      congr 1
      omega
end
end Go.Rd
