/- Slices made, turned into texts. -/
import Derived.Test.YthhfipjmjnfjlaaM2
import Derived.Laws.BytesString
namespace Go.Rd
open Go.RowKit
set_option linter.unusedVariables false
set_option linter.unusedSimpArgs false
section
variable {P : Program}

theorem wrap64_id {x : Int} (h0 : 0 ≤ x) (h1 : x ≤ 9223372036854775807) : IntKind.i64.wrap x = x := wrap_i64 (by omega) h1

/-- 'make([]T, 0, c)'. -/
theorem make_zero {t e sz bytes : Nat} {z : Value} (hT : SliceOf P t e sz bytes z) {w : World} {c : Int} (h0 : 0 ≤ c) (h1 : c * bytes ≤ 281474976710656) (h63 : c ≤ 9223372036854775807) :
    ∃ w', (Instr.makeSlice t (.int .i64 0) (.int .i64 c)).run P w = .ok (.slice (some ⟨w.heap.size, 0, none⟩) 0 c.toNat) w' ∧ Own e sz w' (some ⟨w.heap.size, 0, none⟩) c.toNat [] ∧ Ext w w' ∧ w'.heap.size = w.heap.size + 1 := by
  obtain ⟨i, hi, hz, hsz, hby⟩ := hT.get
  have e0 : IntKind.i64.wrap 0 = 0 := rfl
  have e1 : IntKind.i64.wrap c = c := wrap64_id h0 h63
  have hc : ¬ (c < 0) := by omega
  have hb : ¬ ((bytes : Int) * c > 281474976710656) := by rw [Int.mul_comm]; omega
  have hs : (sizeOf e).run P w = .ok sz w := by simp [sizeOf, typeInfo, program, hi, Sem.run, bind, Sem.bind, pure, hsz]
  have hv : (zeroValue e).run P w = .ok z w := by simp [zeroValue, typeInfo, program, hi, Sem.run, bind, Sem.bind, pure, hz]
  have fin : ∀ cs : Array Value, cs.size = c.toNat * sz → (Instr.makeSlice t (.int .i64 0) (.int .i64 c)).run P w = .ok (.slice (some ⟨w.heap.size, 0, none⟩) 0 c.toNat) (w.alloc (.cells cs e)) →
      ∃ w', (Instr.makeSlice t (.int .i64 0) (.int .i64 c)).run P w = .ok (.slice (some ⟨w.heap.size, 0, none⟩) 0 c.toNat) w' ∧ Own e sz w' (some ⟨w.heap.size, 0, none⟩) c.toNat [] ∧ Ext w w' ∧ w'.heap.size = w.heap.size + 1 :=
    fun cs hl hr => ⟨_, hr, .inr ⟨_, cs.toList, rfl, by simpa using hp_new w (.cells cs e), by simpa using hl⟩, Ext.alloc w _, size_alloc w _⟩
  by_cases hn : c.toNat * sz = 0
  · refine fin ((Array.range (c.toNat * sz)).map fun _ => default) (by simp) ?_
    simp only [Instr.makeSlice, Sem.run_bind, run_und hT.und, Result.andThen_ok, asInt, asIntOf, Sem.run_pure, typeInfo]
    simp only [Sem.run_bind, Sem.run_pure, Result.andThen_ok, e0, e1]
    simp [hi, hby, hc, hb, askRoom, hs, hn, newRow]
  · refine fin ((Array.range (c.toNat * sz)).map (z.cells[· % z.cells.size]!)) (by simp) ?_
    simp only [Instr.makeSlice, Sem.run_bind, run_und hT.und, Result.andThen_ok, asInt, asIntOf, Sem.run_pure, typeInfo]
    simp only [Sem.run_bind, Sem.run_pure, Result.andThen_ok, e0, e1]
    simp [hi, hby, hc, hb, askRoom, hs, hn, hv, newRow]

/-- A text out of bytes. -/
def ofBytes (xs : List Int) : ByteArray := ⟨(xs.map fun x => UInt8.ofNat x.toNat).toArray⟩

theorem bytes_string {s d e : Nat} (hu : P.underlying s = some (.slice e)) (he : P.underlying e = some (.int .u8)) (hd : P.underlying d = some .string)
    {w : World} {A : Option Addr} {n c : Nat} {xs : List Int} (h : RdC w A (xs.map (Value.int .u8))) (hn : xs.length = n) :
    (convert s d (.slice A n c)).run P w = .ok (.string (ofBytes xs)) w := by
  have key : ∀ (l : List Int) (acc : ByteArray), (forIn (m := Sem) ((l.map (Value.int .u8)).toArray) acc fun c s => (match c with
      | .int .u8 n => pure (ForInStep.yield (s.push (UInt8.ofNat n.toNat)))
      | _ => stuck "bytesToString: byte expected" : Sem (ForInStep ByteArray))).run P w = .ok ⟨acc.data ++ (l.map fun x => UInt8.ofNat x.toNat).toArray⟩ w := by
    intro l
    induction l with
    | nil => intro acc; simp
    | cons x l ih =>
      intro acc
      have := ih (acc.push (UInt8.ofNat x.toNat))
      simp only [List.forIn_toArray, List.map_cons, List.forIn_cons, Sem.run_bind, Sem.run_pure, Result.andThen_ok] at this ⊢
      rw [this]
      congr 2
      simp [ByteArray.push]
  cases A with
  | none =>
    have : xs = [] := by
      cases xs with
      | nil => rfl
      | cons x xs => obtain ⟨a, ha, _⟩ := h 0 _ rfl; cases ha
    subst this
    simp [convert, run_und hu, run_und he, run_und hd, Conv.bytesToString]
    rfl
  | some a =>
    have hl : (loadCells a n).run P w = .ok (xs.map (Value.int .u8)).toArray w := by
      have := run_loadCells_list (P := P) w a (xs.map (Value.int .u8)) (fun j v hv => h.addr hv)
      simpa [hn] using this
    have k := key xs ByteArray.empty
    simp only [convert, Sem.run_bind, run_und hu, run_und he, run_und hd, Result.andThen_ok, Conv.bytesToString, hl]
    simp only [List.forIn_toArray] at k ⊢
    first | (erw [k]; simp [ofBytes]) | simp_all [ofBytes]
end
end Go.Rd
