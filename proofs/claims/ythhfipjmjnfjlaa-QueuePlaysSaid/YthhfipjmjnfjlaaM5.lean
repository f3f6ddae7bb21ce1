/- Slices made of zeros. -/
import Derived.Test.YthhfipjmjnfjlaaM4
namespace Go.Rd
open Go.RowKit
set_option linter.unusedVariables false
set_option linter.unusedSimpArgs false
section
variable {P : Program}

/-- 'make([]T, c)', elements of one cell. -/
theorem make_full {t e bytes : Nat} {z : Value} (hT : SliceOf P t e 1 bytes z) (hz1 : z.cells = #[z]) {w : World} {c : Int} (h0 : 0 ≤ c) (h1 : c * bytes ≤ 281474976710656) (h63 : c ≤ 9223372036854775807) :
    ∃ w', (Instr.makeSlice t (.int .i64 c) (.int .i64 c)).run P w = .ok (.slice (some ⟨w.heap.size, 0, none⟩) c.toNat c.toNat) w' ∧ Own e 1 w' (some ⟨w.heap.size, 0, none⟩) c.toNat (List.replicate c.toNat z) ∧ Ext w w' ∧ w'.heap.size = w.heap.size + 1 := by
  obtain ⟨i, hi, hz, hsz, hby⟩ := hT.get
  have e1 : IntKind.i64.wrap c = c := wrap64_id h0 h63
  have hc : ¬ (c < 0) := by omega
  have hb : ¬ ((bytes : Int) * c > 281474976710656) := by rw [Int.mul_comm]; omega
  have hs : (sizeOf e).run P w = .ok 1 w := by simp [sizeOf, typeInfo, program, hi, Sem.run, bind, Sem.bind, pure, hsz]
  have hv : (zeroValue e).run P w = .ok z w := by simp [zeroValue, typeInfo, program, hi, Sem.run, bind, Sem.bind, pure, hz]
  have fin : ∀ cs : Array Value, cs.toList = List.replicate c.toNat z → (Instr.makeSlice t (.int .i64 c) (.int .i64 c)).run P w = .ok (.slice (some ⟨w.heap.size, 0, none⟩) c.toNat c.toNat) (w.alloc (.cells cs e)) →
      ∃ w', (Instr.makeSlice t (.int .i64 c) (.int .i64 c)).run P w = .ok (.slice (some ⟨w.heap.size, 0, none⟩) c.toNat c.toNat) w' ∧ Own e 1 w' (some ⟨w.heap.size, 0, none⟩) c.toNat (List.replicate c.toNat z) ∧ Ext w w' ∧ w'.heap.size = w.heap.size + 1 :=
    fun cs hl hr => ⟨_, hr, .inr ⟨_, [], rfl, by rw [List.append_nil, ← hl]; simpa using hp_new w (.cells cs e), by simp⟩, Ext.alloc w _, size_alloc w _⟩
  by_cases hn : c.toNat = 0
  · refine fin ((Array.range (c.toNat * 1)).map fun _ => default) (by simp [hn]) ?_
    simp only [Instr.makeSlice, Sem.run_bind, run_und hT.und, Result.andThen_ok, asInt, asIntOf, Sem.run_pure, typeInfo]
    simp only [Sem.run_bind, Sem.run_pure, Result.andThen_ok, e1]
    simp [hi, hby, hc, hb, askRoom, hs, hn, newRow]
  · refine fin ((Array.range (c.toNat * 1)).map (z.cells[· % z.cells.size]!)) ?_ ?_
    · apply List.ext_getElem
      · simp
      · intro k h1 h2
        simp [hz1, Nat.mod_one]
    simp only [Instr.makeSlice, Sem.run_bind, run_und hT.und, Result.andThen_ok, asInt, asIntOf, Sem.run_pure, typeInfo]
    simp only [Sem.run_bind, Sem.run_pure, Result.andThen_ok, e1]
    simp [hi, hby, hc, hb, askRoom, hs, hn, hv, newRow]
end
end Go.Rd
