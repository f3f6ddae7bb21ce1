/- An instruction at a place in memory; calls of function values. -/
import Derived.Test.YtbchjihecdkfeaaHInsns
import Derived.Test.YtbchjihecdkfeaaIKnown
namespace Go.Proofs.Ytbchjihecdkfeaa
open Go.Rd Go.RowKit
set_option linter.unusedVariables false
set_option linter.unusedSimpArgs false

/-- An instruction lies at a place. -/
structure At4 (w : World) (a : Addr) (i : Ins) : Prop where
  c : w.cell? a = some (.int .u16 i.c)
  t : w.cell? (a.add 1) = some (.int .u8 i.t)
  f : w.cell? (a.add 2) = some (.int .u8 i.f)
  k : w.cell? (a.add 3) = some (.int .u32 i.k)
theorem At4.ext {w w' : World} {a : Addr} {i : Ins} (h : At4 w a i) (x : Ext w w') : At4 w' a i := ⟨x.cell h.c, x.cell h.t, x.cell h.f, x.cell h.k⟩
theorem At4.keep {S : Nat → Prop} {w w' : World} {a : Addr} {i : Ins} (h : At4 w a i) (x : Keep S w w') (hs : ¬ S a.block) : At4 w' a i :=
  ⟨x.cell h.c hs, x.cell h.t (by rw [add_block]; exact hs), x.cell h.f (by rw [add_block]; exact hs), x.cell h.k (by rw [add_block]; exact hs)⟩
theorem At4.box {w w1 : World} {i : Ins} {ty : TypeId} (h : w1.heap[w.heap.size]? = some (.cells #[.int .u16 i.c, .int .u8 i.t, .int .u8 i.f, .int .u32 i.k] ty (0, 0))) : At4 w1 (newA w) i :=
  ⟨(cell_of h).trans rfl, by rw [newA, add_mk]; exact (cell_of h).trans rfl, by rw [newA, add_mk]; exact (cell_of h).trans rfl, by rw [newA, add_mk]; exact (cell_of h).trans rfl⟩
theorem IInsns.at4 {w : World} {A : Option Addr} {n : Nat} {xs : List Ins} (h : IInsns w A n xs) {i : Nat} (hi : i < n) : ∃ a x, A = some a ∧ xs[i]? = some x ∧ At4 w (a.add (i * 4)) x := by
  obtain ⟨a, x, ha, hx, hc⟩ := RdM.at Ins.len (by omega) h hi
  exact ⟨a, x, ha, hx, by have := hc 0 _ rfl; rwa [add_zero] at this, hc 1 _ rfl, hc 2 _ rfl, hc 3 _ rfl⟩

theorem Run.dyn {g : FuncId} {fs args cs : Array Value} {all : List Value} {w : World} {R : Value → World → Prop} (e : fs.toList ++ args.toList ++ cs.toList = all) (h : Run Try.prog g all.toArray w R) : Run Try.prog g (fs ++ args ++ cs) w R := by
  have : fs ++ args ++ cs = all.toArray := by apply Array.ext'; simpa using e
  rw [this]; exact h
end Go.Proofs.Ytbchjihecdkfeaa
