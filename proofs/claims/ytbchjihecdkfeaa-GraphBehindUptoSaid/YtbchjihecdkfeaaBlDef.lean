/- Blocks of a graph, in memory. -/
import Derived.Test.YtbchjihecdkfeaaHInsns
import Derived.Test.YtbchjihecdkfeaaM7
import Derived.Test.YtbchjihecdkfeaaCK2
namespace Go.Proofs.Ytbchjihecdkfeaa
open Go.Rd Go.RowKit
set_option linter.unusedVariables false
set_option linter.unusedSimpArgs false

structure Blk where
  code : List Ins
  e : Int
  last : Ins
  yes : Int
  no : Int
  deriving DecidableEq
/-- A block, and where its code lies. -/
structure BP where
  A : Option Addr
  n : Nat
  c : Nat
  b : Blk
def BP.v (p : BP) : List Value := [.slice p.A p.n p.c, .int .i64 p.b.e, .int .u16 p.b.last.c, .int .u8 p.b.last.t, .int .u8 p.b.last.f, .int .u32 p.b.last.k, .int .i64 p.b.yes, .int .i64 p.b.no]
theorem BP.len (p : BP) : p.v.length = 8 := rfl
theorem BP.isCell (ps : List BP) : (ps.flatMap BP.v).all isCell = true := by
  rw [List.all_eq_true]
  intro x hx
  obtain ⟨p, _, hp⟩ := List.mem_flatMap.1 hx
  simp only [BP.v, List.mem_cons, List.not_mem_nil, or_false] at hp
  rcases hp with rfl | rfl | rfl | rfl | rfl | rfl | rfl | rfl <;> rfl
theorem slBlocks : SliceOf Try.prog 22 49 8 56 (.agg #[.slice none 0 0, .int .i64 0, .int .u16 0, .int .u8 0, .int .u8 0, .int .u32 0, .int .i64 0, .int .i64 0]) := ⟨by kernel_rfl, by kernel_rfl, rfl, by decide⟩

/-- What is told of one block: its numbers are numbers of their kinds. -/
structure Blk.ok (b : Blk) : Prop where
  code : Inss b.code
  last : b.last.ok
  e : -9223372036854775808 ≤ b.e ∧ b.e ≤ 9223372036854775807
  yes : -9223372036854775808 ≤ b.yes ∧ b.yes ≤ 9223372036854775807
  no : -9223372036854775808 ≤ b.no ∧ b.no ≤ 9223372036854775807

/-- Blocks that are read. -/
structure IBl (w : World) (A : Option Addr) (n : Nat) (ps : List BP) : Prop where
  rd : RdM BP.v w A n ps
  code : ∀ p ∈ ps, IInsns w p.A p.n p.b.code
section
variable {w w' : World} {A : Option Addr} {n : Nat} {ps : List BP}
theorem IBl.len (h : IBl w A n ps) : ps.length = n := h.rd.len
theorem IBl.ext (h : IBl w A n ps) (x : Go.Rd.Ext w w') : IBl w' A n ps := ⟨RdM.ext h.rd x, fun p hp => RdM.ext (h.code p hp) x⟩
/-- A block lies at a place. -/
structure At8 (w : World) (a : Addr) (p : BP) : Prop where
  s : w.cell? a = some (.slice p.A p.n p.c)
  e : w.cell? (a.add 1) = some (.int .i64 p.b.e)
  c : w.cell? (a.add 2) = some (.int .u16 p.b.last.c)
  t : w.cell? (a.add 3) = some (.int .u8 p.b.last.t)
  f : w.cell? (a.add 4) = some (.int .u8 p.b.last.f)
  k : w.cell? (a.add 5) = some (.int .u32 p.b.last.k)
  y : w.cell? (a.add 6) = some (.int .i64 p.b.yes)
  o : w.cell? (a.add 7) = some (.int .i64 p.b.no)
theorem At8.ext {a : Addr} {p : BP} (h : At8 w a p) (x : Go.Rd.Ext w w') : At8 w' a p := ⟨x.cell h.s, x.cell h.e, x.cell h.c, x.cell h.t, x.cell h.f, x.cell h.k, x.cell h.y, x.cell h.o⟩
theorem IBl.at8 (h : IBl w A n ps) {i : Nat} (hi : i < n) : ∃ a p, A = some a ∧ ps[i]? = some p ∧ At8 w (a.add (i * 8)) p := by
  obtain ⟨a, p, ha, hp, hc⟩ := RdM.at BP.len (by omega) h.rd hi
  exact ⟨a, p, ha, hp, by have := hc 0 _ rfl; rwa [add_zero] at this, hc 1 _ rfl, hc 2 _ rfl, hc 3 _ rfl, hc 4 _ rfl, hc 5 _ rfl, hc 6 _ rfl, hc 7 _ rfl⟩
/-- A block in a block of memory by itself. -/
def BAt (w : World) (b : Nat) (p : BP) : Prop := w.heap[b]? = some (.cells p.v.toArray 49 (0, 0))
theorem BAt.at8 {b : Nat} {p : BP} (h : BAt w b p) : At8 w ⟨b, 0, none⟩ p :=
  ⟨(cell_of h).trans rfl, by rw [add_mk]; exact (cell_of h).trans rfl, by rw [add_mk]; exact (cell_of h).trans rfl, by rw [add_mk]; exact (cell_of h).trans rfl, by rw [add_mk]; exact (cell_of h).trans rfl, by rw [add_mk]; exact (cell_of h).trans rfl, by rw [add_mk]; exact (cell_of h).trans rfl, by rw [add_mk]; exact (cell_of h).trans rfl⟩
end
end Go.Proofs.Ytbchjihecdkfeaa
