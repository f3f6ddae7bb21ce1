/- What Encode makes of instructions. -/
import Derived.Test.YtbbhjnhcdjjjeaaWPut
import Derived.Test.YtbbhjnhcdjjjeaaHInsns
import Derived.Test.YtbbhjnhcdjjjeaaM5
namespace Go.Proofs.Ytbbhjnhcdjjjeaa
open Go.Rd Go.RowKit
set_option linter.unusedVariables false
set_option linter.unusedSimpArgs false

theorem slLists : SliceOf Try.prog 54 23 1 24 (.slice none 0 0) := ⟨by kernel_rfl, by kernel_rfl, rfl, by decide⟩

/-- A number in so many bytes. -/
def fieldB (s v : Int) : List Int := putL s.toNat (List.replicate s.toNat 0) 0 v
theorem fieldB_length (s v : Int) : (fieldB s v).length = s.toNat := by rw [fieldB, putL_length]; simp
theorem fieldB_one {v : Int} (h0 : 0 ≤ v) (h1 : v ≤ 255) : fieldB 1 v = [v] := by
  show putL 1 [0] 0 v = [v]
  simp [putL]; omega
def encI (i : Ins) : List Int := fieldB 2 i.c ++ (fieldB 1 i.t ++ (fieldB 1 i.f ++ fieldB 4 i.k))
theorem encI_length (i : Ins) : (encI i).length = 8 := by simp [encI, fieldB_length]
theorem encL_length (ps : List Ins) : (ps.flatMap encI).length = 8 * ps.length := by
  induction ps with
  | nil => rfl
  | cons p ps ih => rw [List.flatMap_cons, List.length_append, ih, encI_length, List.length_cons]; omega

/-- What Encode tells. -/
def EncOf (w : World) (n : Nat) (ps : List Ins) (v : Value) (w' : World) : Prop :=
  if 4096 < n then v = .tuple #[.slice none 0 0, .int .i64 21] ∧ w' = w
  else ∃ A c, v = .tuple #[.slice A (8 * n) c, .int .i64 0] ∧ OBytes w' A c (ps.flatMap encI) ∧ (∀ k, blk A k → w.heap.size ≤ k) ∧ Ext w w'

theorem zeros_map (n : Nat) : List.replicate n (Value.int .u8 0) = (List.replicate n (0 : Int)).map (Value.int .u8) := by simp

/-- A number's bytes, in new memory. -/
theorem made_put {w : World} {s v : Int} (hs : s = 1 ∨ s = 2 ∨ s = 4) :
    ∃ A w', (Instr.makeSlice 23 (.int .i64 s) (.int .i64 s)).run Try.prog w = .ok (.slice A s.toNat s.toNat) w' ∧ IBytes w' A s.toNat (List.replicate s.toNat 0) ∧ Ext w w' := by
  obtain ⟨w', hr, o, x, _⟩ := make_full slBytes rfl (w := w) (c := s) (by omega) (by omega) (by omega)
  refine ⟨_, w', hr, ?_, x⟩
  rw [zeros_map] at o
  exact o.rd (by simp)
theorem put_made {w w' : World} {s v : Int} (hs : s = 1 ∨ s = 2 ∨ s = 4) {u : Value} (h : PutOf w s.toNat (List.replicate s.toNat 0) 0 s v u w') :
    ∃ A c, u = .tuple #[.slice A s.toNat c, .bool true] ∧ OBytes w' A c (fieldB s v) ∧ (∀ k, blk A k → w.heap.size ≤ k) ∧ Ext w w' := by
  unfold PutOf at h
  rw [if_pos (fitsB_iff.2 ⟨hs, by omega, by omega⟩)] at h
  obtain ⟨A, c, e, o, _, b, x⟩ := h
  exact ⟨A, c, e, o, b, x⟩
end Go.Proofs.Ytbbhjnhcdjjjeaa
