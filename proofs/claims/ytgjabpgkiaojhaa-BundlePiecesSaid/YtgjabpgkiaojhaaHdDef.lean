/- A link in its block; numbers, protocol fields and pieces' headers as bytes. -/
import Derived.Test.YtgjabpgkiaojhaaWJoin2
import Derived.Test.YtgjabpgkiaojhaaWRPut
import Derived.Test.YtgjabpgkiaojhaaM7
import Derived.Test.YtgjabpgkiaojhaaFDef
namespace Go.Proofs.Ytgjabpgkiaojhaa
open Go.Rd Go.RowKit
set_option linter.unusedVariables false
set_option linter.unusedSimpArgs false

def LAt (w : World) (b : Nat) (k : Lnk) : Prop := w.heap[b]? = some (.cells #[.bool k.ac, .bool k.pf, .int .i64 k.mp] 23 (0, 0))
theorem LAt.ext {w w' : World} {b : Nat} {k : Lnk} (h : LAt w b k) (x : Ext w w') : LAt w' b k := x.heap h
theorem LAt.c0 {w : World} {b : Nat} {k : Lnk} (h : LAt w b k) : w.cell? ⟨b, 0, none⟩ = some (.bool k.ac) := (cell_of h).trans rfl
theorem LAt.c1 {w : World} {b : Nat} {k : Lnk} (h : LAt w b k) : w.cell? ((Addr.mk b 0 none).add 1) = some (.bool k.pf) := by rw [add_mk]; exact (cell_of h).trans rfl
theorem LAt.c2 {w : World} {b : Nat} {k : Lnk} (h : LAt w b k) : w.cell? ((Addr.mk b 0 none).add 2) = some (.int .i64 k.mp) := by rw [add_mk]; exact (cell_of h).trans rfl
theorem LAt.rd {w : World} {b : Nat} {k : Lnk} (h : LAt w b k) {P : Bool → Bool → Int → Prop} (hp : P k.ac k.pf k.mp) : ∃ t0 : Bool, w.cell? ⟨b, 0, none⟩ = some (.bool t0) ∧ ∃ t1 : Bool, w.cell? ((Addr.mk b 0 none).add 1) = some (.bool t1) ∧ ∃ t2 : Int, w.cell? ((Addr.mk b 0 none).add 2) = some (.int .i64 t2) ∧ P t0 t1 t2 :=
  ⟨_, h.c0, _, h.c1, _, h.c2, hp⟩
theorem LAt.rdS {S : World → Prop} {b : Nat} {k : Lnk} (h : ∀ u, S u → LAt u b k) {P : Bool → Bool → Int → Prop} (hp : P k.ac k.pf k.mp) :
    ∃ t0 : Bool, (∀ u : World, S u → u.cell? ⟨b, 0, none⟩ = some (.bool t0)) ∧ ∃ t1 : Bool, (∀ u : World, S u → u.cell? ((Addr.mk b 0 none).add 1) = some (.bool t1)) ∧ ∃ t2 : Int, (∀ u : World, S u → u.cell? ((Addr.mk b 0 none).add 2) = some (.int .i64 t2)) ∧ P t0 t1 t2 :=
  ⟨_, fun u hu => (h u hu).c0, _, fun u hu => (h u hu).c1, _, fun u hu => (h u hu).c2, hp⟩

/-! ## Numbers -/

/-- A number in so many bytes. -/
def fieldB (s v : Int) : List Int := putL s.toNat (List.replicate s.toNat 0) 0 v
theorem fieldB_length (s v : Int) : (fieldB s v).length = s.toNat := by rw [fieldB, putL_length]; simp
theorem zeros_map (n : Nat) : List.replicate n (Value.int .u8 0) = (List.replicate n (0 : Int)).map (Value.int .u8) := by simp
theorem made_put {w : World} {s v : Int} (hs : s = 1 ∨ s = 2 ∨ s = 4) :
    ∃ A w', (Instr.makeSlice 24 (.int .i64 s) (.int .i64 s)).run Try.prog w = .ok (.slice A s.toNat s.toNat) w' ∧ IBytes w' A s.toNat (List.replicate s.toNat 0) ∧ Ext w w' := by
  obtain ⟨w', hr, o, x, _⟩ := make_full slBytes rfl (w := w) (c := s) (by omega) (by omega) (by omega)
  refine ⟨_, w', hr, ?_, x⟩
  rw [zeros_map] at o
  exact o.rd (by simp)
theorem put_made {w w' : World} {s v : Int} (hs : s = 1 ∨ s = 2 ∨ s = 4) {u : Value} (h : PutOf w s.toNat (List.replicate s.toNat 0) 0 s v u w') :
    ∃ A c, u = .tuple #[.slice A s.toNat c, .bool true] ∧ OBytes w' A c (fieldB s v) ∧ (∀ k, blk A k → w.heap.size ≤ k) ∧ Ext w w' := by
  unfold PutOf at h
  rw [if_pos (fitsB_iff.2 ⟨hs, by omega, by omega⟩)] at h
  obtain ⟨A, c, e, o, _, b, x⟩ := h
  exact ⟨A, c, e, o, b, x⟩
theorem rbytes_spec {w : World} {v s : Int} (hs : s = 1 ∨ s = 2 ∨ s = 4) : Run Try.prog 44 #[.int .u32 v, .int .i64 s] w fun u w' => NewBytes w w' u s.toNat (fieldB s v) := by
  obtain ⟨M, w1, hr, im, x1⟩ := made_put (v := v) (w := w) hs
  refine ref1_Bytes.ok ⟨_, w1, hr, M, _, _, rfl, (rput_spec im (by omega)).mono ?_⟩
  intro u w2 hput
  obtain ⟨B, bc, rfl, o2, b2, x2⟩ := put_made hs hput
  exact ⟨B, _, bc, true, rfl, B, bc, rfl, o2, fieldB_length .., fun k hk => by have := b2 k hk; have := x1.size; omega, x1.trans x2⟩
def protoB (k : Lnk) (plain : Bool) (p : Int) : List Int := if k.pf = true ∧ plain = false ∧ p < 256 then [IntKind.u8.wrap p] else fieldB 2 p
theorem protoB_length (k : Lnk) (plain : Bool) (p : Int) : (protoB k plain p).length ≤ 2 := by
  unfold protoB
  split
  · show 1 ≤ 2; decide
  · rw [fieldB_length]; decide
theorem NewBytes.more {W w w' : World} {v : Value} {n : Nat} {xs : List Int} (h : NewBytes w w' v n xs) (x : Ext W w) : NewBytes W w' v n xs := by
  obtain ⟨A, c, e, o, l, b, x1⟩ := h
  exact ⟨A, c, e, o, l, fun k hk => by have := b k hk; have := x.size; omega, x.trans x1⟩

def headSize (k : Lnk) : Int := if k.mp = 2 then 4 else 2
def headNum (k : Lnk) (bg en : Bool) (sq : Int) : Int :=
  let top : Int := if k.mp = 2 then 2147483648 else 32768
  let mid : Int := if k.mp = 2 then 1073741824 else 16384
  let h := if bg = true then orI .u32 sq top else sq
  if en = true then orI .u32 h mid else h
def headB (k : Lnk) (bg en : Bool) (sq : Int) : List Int := fieldB (headSize k) (headNum k bg en sq)
section
variable {w : World} {k : Lnk} {bg en : Bool} {sq : Int}
theorem head_spec : Run Try.prog 28 #[.agg #[.bool k.ac, .bool k.pf, .int .i64 k.mp], .bool bg, .bool en, .int .u32 sq] w fun v w' => NewBytes w w' v (headSize k).toNat (headB k bg en sq) := by
  refine ref8_Head.ok (letA fun w1 h1 x1 s1 => ?_)
  have hk : LAt w1 w.heap.size k := h1
  have last : ∀ (q s : Int), (s = 2 ∨ s = 4) → s = headSize k → q = headNum k bg en sq → ref8_Head.J2 (fun v w' => NewBytes w w' v (headSize k).toNat (headB k bg en sq)) q s w1 := by
    intro q s hs h1 h2
    subst h1 h2
    refine (rbytes_spec (by omega)).mono ?_
    rintro v w2 hv
    have := hv.more x1
    obtain ⟨A, c, rfl, _⟩ := id hv
    exact ⟨_, _, _, rfl, this⟩
  have four : k.mp = 2 → headSize k = 4 := fun h => if_pos h
  have two : k.mp ≠ 2 → headSize k = 2 := fun h => if_neg h
  refine ⟨_, hk.c2, ifP_beq.2 ⟨fun h => ⟨by decide, ?_⟩, fun h => ⟨by decide, ?_⟩⟩⟩
  · refine ifP_of (fun hb => ifP_of (fun he => last _ _ (by omega) (four h).symm ?_) fun he => last _ _ (by omega) (four h).symm ?_) fun hb => ifP_of (fun he => last _ _ (by omega) (four h).symm ?_) fun he => last _ _ (by omega) (four h).symm ?_
    all_goals simp only [headNum, hb, he, h]; rfl
  · refine ifP_of (fun hb => ifP_of (fun he => last _ _ (by omega) (two h).symm ?_) fun he => last _ _ (by omega) (two h).symm ?_) fun hb => ifP_of (fun he => last _ _ (by omega) (two h).symm ?_) fun he => last _ _ (by omega) (two h).symm ?_
    all_goals simp only [headNum, hb, he, if_neg h]; rfl
end
end Go.Proofs.Ytgjabpgkiaojhaa
