/- Package bundle: how a link's pieces are laid; reading a piece. -/
import Derived.Test.YtgjabpgkiaojhaaHdLaw
import Derived.Test.YtgjabpgkiaojhaaF3
namespace Go.Proofs.Ytgjabpgkiaojhaa
open Go.Rd Go.RowKit
set_option linter.unusedVariables false
set_option linter.unusedSimpArgs false

abbrev goodK (k : Lnk) : Prop := k.mp = 1 ∨ k.mp = 2
def spaceK (k : Lnk) : Int := if k.mp = 2 then 16777216 else 4096
def kdRow (k : Lnk) : List Value := [.bool k.ac, .bool k.pf, .int .i64 k.mp, .int .i64 (headSize k), .int .u32 (spaceK k)]
def kdV (k : Lnk) : Value := .agg #[.bool k.ac, .bool k.pf, .int .i64 k.mp, .int .i64 (headSize k), .int .u32 (spaceK k)]
theorem headSize_two {k : Lnk} : headSize k = 2 ∨ headSize k = 4 := by unfold headSize; split <;> simp
theorem spaceK_two {k : Lnk} : spaceK k = 4096 ∨ spaceK k = 16777216 := by unfold spaceK; split <;> simp

/-- A kind lies in a block, from a place on. -/
structure KAt (w : World) (q : Addr) (k : Lnk) : Prop where
  c0 : w.cell? q = some (.bool k.ac)
  c1 : w.cell? (q.add 1) = some (.bool k.pf)
  c2 : w.cell? (q.add 2) = some (.int .i64 k.mp)
  c3 : w.cell? (q.add 3) = some (.int .i64 (headSize k))
  c4 : w.cell? (q.add 4) = some (.int .u32 (spaceK k))
section
variable {w w' : World} {q : Addr} {k : Lnk} {S : World → Prop}
theorem KAt.ext (h : KAt w q k) (x : Go.Rd.Ext w w') : KAt w' q k := ⟨x.cell h.c0, x.cell h.c1, x.cell h.c2, x.cell h.c3, x.cell h.c4⟩
theorem KAt.rd (h : KAt w q k) {P : Bool → Bool → Int → Int → Int → Prop} (hp : P k.ac k.pf k.mp (headSize k) (spaceK k)) :
    ∃ t0 : Bool, w.cell? q = some (.bool t0) ∧ ∃ t1 : Bool, w.cell? (q.add 1) = some (.bool t1) ∧ ∃ t2 : Int, w.cell? (q.add 2) = some (.int .i64 t2) ∧ ∃ t3 : Int, w.cell? (q.add 3) = some (.int .i64 t3) ∧ ∃ t4 : Int, w.cell? (q.add 4) = some (.int .u32 t4) ∧ P t0 t1 t2 t3 t4 :=
  ⟨_, h.c0, _, h.c1, _, h.c2, _, h.c3, _, h.c4, hp⟩
theorem KAt.rdS (h : ∀ u, S u → KAt u q k) {P : Bool → Bool → Int → Int → Int → Prop} (hp : P k.ac k.pf k.mp (headSize k) (spaceK k)) :
    ∃ t0 : Bool, (∀ u : World, S u → u.cell? q = some (.bool t0)) ∧ ∃ t1 : Bool, (∀ u : World, S u → u.cell? (q.add 1) = some (.bool t1)) ∧ ∃ t2 : Int, (∀ u : World, S u → u.cell? (q.add 2) = some (.int .i64 t2)) ∧ ∃ t3 : Int, (∀ u : World, S u → u.cell? (q.add 3) = some (.int .i64 t3)) ∧ ∃ t4 : Int, (∀ u : World, S u → u.cell? (q.add 4) = some (.int .u32 t4)) ∧ P t0 t1 t2 t3 t4 :=
  ⟨_, fun u hu => (h u hu).c0, _, fun u hu => (h u hu).c1, _, fun u hu => (h u hu).c2, _, fun u hu => (h u hu).c3, _, fun u hu => (h u hu).c4, hp⟩
theorem KAt.block {b : Nat} (h : w.heap[b]? = some (.cells (kdRow k).toArray 62 (0, 0))) : KAt w ⟨b, 0, none⟩ k :=
  ⟨(cell_of h).trans rfl, by rw [add_mk]; exact (cell_of h).trans rfl, by rw [add_mk]; exact (cell_of h).trans rfl, by rw [add_mk]; exact (cell_of h).trans rfl, by rw [add_mk]; exact (cell_of h).trans rfl⟩
/-- Five cells are written over. -/
theorem st5 {b : Nat} {cs : Array Value} {t : TypeId} (h : w.heap[b]? = some (.cells cs t (0, 0))) (hs : cs.size = 5) {vs : List Value} (hv : vs.length = 5) (hc : vs.all isCell = true) {φ : World → Prop}
    (hφ : ∀ w', w'.heap[b]? = some (.cells vs.toArray t (0, 0)) → Keep (· = b) w w' → φ w') : storeRow ⟨b, 0, none⟩ 0 vs w φ := by
  refine storeRow_block h (by rw [hs, hv]; exact Nat.le_refl 5) hc fun w' hw hk _ => hφ w' ?_ hk
  rw [hw]
  obtain ⟨l⟩ := cs
  have hl : l.length = 5 := hs
  rw [setFrom_all l vs (by rw [hl, hv])]
/-- Four cells are written over. -/
theorem st4 {b : Nat} {cs : Array Value} {t : TypeId} (h : w.heap[b]? = some (.cells cs t (0, 0))) (hs : cs.size = 4) {vs : List Value} (hv : vs.length = 4) (hc : vs.all isCell = true) {φ : World → Prop}
    (hφ : ∀ w', w'.heap[b]? = some (.cells vs.toArray t (0, 0)) → Keep (· = b) w w' → φ w') : storeRow ⟨b, 0, none⟩ 0 vs w φ := by
  refine storeRow_block h (by rw [hs, hv]; exact Nat.le_refl 4) hc fun w' hw hk _ => hφ w' ?_ hk
  rw [hw]
  obtain ⟨l⟩ := cs
  have hl : l.length = 4 := hs
  rw [setFrom_all l vs (by rw [hl, hv])]

theorem kindOf_spec : Run Try.prog 29 #[.agg #[.bool k.ac, .bool k.pf, .int .i64 k.mp]] w fun v w' => (goodK k ∧ v = .tuple #[kdV k, .bool true] ∨ ¬ goodK k ∧ v = .tuple #[.agg #[.bool false, .bool false, .int .i64 0, .int .i64 0, .int .u32 0], .bool false]) ∧ Go.Rd.Ext w w' := by
  refine bundle_kindOf.ok (letA fun w1 h1 x1 s1 => letA fun w2 h2 x2 s2 => ?_)
  have hk : LAt w2 w.heap.size k := x2.heap h1
  have x02 := x1.trans x2
  refine ⟨_, hk.c2, ifP_beq.2 ⟨fun e1 => ?_, fun e1 => ifP_beq.2 ⟨fun e2 => ?_, fun e2 => ?_⟩⟩⟩
  · refine hk.rd (st5 h2 rfl (vs := [.bool k.ac, .bool k.pf, .int .i64 k.mp, .int .i64 2, .int .u32 4096]) rfl rfl fun w3 h3 k3 => ?_)
    have x03 : Go.Rd.Ext w w3 := x02.fresh k3 fun i hi => by rw [hi]; exact x1.size
    refine ⟨_, (cell_of h3).trans rfl, _, by rw [newA, add_mk]; exact (cell_of h3).trans rfl, _, by rw [newA, add_mk]; exact (cell_of h3).trans rfl, _, by rw [newA, add_mk]; exact (cell_of h3).trans rfl, _, by rw [newA, add_mk]; exact (cell_of h3).trans rfl, .inl ⟨.inl e1, ?_⟩, x03⟩
    rw [kdV, headSize, spaceK, if_neg (by omega), if_neg (by omega)]
  · refine hk.rd (st5 h2 rfl (vs := [.bool k.ac, .bool k.pf, .int .i64 k.mp, .int .i64 4, .int .u32 16777216]) rfl rfl fun w3 h3 k3 => ?_)
    have x03 : Go.Rd.Ext w w3 := x02.fresh k3 fun i hi => by rw [hi]; exact x1.size
    refine ⟨_, (cell_of h3).trans rfl, _, by rw [newA, add_mk]; exact (cell_of h3).trans rfl, _, by rw [newA, add_mk]; exact (cell_of h3).trans rfl, _, by rw [newA, add_mk]; exact (cell_of h3).trans rfl, _, by rw [newA, add_mk]; exact (cell_of h3).trans rfl, .inl ⟨.inr e2, ?_⟩, x03⟩
    rw [kdV, headSize, spaceK, if_pos e2, if_pos e2]
  · refine st5 h2 rfl (vs := [.bool false, .bool false, .int .i64 0, .int .i64 0, .int .u32 0]) rfl rfl fun w3 h3 k3 => ?_
    have x03 : Go.Rd.Ext w w3 := x02.fresh k3 fun i hi => by rw [hi]; exact x1.size
    exact ⟨_, (cell_of h3).trans rfl, _, by rw [newA, add_mk]; exact (cell_of h3).trans rfl, _, by rw [newA, add_mk]; exact (cell_of h3).trans rfl, _, by rw [newA, add_mk]; exact (cell_of h3).trans rfl, _, by rw [newA, add_mk]; exact (cell_of h3).trans rfl, .inr ⟨fun h => by rcases h with h | h; exact e1 h; exact e2 h, rfl⟩, x03⟩

theorem begin_spec : Run Try.prog 45 #[kdV k] w fun v w' => v = .int .u32 (topBit k) ∧ Go.Rd.Ext w w' := by
  refine bundle_kind_begin.ok (letA fun w1 h1 x1 s1 => ?_)
  have hk : KAt w1 (newA w) k := KAt.block h1
  refine ⟨_, hk.c3, ?_⟩
  unfold headSize topBit
  split
  · exact ⟨by decide, rfl, x1⟩
  · exact ⟨by decide, rfl, x1⟩
theorem end_spec : Run Try.prog 46 #[kdV k] w fun v w' => v = .int .u32 (midBit k) ∧ Go.Rd.Ext w w' := by
  refine bundle_kind_end.ok (letA fun w1 h1 x1 s1 => ?_)
  have hk : KAt w1 (newA w) k := KAt.block h1
  refine ⟨_, hk.c3, ?_⟩
  unfold headSize midBit
  split
  · exact ⟨by decide, rfl, x1⟩
  · exact ⟨by decide, rfl, x1⟩

theorem header_spec {sq : Int} {first last : Bool} : Run Try.prog 31 #[kdV k, .int .u32 sq, .bool first, .bool last] w fun v w' => NewBytes w w' v (headSize k).toNat (headB k first last sq) := by
  refine bundle_kind_header.ok (letA fun w1 h1 x1 s1 => ?_)
  have hk : KAt w1 (newA w) k := KAt.block h1
  have j1 : ∀ (h : Int) (w2 : World), Go.Rd.Ext w1 w2 → h = headNum k first last sq → bundle_kind_header.J1 (fun v w' => NewBytes w w' v (headSize k).toNat (headB k first last sq)) (newA w) h w2 := by
    intro h w2 x2 hh
    let S : World → Prop := fun u => KAt u (newA w) k
    have hs := headSize_two (k := k)
    refine ⟨S, (hk.ext x2).ext (Go.Rd.Ext.drew w2), letD fun w3 _ x3 => ⟨_, fun u hu => hu.c3, _, fun u hu => hu.c3, ?_⟩⟩
    obtain ⟨M, w4, hr, im, x4⟩ := made_put (v := h) (w := w3) (s := headSize k) (by omega)
    refine ⟨_, w4, hr, M, _, _, rfl, ((hk.ext x2).ext x3).ext x4, (put_spec im (by omega)).mono ?_⟩
    intro u w5 hput
    obtain ⟨B, bc, rfl, o5, b5, x5⟩ := put_made (s := headSize k) (by omega) hput
    have x04 := ((x1.trans x2).trans x3).trans x4
    refine ⟨_, _, _, _, rfl, B, bc, rfl, ?_, ?_, fun i hi => ?_, x04.trans x5⟩
    · rw [headB, ← hh]; exact o5
    · rw [headB, fieldB_length]
    · have := b5 i hi; have := x04.size; omega
  have j0 : ∀ (h : Int) (w2 : World), Go.Rd.Ext w1 w2 → h = (if first = true then orI .u32 sq (topBit k) else sq) → bundle_kind_header.J0 (fun v w' => NewBytes w w' v (headSize k).toNat (headB k first last sq)) last (newA w) h w2 := by
    intro h w2 x2 hh
    refine ifP_of (fun hl => (hk.ext x2).rd (end_spec.mono ?_)) fun hl => j1 _ _ x2 ?_
    · rintro v w3 ⟨rfl, x3⟩
      refine ⟨_, rfl, j1 _ _ (x2.trans x3) ?_⟩
      rw [headNum, if_pos hl, hh]
      rfl
    · rw [headNum, if_neg (by rw [hl]; decide), hh]
      rfl
  refine ifP_of (fun hf => hk.rd (begin_spec.mono ?_)) fun hf => j0 _ _ (Go.Rd.Ext.refl w1) ?_
  · rintro v w2 ⟨rfl, x2⟩
    exact ⟨_, rfl, j0 _ _ x2 (by rw [if_pos hf])⟩
  · rw [if_neg (by rw [hf]; decide)]
end
end Go.Proofs.Ytgjabpgkiaojhaa
