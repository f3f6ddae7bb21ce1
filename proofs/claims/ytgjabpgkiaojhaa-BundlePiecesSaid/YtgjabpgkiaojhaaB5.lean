/- Package bundle: New, Feed, Waits. -/
import Derived.Test.YtgjabpgkiaojhaaB4
namespace Go.Proofs.Ytgjabpgkiaojhaa
open Go.Rd Go.RowKit
set_option linter.unusedVariables false
set_option linter.unusedSimpArgs false

/-- What has come of a load. -/
structure BSt where
  k : Lnk
  nx : Int
  un : Bool
  has : List Int
/-- What a frame makes of it. -/
def feedX (s : BSt) (xs : List Int) : (Int × Option (List Int)) × BSt :=
  match readX s.k xs with
  | .error e => ((e, none), s)
  | .ok (b, e, q, a) =>
    let ch := xs.drop a.toNat
    let un := b || (s.un && decide (q = s.nx))
    let has := if b = true then ch else if un = true then s.has ++ ch else []
    let n := (q + 1) % spaceK s.k
    if un = false then ((0, none), ⟨s.k, n, false, []⟩) else if 65535 < has.length then ((0, none), ⟨s.k, n, false, []⟩) else if e = false then ((0, none), ⟨s.k, n, true, has⟩) else ((0, some has), ⟨s.k, n, false, []⟩)
structure BSt.ok (s : BSt) : Prop where
  k : goodK s.k
  nx : 0 ≤ s.nx ∧ s.nx < spaceK s.k
  un : s.un = false → s.has = []
  has : s.has.length ≤ 65535
theorem BSt.ok.flat {s : BSt} (h : s.ok) {n : Int} : (BSt.mk s.k (n % spaceK s.k) false []).ok := by
  have := spaceK_two (k := s.k)
  exact ⟨h.k, ⟨Int.emod_nonneg _ (show spaceK s.k ≠ 0 by omega), Int.emod_lt_of_pos _ (show 0 < spaceK s.k by omega)⟩, fun _ => rfl, Nat.zero_le _⟩

def bCells (s : BSt) (A : Option Addr) (n c : Nat) : Array Value := #[.int .u32 s.nx, .bool s.k.ac, .bool s.k.pf, .int .i64 s.k.mp, .int .i64 (headSize s.k), .int .u32 (spaceK s.k), .bool s.un, .slice A n c]
structure BAt (w : World) (u : Nat) (F : Nat → Prop) (s : BSt) (A : Option Addr) (c : Nat) : Prop where
  cell : w.heap[u]? = some (.cells (bCells s A s.has.length c) 70 (0, 0))
  own : OBytes w A c s.has
  fp : ∀ k, F k ↔ k = u ∨ blk A k
def BOk (w : World) (u : Nat) (F : Nat → Prop) (s : BSt) : Prop := ∃ A c, BAt w u F s A c
def BStep (w : World) (u : Nat) (F : Nat → Prop) (s' : BSt) (w' : World) : Prop := ∃ F', BOk w' u F' s' ∧ Keep F w w' ∧ ∀ k, F' k → F k ∨ w.heap.size ≤ k
section
variable {w w' w1 w2 : World} {u : Nat} {F F1 : Nat → Prop} {s s1 s2 : BSt} {A : Option Addr} {c : Nat}
theorem BAt.sep (h : BAt w u F s A c) : ¬ blk A u := fun hk => by
  obtain ⟨us, h1⟩ := Own.typ h.own hk
  have := typ_ne h.cell h1
  revert this; decide
theorem BAt.lt (h : BAt w u F s A c) {k : Nat} (hk : F k) : k < w.heap.size := by
  rcases (h.fp k).1 hk with rfl | hk
  · exact (Array.getElem?_eq_some_iff.1 h.cell).1
  · exact h.own.lt k hk
theorem BAt.keep {X : Nat → Prop} (h : BAt w u F s A c) (k : Keep X w w') (hs : ∀ k, F k → ¬ X k) : BAt w' u F s A c :=
  ⟨k.heap h.cell (hs _ ((h.fp _).2 (.inl rfl))), h.own.keep k fun i hi => hs i ((h.fp _).2 (.inr hi)), h.fp⟩
theorem BAt.ext (h : BAt w u F s A c) (x : Go.Rd.Ext w w') : BAt w' u F s A c := h.keep x fun _ _ h => h
theorem BOk.keep {X : Nat → Prop} (h : BOk w u F s) (k : Keep X w w') (hs : ∀ k, F k → ¬ X k) : BOk w' u F s := by
  obtain ⟨A, c, h⟩ := h; exact ⟨A, c, h.keep k hs⟩
theorem BOk.ext (h : BOk w u F s) (x : Go.Rd.Ext w w') : BOk w' u F s := h.keep x fun _ _ h => h
theorem BOk.lt (h : BOk w u F s) {k : Nat} (hk : F k) : k < w.heap.size := by
  obtain ⟨A, c, h⟩ := h; exact h.lt hk
theorem BStep.same (h : BOk w u F s) (x : Go.Rd.Ext w w') : BStep w u F s w' := ⟨F, h.ext x, Keep.ext x, fun k hk => .inl hk⟩
theorem BStep.then (k1 : Keep F w w1) (n1 : ∀ k, F1 k → F k ∨ w.heap.size ≤ k) (h2 : BStep w1 u F1 s2 w2) : BStep w u F s2 w2 := by
  obtain ⟨F2, ok2, k2, n2⟩ := h2
  refine ⟨F2, ok2, k1.trans k2 (fun _ _ h => h) (fun i hi h => ?_), fun k hk => ?_⟩
  · rcases n1 i h with h | h
    · exact h
    · omega
  · rcases n2 k hk with h | h
    · exact n1 k h
    · exact .inr (Nat.le_trans k1.size h)
theorem BStep.more (x : Go.Rd.Ext w w1) (h2 : BStep w1 u F s2 w2) : BStep w u F s2 w2 := BStep.then (Keep.ext x) (fun k hk => .inl hk) h2

theorem BAt.put (h : BAt w u F s A c) {i : Nat} {v : Value} {s' : BSt} {a : Addr} (hi : i < 8) (ha : a = ⟨u, i, none⟩) (he : (bCells s A s.has.length c).setIfInBounds i v = bCells s' A s.has.length c) (hh : s'.has = s.has) {φ : World → Prop} (hφ : ∀ w', BAt w' u F s' A c → Keep (· = u) w w' → φ w') :
    (∃ x, w.cell? a = some x) ∧ w.frozen? a = false ∧ letW (w.setCell a v) φ :=
  cell_put h.cell hi ha fun w' h' k' => hφ w' ⟨by rw [h', he, hh], by rw [hh]; exact h.own.keep k' fun k hk e => h.sep (by rw [← e]; exact hk), h.fp⟩ k'
theorem BAt.buf (h : BAt w u F s A c) {A' : Option Addr} {n' c' : Nat} {ys : List Int} {a : Addr} (ha : a = ⟨u, 7, none⟩) (o : OBytes w A' c' ys) (l : ys.length = n') (hn : ¬ blk A' u) {φ : World → Prop} (hφ : ∀ w', BAt w' u (fun k => k = u ∨ blk A' k) { s with has := ys } A' c' → Keep (· = u) w w' → φ w') :
    (∃ x, w.cell? a = some x) ∧ w.frozen? a = false ∧ letW (w.setCell a (.slice A' n' c')) φ := by
  subst l
  exact cell_put h.cell (by show 7 < 8; decide) ha fun w' h' k' => hφ w' ⟨h', o.keep k' fun k hk e => hn (by rw [← e]; exact hk), fun k => Iff.rfl⟩ k'
theorem BAt.kd (h : BAt w u F s A c) : KAt w ((Addr.mk u 0 none).add 1) s.k :=
  ⟨by rw [add_mk]; exact (cell_of h.cell).trans rfl, by rw [add_mk, add_mk]; exact (cell_of h.cell).trans rfl, by rw [add_mk, add_mk]; exact (cell_of h.cell).trans rfl, by rw [add_mk, add_mk]; exact (cell_of h.cell).trans rfl, by rw [add_mk, add_mk]; exact (cell_of h.cell).trans rfl⟩
theorem BAt.c0 (h : BAt w u F s A c) : w.cell? ⟨u, 0, none⟩ = some (.int .u32 s.nx) := (cell_of h.cell).trans rfl
theorem BAt.c6 (h : BAt w u F s A c) : w.cell? ((Addr.mk u 0 none).add 6) = some (.bool s.un) := by rw [add_mk]; exact (cell_of h.cell).trans rfl
theorem BAt.c7 (h : BAt w u F s A c) : w.cell? ((Addr.mk u 0 none).add 7) = some (.slice A s.has.length c) := by rw [add_mk]; exact (cell_of h.cell).trans rfl

theorem forget_spec (h : BOk w u F s) : Run Try.prog 34 #[.pointer (some ⟨u, 0, none⟩)] w fun v w' => v = .tuple #[] ∧ BStep w u F { s with un := false, has := [] } w' := by
  obtain ⟨A, c, h⟩ := h
  have hu : F u := (h.fp u).2 (.inl rfl)
  refine bundle_Bundle_forget.ok ⟨_, rfl, h.put (i := 6) (s' := { s with un := false }) (by decide) (by rw [add_mk]) rfl rfl fun w1 h1 k1 => ⟨_, rfl, h1.buf (A' := none) (c' := 0) (ys := []) (by rw [add_mk]) (.inl ⟨rfl, rfl, rfl⟩) rfl blk_none fun w2 h2 k2 => ⟨rfl, _, ⟨_, _, h2⟩, ?_, fun k hk => ?_⟩⟩⟩
  · exact (k1.mono fun k _ hk => by rw [hk]; exact hu).trans' (k2.mono fun k _ hk => by rw [hk]; exact hu)
  · rcases hk with rfl | hk
    · exact .inl hu
    · exact absurd hk blk_none
theorem pass_spec (h : BOk w u F s) {q : Int} (h0 : 0 ≤ q) (h1 : q < 4294967295) : Run Try.prog 35 #[.pointer (some ⟨u, 0, none⟩), .int .u32 q, .int .u32 (spaceK s.k)] w fun v w' => v = .tuple #[] ∧ BStep w u F { s with nx := (q + 1) % spaceK s.k } w' := by
  obtain ⟨A, c, h⟩ := h
  have hu : F u := (h.fp u).2 (.inl rfl)
  have hsp := spaceK_two (k := s.k)
  have e : Int.tmod (IntKind.u32.wrap (q + 1)) (spaceK s.k) = (q + 1) % spaceK s.k := by
    rw [wrap_u32 (by omega) (by omega)]
    exact Int.tmod_eq_emod_of_nonneg (by omega)
  refine bundle_waits_pass.ok ⟨by omega, _, rfl, ?_⟩
  rw [e]
  exact h.put (i := 0) (s' := { s with nx := (q + 1) % spaceK s.k }) (by decide) rfl rfl rfl fun w1 h1 k1 => ⟨rfl, F, ⟨_, _, h1⟩, k1.mono fun k _ hk => by rw [hk]; exact hu, fun k hk => .inl hk⟩
theorem waits_spec (h : BOk w u F s) : Run Try.prog 23 #[.pointer (some ⟨u, 0, none⟩)] w fun v w' => v = .tuple #[.int .u32 s.nx, .int .i64 (s.has.length : Int)] ∧ Go.Rd.Ext w w' := by
  obtain ⟨A, c, h⟩ := h
  refine bundle_Bundle_Waits.ok (letD fun w1 _ x1 => ?_)
  have h1 := h.ext x1
  exact ⟨_, rfl, _, h1.c0, _, rfl, _, _, _, h1.c7, rfl, x1⟩

def NewOf (W : World) (k : Lnk) (nx : Int) (v : Value) (w' : World) : Prop :=
  Go.Rd.Ext W w' ∧ ((¬ goodK k ∧ v = .tuple #[.pointer none, .int .i64 90]) ∨ (goodK k ∧ nx ≥ spaceK k ∧ v = .tuple #[.pointer none, .int .i64 91]) ∨
    (goodK k ∧ nx < spaceK k ∧ ∃ b, v = .tuple #[.pointer (some ⟨b, 0, none⟩), .int .i64 0] ∧ W.heap.size ≤ b ∧ BOk w' b (· = b) ⟨k, nx, false, []⟩))
theorem new_spec {k : Lnk} {nx : Int} (n0 : 0 ≤ nx) : Run Try.prog 20 #[.agg #[.bool k.ac, .bool k.pf, .int .i64 k.mp], .int .u32 nx] w (NewOf w k nx) := by
  refine bundle_New.ok (letA fun w1 h1 x1 s1 => ?_)
  have hk1 : LAt w1 w.heap.size k := h1
  refine hk1.rd ((kindOf_spec (k := k)).mono ?_)
  rintro v w2 ⟨hv, x2⟩
  have x02 := x1.trans x2
  rcases hv with ⟨hg, rfl⟩ | ⟨hg, rfl⟩
  · refine ⟨_, _, _, _, _, _, rfl, letA fun w3 h3 x3 s3 => st5 h3 rfl (vs := kdRow k) rfl rfl fun w4 h4 k4 => ?_⟩
    have x04 : Go.Rd.Ext w w4 := (x02.trans x3).fresh k4 fun i hi => by rw [hi]; exact x02.size
    have hk4 : KAt w4 (newA w2) k := KAt.block h4
    refine ifP_f rfl ⟨_, hk4.c4, ifP_decide.2 ⟨fun h => ⟨x04, .inr (.inl ⟨hg, h, rfl⟩)⟩, fun h => ?_⟩⟩
    refine hk4.rd (letA fun w5 h5 x5 s5 => ⟨x04.trans x5, .inr (.inr ⟨hg, by omega, _, rfl, x04.size, none, 0, h5, .inl ⟨rfl, rfl, rfl⟩, fun k => ⟨fun h => .inl h, fun h => ?_⟩⟩)⟩)
    rcases h with h | h
    · exact h
    · exact absurd h blk_none
  · refine ⟨_, _, _, _, _, _, rfl, letA fun w3 h3 x3 s3 => st5 h3 rfl (vs := [.bool false, .bool false, .int .i64 0, .int .i64 0, .int .u32 0]) rfl rfl fun w4 h4 k4 => ?_⟩
    have x04 : Go.Rd.Ext w w4 := (x02.trans x3).fresh k4 fun i hi => by rw [hi]; exact x02.size
    exact ifP_t rfl ⟨x04, .inl ⟨hg, rfl⟩⟩

theorem headX_range {k : Lnk} {xs : List Int} {a : Int} {b e : Bool} {q p : Int} (h : headX k xs a = .ok (b, e, q, p)) : 0 ≤ q ∧ q < spaceK k := by
  have hs : seqMask k = 16777215 ∧ spaceK k = 16777216 ∨ seqMask k = 4095 ∧ spaceK k = 4096 := by unfold seqMask spaceK; split <;> simp
  unfold headX at h
  split at h
  · cases h
  · simp only at h
    split at h
    · have e := Except.ok.inj h
      simp only [Prod.mk.injEq] at e
      obtain ⟨_, _, rfl, _⟩ := e
      have key : ∀ M : Nat, M < 4294967295 → 0 ≤ andI .u32 (getV xs a (pieceSize k)) (M : Int) ∧ andI .u32 (getV xs a (pieceSize k)) (M : Int) ≤ M := by
        intro M hM
        unfold andI
        have e2 : (BitVec.ofInt IntKind.u32.bits (getV xs a (pieceSize k)) &&& BitVec.ofInt IntKind.u32.bits (M : Int)).toNat ≤ M := by
          rw [BitVec.toNat_and]
          refine Nat.le_trans Nat.and_le_right ?_
          rw [toNat_ofInt, ← Int.natCast_emod, Int.toNat_natCast]
          exact Nat.mod_le _ _
        rw [wrap_u32 (by omega) (by omega)]
        omega
      rcases hs with ⟨e1, e2⟩ | ⟨e1, e2⟩
      · rw [e1, e2]
        have : 0 ≤ andI .u32 (getV xs a (pieceSize k)) 16777215 ∧ andI .u32 (getV xs a (pieceSize k)) 16777215 ≤ 16777215 := key 16777215 (by decide)
        omega
      · rw [e1, e2]
        have : 0 ≤ andI .u32 (getV xs a (pieceSize k)) 4095 ∧ andI .u32 (getV xs a (pieceSize k)) 4095 ≤ 4095 := key 4095 (by decide)
        omega
    · cases h
theorem readX_range {k : Lnk} {xs : List Int} {b e : Bool} {q p : Int} (h : readX k xs = .ok (b, e, q, p)) : 0 ≤ q ∧ q < spaceK k ∧ xs.length ≤ 65535 := by
  unfold readX at h
  cases hp : pastX k xs with
  | error e => rw [hp] at h; cases h
  | ok a =>
    rw [hp] at h
    have := headX_range h
    refine ⟨this.1, this.2, ?_⟩
    unfold pastX at hp
    split at hp
    · cases hp
    · omega

/-- What Feed tells. -/
def FeedOf (W : World) (r : Int × Option (List Int)) (v : Value) (w' : World) : Prop :=
  ∃ A c, v = .tuple #[.slice A (r.2.getD []).length c, .bool r.2.isSome, .int .i64 r.1] ∧ OBytes w' A c (r.2.getD []) ∧ ∀ k, blk A k → W.heap.size ≤ k
theorem FeedOf.none {W w' : World} {e : Int} : FeedOf W (e, Option.none) (.tuple #[.slice Option.none 0 0, .bool false, .int .i64 e]) w' := ⟨Option.none, 0, rfl, .inl ⟨rfl, rfl, rfl⟩, fun k hk => absurd hk blk_none⟩

/-- A step, and what was told lies outside. -/
def BStepV (w : World) (u : Nat) (F : Nat → Prop) (s' : BSt) (v : Value) (w' : World) : Prop := ∃ F', BOk w' u F' s' ∧ Keep F w w' ∧ (∀ k, F' k → F k ∨ w.heap.size ≤ k) ∧ ∀ (A : Option Addr) (n c : Nat) (b : Bool) (e : Int), v = .tuple #[.slice A n c, .bool b, .int .i64 e] → ∀ k, blk A k → ¬ F' k
theorem BStep.none {w w' : World} {u : Nat} {F : Nat → Prop} {s' : BSt} {b0 : Bool} {e0 : Int} (h : BStep w u F s' w') : BStepV w u F s' (.tuple #[.slice Option.none 0 0, .bool b0, .int .i64 e0]) w' := by
  obtain ⟨F', ok, k, n⟩ := h
  refine ⟨F', ok, k, n, fun A n c b e hv j hj => ?_⟩
  simp at hv
  obtain ⟨⟨rfl, _⟩, _⟩ := hv
  exact absurd hj blk_none
theorem BStepV.step {w w' : World} {u : Nat} {F : Nat → Prop} {s' : BSt} {v : Value} (h : BStepV w u F s' v w') : BStep w u F s' w' := by
  obtain ⟨F', ok, k, n, _⟩ := h
  exact ⟨F', ok, k, n⟩

theorem join_one {w : World} {p : Part} {P : Option Addr} (h : Rd Part.v w P 1 [p]) (hp : IBytes w p.A p.n p.xs) (ht : p.n ≤ 100000000) :
    Run Try.prog 30 #[.slice P 1 1] w fun v w' => NewBytes w w' v p.n p.xs := by
  refine (join_spec h (by omega) (by simp [hp]) (by simp [total]; omega)).mono ?_
  intro v w' hv
  simpa [total, flat] using hv

/-- At the end: too long, not yet the last one, or told. -/
theorem feed_two {W : World} {F0 : Nat → Prop} {p : Nat} {ch : Value} {b e : Bool} {q : Int} (k0 : Keep F0 W w) (n0 : ∀ k, F k → F0 k ∨ W.heap.size ≤ k) (h : BOk w u F s) (hp : w.heap[p]? = some (.cells #[.int .u32 q, .bool b, .bool e, ch] 73 (0, 0))) (hlen : s.has.length ≤ 140000) (hun : s.un = true) {R : Value → World → Prop}
    (hR : ∀ v w', FeedOf W (if 65535 < s.has.length then ((0 : Int), Option.none) else if e = false then (0, Option.none) else (0, some s.has)) v w' → BStepV W u F0 (if 65535 < s.has.length then { s with un := false, has := [] } else if e = false then s else { s with un := false, has := [] }) v w' → R v w') :
    bundle_Bundle_Feed.J2 R (some ⟨u, 0, none⟩) ⟨p, 0, none⟩ w := by
  obtain ⟨A, c, hb⟩ := h
  refine ⟨_, rfl, _, _, _, hb.c7, ifP_decide.2 ⟨fun h1 => (forget_spec ⟨A, c, hb⟩).mono ?_, fun h1 => ⟨_, by rw [add_mk]; exact (cell_of hp).trans rfl, ifP_not.2 (ifP_of (fun he => ⟨_, rfl, _, _, _, hb.c7, letA fun w1 h1' x1 s1 => ?_⟩) fun he => ?_)⟩⟩⟩
  · rintro v w1 ⟨rfl, st⟩
    refine ⟨rfl, hR _ _ ?_ ?_⟩
    · rw [if_pos (by omega)]; exact FeedOf.none
    · rw [if_pos (by omega)]; exact (BStep.then k0 n0 st).none
  · refine (join_one (p := ⟨A, s.has.length, c, s.has⟩) (lit_rd (f := Part.v) (xs := [⟨A, s.has.length, c, s.has⟩]) (w := w) h1' rfl) ((hb.own.rd rfl).ext x1) (by show s.has.length ≤ _; omega)).mono ?_
    rintro v w2 ⟨J, jc, rfl, o2, l2, b2, x2⟩
    refine ⟨J, _, jc, rfl, (forget_spec ((BOk.ext ⟨A, c, hb⟩ x1).ext x2)).mono ?_⟩
    rintro v w3 ⟨rfl, st⟩
    obtain ⟨F3, ok3, k3, n3⟩ := id st
    refine ⟨rfl, hR _ _ ?_ ?_⟩
    · rw [if_neg (by omega), if_neg (by rw [he]; decide)]
      refine ⟨J, jc, rfl, o2.keep k3 fun k hk hk2 => ?_, fun k hk => ?_⟩
      · have := b2 k hk
        have := hb.lt hk2
        have := x1.size
        omega
      · have := b2 k hk
        have := x1.size
        have := k0.size
        omega
    · rw [if_neg (by omega), if_neg (by rw [he]; decide)]
      have x02 := x1.trans x2
      obtain ⟨F5, ok5, k5, n5⟩ := BStep.then k0 n0 (BStep.more x02 st)
      refine ⟨F3, ok3, (BStep.then k0 n0 (BStep.more x02 st)).elim fun _ h => h.2.1, fun k hk => ?_, fun A n c b e hv k hk hF => ?_⟩
      · rcases n3 k hk with h | h
        · exact n0 k h
        · have := x02.size; have := k0.size; exact .inr (by omega)
      · simp at hv
        obtain ⟨⟨rfl, _⟩, _⟩ := hv
        have h1 := b2 k hk
        have h2 := o2.lt k hk
        rcases n3 k hF with h | h
        · have := hb.lt h; have := x1.size; omega
        · omega
  · refine hR _ _ ?_ ?_
    · rw [if_neg (by omega), if_pos he]; exact FeedOf.none
    · rw [if_neg (by omega), if_pos he]; exact (BStep.then k0 n0 (BStep.same ⟨A, c, hb⟩ (Go.Rd.Ext.refl _))).none

theorem feed_one {W : World} {F0 : Nat → Prop} {p : Nat} {C : Option Addr} {cn cc : Nat} {ys : List Int} {b e : Bool} {q : Int} (k0 : Keep F0 W w) (n0 : ∀ k, F k → F0 k ∨ W.heap.size ≤ k) (hpF : ¬ F p) (h : BOk w u F s) (hp : w.heap[p]? = some (.cells #[.int .u32 q, .bool b, .bool e, .slice C cn cc] 73 (0, 0))) (hc : ∀ w', Go.Rd.Ext w w' → IBytes w' C cn ys) (hcn : cn ≤ 65535) (hlen : s.has.length ≤ 65535) {R : Value → World → Prop}
    (hR : ∀ v w', FeedOf W (if s.un = false then ((0 : Int), Option.none) else if 65535 < (s.has ++ ys).length then ((0 : Int), Option.none) else if e = false then (0, Option.none) else (0, some (s.has ++ ys))) v w' → BStepV W u F0 (if s.un = false then s else if 65535 < (s.has ++ ys).length then { s with un := false, has := [] } else if e = false then { s with has := s.has ++ ys } else { s with un := false, has := [] }) v w' → R v w') :
    bundle_Bundle_Feed.J1 R (some ⟨u, 0, none⟩) ⟨p, 0, none⟩ w := by
  obtain ⟨A, c, hb⟩ := h
  refine ⟨_, rfl, _, hb.c6, ifP_not.2 (ifP_of (fun hun => ?_) fun hun => ?_)⟩
  · have hcl := (hc w (Go.Rd.Ext.refl w)).len
    have hnun : ¬ s.un = false := by rw [hun]; decide
    simp only [if_neg hnun] at hR
    let S : World → Prop := fun x => x.cell? ((Addr.mk u 0 none).add 7) = some (.slice A s.has.length c) ∧ x.cell? ((Addr.mk p 0 none).add 3) = some (.slice C cn cc)
    have cp : w.cell? ((Addr.mk p 0 none).add 3) = some (.slice C cn cc) := by rw [add_mk]; exact (cell_of hp).trans rfl
    refine ⟨S, ⟨(Go.Rd.Ext.drew w).cell hb.c7, (Go.Rd.Ext.drew w).cell cp⟩, letD fun w1 _ x1 => ⟨_, rfl, _, _, _, fun x hx => hx.1, _, _, _, fun x hx => hx.2, ?_⟩⟩
    obtain ⟨A', c', w2, hr, o2, l2, k2, b2⟩ := app_bytes (d := cc) (hb.own.ext x1) rfl (hc w1 x1) (by omega)
    have hbu : ∀ k, blk A k → k ≠ u := fun k hk e => hb.sep (by rw [← e]; exact hk)
    have hA'u : ¬ blk A' u := fun hk => by
      rcases b2 u hk with h1 | h1
      · exact hb.sep h1
      · have := hb.lt ((hb.fp u).2 (.inl rfl)); have := x1.size; omega
    have hb2 : w2.heap[u]? = some (.cells (bCells s A s.has.length c) 70 (0, 0)) := k2.heap (x1.heap hb.cell) hb.sep
    refine ⟨_, w2, hr, A', _, c', rfl, _, rfl, cell_put hb2 (i := 7) (by show 7 < 8; decide) (by rw [add_mk]) fun w3 h3 k3 => ?_⟩
    have hb3 : BAt w3 u (fun k => k = u ∨ blk A' k) { s with has := s.has ++ ys } A' c' := by
      refine ⟨?_, o2.keep k3 fun k hk e => hA'u (by rw [← e]; exact hk), fun k => Iff.rfl⟩
      rw [h3]
      show some (Obj.cells #[_, _, _, _, _, _, _, _] _ _) = some (Obj.cells #[_, _, _, _, _, _, _, .slice A' (s.has ++ ys).length c'] _ _)
      rw [l2]
    have kk : Keep F w w3 := ((Keep.ext x1).trans' (k2.mono fun k _ hk => (hb.fp k).2 (.inr hk))).trans' (k3.mono fun k _ hk => (hb.fp k).2 (.inl hk))
    have nn : ∀ k, (k = u ∨ blk A' k) → F k ∨ w.heap.size ≤ k := by
      rintro k (rfl | hk)
      · exact .inl ((hb.fp _).2 (.inl rfl))
      · rcases b2 k hk with h1 | h1
        · exact .inl ((hb.fp k).2 (.inr h1))
        · have := x1.size; exact .inr (by omega)
    have hpF' : ¬ (p = u ∨ blk A p) := fun h1 => hpF ((hb.fp p).2 h1)
    refine feed_two (s := { s with has := s.has ++ ys }) (b := b) (e := e) (q := q) (k0.trans kk (fun _ _ h => h) (fun i hi hF => ?_)) (fun k hk => ?_) ⟨A', c', hb3⟩ (k3.heap (k2.heap (x1.heap hp) fun h1 => hpF' (.inr h1)) fun h1 => hpF' (.inl h1)) (by show (s.has ++ ys).length ≤ _; rw [l2]; omega) hun hR
    · rcases n0 i hF with h1 | h1
      · exact h1
      · omega
    · rcases nn k hk with h1 | h1
      · exact n0 k h1
      · have := k0.size; exact .inr (by omega)
  · refine hR _ _ ?_ ?_
    · rw [if_pos hun]; exact FeedOf.none
    · rw [if_pos hun]; exact (BStep.then k0 n0 (BStep.same ⟨A, c, hb⟩ (Go.Rd.Ext.refl _))).none
end
end Go.Proofs.Ytgjabpgkiaojhaa
