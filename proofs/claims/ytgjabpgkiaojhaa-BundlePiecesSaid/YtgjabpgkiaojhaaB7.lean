/- The document's bundle: New, Feed. -/
import Derived.Test.YtgjabpgkiaojhaaB6
namespace Go.Proofs.Ytgjabpgkiaojhaa
open Go.Rd Go.RowKit
set_option linter.unusedVariables false
set_option linter.unusedSimpArgs false

theorem read_piece {k : Lnk} {xs : List Int} (hg : goodK k) : readX k xs = (match pieceR k xs with | .error e => .error e | .ok v => if v.m = true then .ok (v.b, v.e, v.s, v.a) else .error 94) := by
  have h0 : k.mp ≠ 0 := by rcases hg with h | h <;> omega
  unfold readX pastX pieceR pieceX
  by_cases h65 : 65535 < xs.length
  · simp only [if_pos h65]
  · simp only [if_neg h65]
    cases plainX k xs with
    | error e => rfl
    | ok a =>
      simp only
      cases protoX k xs a with
      | error e => rfl
      | ok r =>
        obtain ⟨p, q⟩ := r
        simp only
        by_cases hp : p = 61
        · rw [if_pos hp, if_neg (by rintro (h | h); exact h0 h; exact h hp)]
          simp only
          cases headX k xs q with
          | error e => rfl
          | ok r =>
            obtain ⟨b, e, s, a⟩ := r
            rfl
        · rw [if_neg hp, if_pos (.inr hp)]
          rfl

theorem readX_place {k : Lnk} {xs : List Int} {b e : Bool} {q p : Int} (h : readX k xs = .ok (b, e, q, p)) : 0 ≤ p ∧ p ≤ xs.length := by
  unfold readX at h
  cases hp : pastX k xs with
  | error e => rw [hp] at h; cases h
  | ok a =>
    rw [hp] at h
    have r1 := pastX_range hp
    have r2 := head_range h
    simp only at r2
    omega
theorem piece_err {k : Lnk} {xs : List Int} {e : Int} (h : pieceR k xs = .error e) : e ≠ 0 := by
  unfold pieceR at h
  split at h
  · cases h; decide
  · unfold pieceX at h
    cases hp : plainX k xs with
    | error e1 =>
      rw [hp] at h
      obtain rfl := Except.error.inj h
      unfold plainX at hp
      split at hp
      · cases hp
      · split at hp
        · cases hp
        · split at hp <;> cases hp <;> decide
    | ok a =>
      rw [hp] at h
      simp only at h
      cases hr : protoX k xs a with
      | error e1 =>
        rw [hr] at h
        obtain rfl := Except.error.inj h
        exact protoX_err hr
      | ok r =>
        obtain ⟨p, q⟩ := r
        rw [hr] at h
        simp only at h
        split at h
        · cases h
        · cases hh : headX k xs q with
          | error e1 =>
            rw [hh] at h
            obtain rfl := Except.error.inj h
            unfold headX at hh
            split at hh
            · cases hh; decide
            · simp only at hh
              split at hh
              · cases hh
              · cases hh; decide
          | ok r => rw [hh] at h; cases h

def dCells (s : BSt) (A : Option Addr) (n c : Nat) : Array Value := #[.bool s.k.ac, .bool s.k.pf, .int .i64 s.k.mp, .int .u32 s.nx, .bool s.un, .slice A n c]
structure DAt (w : World) (u : Nat) (F : Nat → Prop) (s : BSt) (A : Option Addr) (c : Nat) : Prop where
  cell : w.heap[u]? = some (.cells (dCells s A s.has.length c) 37 (0, 0))
  own : OBytes w A c s.has
  fp : ∀ k, F k ↔ k = u ∨ blk A k
def DOk (w : World) (u : Nat) (F : Nat → Prop) (s : BSt) : Prop := ∃ A c, DAt w u F s A c
def DStep (w : World) (u : Nat) (F : Nat → Prop) (s' : BSt) (w' : World) : Prop := ∃ F', DOk w' u F' s' ∧ Keep F w w' ∧ ∀ k, F' k → F k ∨ w.heap.size ≤ k
section
variable {w w' w1 w2 : World} {u : Nat} {F F1 : Nat → Prop} {s s1 s2 : BSt} {A : Option Addr} {c : Nat}
theorem DAt.sep (h : DAt w u F s A c) : ¬ blk A u := fun hk => by
  obtain ⟨us, h1⟩ := Own.typ h.own hk
  have := typ_ne h.cell h1
  revert this; decide
theorem DAt.lt (h : DAt w u F s A c) {k : Nat} (hk : F k) : k < w.heap.size := by
  rcases (h.fp k).1 hk with rfl | hk
  · exact (Array.getElem?_eq_some_iff.1 h.cell).1
  · exact h.own.lt k hk
theorem DAt.keep {X : Nat → Prop} (h : DAt w u F s A c) (k : Keep X w w') (hs : ∀ k, F k → ¬ X k) : DAt w' u F s A c :=
  ⟨k.heap h.cell (hs _ ((h.fp _).2 (.inl rfl))), h.own.keep k fun i hi => hs i ((h.fp _).2 (.inr hi)), h.fp⟩
theorem DAt.ext (h : DAt w u F s A c) (x : Go.Rd.Ext w w') : DAt w' u F s A c := h.keep x fun _ _ h => h
theorem DOk.keep {X : Nat → Prop} (h : DOk w u F s) (k : Keep X w w') (hs : ∀ k, F k → ¬ X k) : DOk w' u F s := by
  obtain ⟨A, c, h⟩ := h; exact ⟨A, c, h.keep k hs⟩
theorem DOk.ext (h : DOk w u F s) (x : Go.Rd.Ext w w') : DOk w' u F s := h.keep x fun _ _ h => h
theorem DOk.lt (h : DOk w u F s) {k : Nat} (hk : F k) : k < w.heap.size := by
  obtain ⟨A, c, h⟩ := h; exact h.lt hk
theorem DStep.same (h : DOk w u F s) (x : Go.Rd.Ext w w') : DStep w u F s w' := ⟨F, h.ext x, Keep.ext x, fun k hk => .inl hk⟩

theorem DAt.put (h : DAt w u F s A c) {i : Nat} {v : Value} {s' : BSt} {a : Addr} (hi : i < 6) (ha : a = ⟨u, i, none⟩) (he : (dCells s A s.has.length c).setIfInBounds i v = dCells s' A s.has.length c) (hh : s'.has = s.has) {φ : World → Prop} (hφ : ∀ w', DAt w' u F s' A c → Keep (· = u) w w' → φ w') :
    (∃ x, w.cell? a = some x) ∧ w.frozen? a = false ∧ letW (w.setCell a v) φ :=
  cell_put h.cell hi ha fun w' h' k' => hφ w' ⟨by rw [h', he, hh], by rw [hh]; exact h.own.keep k' fun k hk e => h.sep (by rw [← e]; exact hk), h.fp⟩ k'
theorem DAt.buf (h : DAt w u F s A c) {A' : Option Addr} {n' c' : Nat} {ys : List Int} {a : Addr} (ha : a = ⟨u, 5, none⟩) (o : OBytes w A' c' ys) (l : ys.length = n') (hn : ¬ blk A' u) {φ : World → Prop} (hφ : ∀ w', DAt w' u (fun k => k = u ∨ blk A' k) { s with has := ys } A' c' → Keep (· = u) w w' → φ w') :
    (∃ x, w.cell? a = some x) ∧ w.frozen? a = false ∧ letW (w.setCell a (.slice A' n' c')) φ := by
  subst l
  exact cell_put h.cell (by show 5 < 6; decide) ha fun w' h' k' => hφ w' ⟨h', o.keep k' fun k hk e => hn (by rw [← e]; exact hk), fun k => Iff.rfl⟩ k'
theorem DAt.c0 (h : DAt w u F s A c) : w.cell? ⟨u, 0, none⟩ = some (.bool s.k.ac) := (cell_of h.cell).trans rfl
theorem DAt.c1 (h : DAt w u F s A c) : w.cell? ((Addr.mk u 0 none).add 1) = some (.bool s.k.pf) := by rw [add_mk]; exact (cell_of h.cell).trans rfl
theorem DAt.c2 (h : DAt w u F s A c) : w.cell? ((Addr.mk u 0 none).add 2) = some (.int .i64 s.k.mp) := by rw [add_mk]; exact (cell_of h.cell).trans rfl
theorem DAt.c3 (h : DAt w u F s A c) : w.cell? ((Addr.mk u 0 none).add 3) = some (.int .u32 s.nx) := by rw [add_mk]; exact (cell_of h.cell).trans rfl
theorem DAt.c4 (h : DAt w u F s A c) : w.cell? ((Addr.mk u 0 none).add 4) = some (.bool s.un) := by rw [add_mk]; exact (cell_of h.cell).trans rfl
theorem DAt.c5 (h : DAt w u F s A c) : w.cell? ((Addr.mk u 0 none).add 5) = some (.slice A s.has.length c) := by rw [add_mk]; exact (cell_of h.cell).trans rfl
/-- Closed, and nothing gathered. -/
theorem DAt.close (h : DAt w u F s A c) {φ : World → Prop} (hφ : ∀ w', DAt w' u (fun k => k = u ∨ blk none k) { s with un := false, has := [] } none 0 → Keep (· = u) w w' → φ w') :
    (∃ x : Value, w.cell? ((Addr.mk u 0 none).add 4) = some x) ∧ w.frozen? ((Addr.mk u 0 none).add 4) = false ∧ letW (w.setCell ((Addr.mk u 0 none).add 4) (.bool false)) fun w1 => ∃ p : Addr, some (Addr.mk u 0 none) = some p ∧ (∃ x : Value, w1.cell? (p.add 5) = some x) ∧ w1.frozen? (p.add 5) = false ∧ letW (w1.setCell (p.add 5) (.slice none 0 0)) φ :=
  h.put (i := 4) (s' := { s with un := false }) (by decide) (by rw [add_mk]) rfl rfl fun w1 h1 k1 => ⟨_, rfl, h1.buf (A' := none) (c' := 0) (ys := []) (by rw [add_mk]) (.inl ⟨rfl, rfl, rfl⟩) rfl blk_none fun w2 h2 k2 => hφ w2 h2 (k1.trans' k2)⟩

def DFeedOf (F : Nat → Prop) (W : World) (r : Int × Option (List Int)) (v : Value) (w' : World) : Prop :=
  ∃ A c, v = .tuple #[.slice A (r.2.getD []).length c, .bool r.2.isSome, .int .i64 r.1] ∧ OBytes w' A c (r.2.getD []) ∧ ∀ k, blk A k → F k ∨ W.heap.size ≤ k
theorem DFeedOf.none {F : Nat → Prop} {W w' : World} {e : Int} : DFeedOf F W (e, Option.none) (.tuple #[.slice Option.none 0 0, .bool false, .int .i64 e]) w' := ⟨Option.none, 0, rfl, .inl ⟨rfl, rfl, rfl⟩, fun k hk => absurd hk blk_none⟩

/-- The document's end of Feed. -/
theorem rfeed_two {W : World} {F0 : Nat → Prop} {p : Nat} {e : Bool} (k0 : Keep F0 W w) (n0 : ∀ k, F k → F0 k ∨ W.heap.size ≤ k) (hu0 : F0 u) (h : DOk w u F s) (he : w.cell? ((Addr.mk p 0 none).add 3) = some (.bool e)) (hun : s.un = false → s.has = []) {R : Value → World → Prop}
    (hR : ∀ v w', DFeedOf F0 W (if s.un = false then ((0 : Int), Option.none) else if 65535 < s.has.length then ((0 : Int), Option.none) else if e = false then (0, Option.none) else (0, some s.has)) v w' →
      DStep W u F0 (if s.un = false then s else if 65535 < s.has.length then { s with un := false, has := [] } else if e = false then s else { s with un := false, has := [] }) w' → R v w') :
    ref9_Bundle_Feed.J2 R (some ⟨u, 0, none⟩) ⟨p, 0, none⟩ w := by
  obtain ⟨A, c, hb⟩ := h
  have closed : ∀ w', DAt w' u (fun k => k = u ∨ blk none k) { s with un := false, has := [] } none 0 → Keep (· = u) w w' → DStep W u F0 { s with un := false, has := [] } w' := by
    intro w' h' k'
    refine ⟨_, ⟨_, _, h'⟩, k0.trans k' (fun _ _ h => h) (fun i _ h => by rw [h]; exact hu0), fun k hk => ?_⟩
    rcases hk with rfl | hk
    · exact .inl hu0
    · exact absurd hk blk_none
  have stay : DStep W u F0 s w := ⟨F, ⟨A, c, hb⟩, k0, n0⟩
  refine ⟨_, rfl, _, _, _, hb.c5, ifP_decide.2 ⟨fun h1 => ⟨_, rfl, hb.close fun w' h' k' => hR _ _ ?_ ?_⟩, fun h1 => ⟨_, rfl, _, hb.c4, ifP_not.2 (ifP_of (fun hu => ⟨_, he, ?_⟩) fun hu => ifP_t rfl (hR _ _ ?_ ?_))⟩⟩⟩
  · have hu : ¬ s.un = false := fun h => by rw [hun h] at h1; simp at h1
    rw [if_neg hu, if_pos (by omega)]
    exact DFeedOf.none
  · have hu : ¬ s.un = false := fun h => by rw [hun h] at h1; simp at h1
    rw [if_neg hu, if_pos (by omega)]
    exact closed w' h' k'
  · have hu' : ¬ s.un = false := by rw [hu]; decide
    simp only [if_neg hu', if_neg (show ¬ 65535 < s.has.length by omega)] at hR
    refine ifP_not.2 (ifP_of (fun hee => ⟨_, rfl, _, _, _, hb.c5, _, rfl, hb.close fun w' h' k' => hR _ _ ?_ ?_⟩) fun hee => hR _ _ ?_ ?_)
    · rw [if_neg (by rw [hee]; decide)]
      exact ⟨A, c, rfl, hb.own.keep k' fun k hk e => hb.sep (by rw [← e]; exact hk), fun k hk => n0 k ((hb.fp k).2 (.inr hk))⟩
    · rw [if_neg (by rw [hee]; decide)]
      exact closed w' h' k'
    · rw [if_pos hee]; exact DFeedOf.none
    · rw [if_pos hee]; exact stay
  · rw [if_pos hu]; exact DFeedOf.none
  · rw [if_pos hu]; exact stay

variable {B : Option Addr} {n bc : Nat} {xs : List Int}
theorem rfeed_spec (h : DOk w u F s) (ok : s.ok) (hb : IBytes w B n xs) (hx : ∀ x ∈ xs, 0 ≤ x ∧ x ≤ 255) (hc : n ≤ bc) (hn : n ≤ 140737488355328) (hB : 0 < n → ∀ k, blk B k → ¬ F k) (hBl : 0 < n → ∀ k, blk B k → k < w.heap.size) :
    Run Try.prog 21 #[.pointer (some ⟨u, 0, none⟩), .slice B n bc] w fun v w' => DFeedOf F w (feedX s xs).1 v w' ∧ DStep w u F (feedX s xs).2 w' := by
  have hl := hb.len
  have h' := h
  obtain ⟨A, c, hb0⟩ := h'
  have hu0 : F u := (hb0.fp u).2 (.inl rfl)
  have hrp := read_piece (xs := xs) ok.k
  have hsp := spaceK_two (k := s.k)
  refine ref9_Bundle_Feed.ok ⟨_, rfl, _, hb0.c0, _, hb0.c1, _, hb0.c2, (rpiece_spec (k := s.k) hb hx hn).mono ?_⟩
  rintro v w2 ⟨rfl, x2⟩
  cases hr : pieceR s.k xs with
  | error e =>
    rw [hr] at hrp
    have he : e ≠ 0 := piece_err hr
    have e1 : feedX s xs = ((e, none), s) := by unfold feedX; rw [hrp]
    refine ⟨_, _, _, _, _, _, _, _, _, _, rfl, letA fun w3 h3 x3 s3 => st9 h3 rfl (v := vw0) fun w4 h4 k4 => ifP_ne he ?_⟩
    rw [e1]
    exact ⟨DFeedOf.none, DStep.same h ((x2.trans x3).fresh k4 fun i hi => by rw [hi]; exact x2.size)⟩
  | ok v =>
    rw [hr] at hrp
    refine ⟨_, _, _, _, _, _, _, _, _, _, rfl, letA fun w3 h3 x3 s3 => st9 h3 rfl (v := v) fun w4 h4 k4 => ifP_nne rfl ?_⟩
    have x04 : Go.Rd.Ext w w4 := (x2.trans x3).fresh k4 fun i hi => by rw [hi]; exact x2.size
    have v4 := At9.block h4
    have d4 := hb0.ext x04
    refine ⟨_, v4.m, ifP_not.2 (ifP_of (fun hm => letD fun w5 _ x5 => ?_) fun hm => ?_)⟩
    · have hrd : readX s.k xs = .ok (v.b, v.e, v.s, v.a) := by rw [hrp]; exact if_pos hm
      obtain ⟨q0, q1, hlen⟩ := readX_range hrd
      have ha := readX_place hrd
      obtain ⟨i, hi⟩ := Int.eq_ofNat_of_zero_le ha.1
      have hin : i ≤ n := by omega
      have x05 := x04.trans x5
      have d5 := hb0.ext x05
      have v5 : At9 w5 ⟨w2.heap.size, 0, none⟩ v := At9.block (x5.heap h4)
      have h5 := x5.heap h4
      have z5 := x05.size
      have z2 := x2.size
      have hpl : w2.heap.size < w5.heap.size := (Array.getElem?_eq_some_iff.1 h5).1
      have hpF : ∀ {G : Nat → Prop}, (∀ k, G k → F k ∨ w5.heap.size ≤ k) → ¬ G w2.heap.size := fun hG h1 => by
        rcases hG _ h1 with h2 | h2
        · have := hb0.lt h2; omega
        · omega
      have hc5 : ∀ {w6 : World} {G : Nat → Prop}, Keep G w5 w6 → (∀ k, G k → F k ∨ w5.heap.size ≤ k) → IBytes w6 (subA B bc i 1) (n - i) (xs.drop i) := by
        intro w6 G k6 hG
        have hb6 : IBytes w6 B n xs := by
          by_cases h0 : 0 < n
          · refine (hb.ext x05).keep k6 fun a ha hS => ?_
            have hab : blk B a.block := ⟨a, ha, rfl⟩
            rcases hG _ hS with h1 | h1
            · exact hB h0 _ hab h1
            · have := hBl h0 _ hab
              omega
          · have : n = 0 := by omega
            subst this
            obtain rfl := List.eq_nil_of_length_eq_zero hl
            exact ⟨rfl, fun i x hi => by simp at hi⟩
        exact IBytes.rest hb6 hin hc
      have e1 : feedX s xs = feedE (feedS s v.b v.s) v.e (xs.drop i) := by
        have := feedX_eq hrd
        rw [hi] at this
        exact this
      have hch : (xs.drop i).length = n - i := by rw [List.length_drop, hl]
      -- the end
      have fin : ∀ (w6 : World) (F6 : Nat → Prop) (s6 : BSt), DOk w6 u F6 s6 → Keep F w5 w6 → (∀ k, F6 k → F k ∨ w5.heap.size ≤ k) → s6 = (if (feedS s v.b v.s).un = true then { feedS s v.b v.s with has := (feedS s v.b v.s).has ++ xs.drop i } else feedS s v.b v.s) →
          ref9_Bundle_Feed.J2 (fun v w' => DFeedOf F w (feedX s xs).1 v w' ∧ DStep w u F (feedX s xs).2 w') (some ⟨u, 0, none⟩) ⟨w2.heap.size, 0, none⟩ w6 := by
        intro w6 F6 s6 ok6 k6 n6 hs6
        have v6 : At9 w6 ⟨w2.heap.size, 0, none⟩ v := At9.block (k6.heap h5 (hpF fun k hk => .inl hk))
        have hflat : (feedS s v.b v.s).un = false → (feedS s v.b v.s).has = [] := by
          unfold feedS
          split
          · intro h; cases h
          · split
            · intro h; cases h
            · intro _; rfl
        refine rfeed_two (s := s6) (e := v.e) (W := w) (F0 := F) ((Keep.ext x05).trans' k6) (fun k hk => ?_) hu0 ok6 v6.e ?_ ?_
        · rcases n6 k hk with h1 | h1
          · exact .inl h1
          · exact .inr (by omega)
        · rw [hs6]
          split
          · rename_i hh; intro h; rw [show (feedS s v.b v.s).un = false from h] at hh; cases hh
          · exact hflat
        · intro r w' h1 h2
          rw [e1, feedE_parts.1, feedE_parts.2]
          rcases Bool.eq_false_or_eq_true (feedS s v.b v.s).un with hun | hun
          · rw [if_pos hun] at hs6
            have hn : ¬ (feedS s v.b v.s).un = false := by rw [hun]; decide
            have hn6 : ¬ s6.un = false := by rw [hs6]; exact hn
            rw [if_neg hn6] at h1 h2
            rw [if_neg hn, if_neg hn]
            rw [hs6] at h1 h2
            exact ⟨h1, h2⟩
          · rw [if_neg (by rw [hun]; decide)] at hs6
            rw [hs6, if_pos hun] at h1 h2
            rw [if_pos hun, if_pos hun]
            exact ⟨h1, h2⟩
      -- from the first bit on
      have one : ∀ (w6 : World) (F6 : Nat → Prop) (s6 : BSt), DOk w6 u F6 s6 → Keep F w5 w6 → (∀ k, F6 k → F k ∨ w5.heap.size ≤ k) → s6.has.length ≤ 65535 → (v.b = false → s6 = ⟨s.k, (v.s + 1) % spaceK s.k, (feedS s v.b v.s).un, (feedS s v.b v.s).has⟩) → s6.k = s.k → s6.nx = (v.s + 1) % spaceK s.k →
          ref9_Bundle_Feed.J1 (fun v w' => DFeedOf F w (feedX s xs).1 v w' ∧ DStep w u F (feedX s xs).2 w') (some ⟨u, 0, none⟩) B n bc ⟨w2.heap.size, 0, none⟩ w6 := by
        intro w6 F6 s6 ok6 k6 n6 hl6 hs6 hsk hsn
        obtain ⟨A6, c6, d6⟩ := ok6
        have v6 : At9 w6 ⟨w2.heap.size, 0, none⟩ v := At9.block (k6.heap h5 (hpF fun k hk => .inl hk))
        have hu6 : F6 u := (d6.fp u).2 (.inl rfl)
        refine ⟨_, v6.b, ifP_of (fun hbt => ⟨_, rfl, d6.put (i := 4) (s' := { s6 with un := true }) (by decide) (by rw [add_mk]) rfl rfl fun w7 d7 k7 => letA fun w8 h8 x8 s8 => ?_⟩) fun hbf => ?_⟩
        · have kk7 : Keep F w5 w7 := k6.trans' (k7.mono fun k _ hk => by rw [hk]; exact hu0)
          have kk8 : Keep F w5 w8 := kk7.trans' (Keep.ext x8)
          have v8 : At9 w8 ⟨w2.heap.size, 0, none⟩ v := At9.block (kk8.heap h5 (hpF fun k hk => .inl hk))
          refine ⟨_, v8.a, ?_⟩
          rw [hi, Int.toNat_natCast]
          refine ⟨by omega, by omega, by omega, ?_⟩
          have o8 : OBytes w8 (some (newA w7)) 0 [] := .inr ⟨_, [], rfl, h8, rfl⟩
          obtain ⟨A9, c9, w9, hr9, o9, l9, k9, b9⟩ := app_bytes (n := 0) (d := bc - i) o8 rfl (hc5 kk8 fun k hk => .inl hk) (by omega)
          rw [Nat.zero_add] at hr9 l9
          rw [List.nil_append] at o9 l9
          have z8 := kk8.size
          have z7 := kk7.size
          have new9 : ∀ k, blk A9 k → w7.heap.size ≤ k := fun k hk => by
            rcases b9 k hk with h1 | h1
            · rw [blk_some.1 h1]; exact Nat.le_refl _
            · omega
          have hu7 : u < w7.heap.size := d7.lt ((d7.fp u).2 (.inl rfl))
          have d9 : DAt w9 u F6 { s6 with un := true } A6 c6 := (d7.ext x8).keep k9 fun k hk h1 => by
            have := d7.lt hk
            rw [blk_some.1 h1] at this
            omega
          have kk9 : Keep F w5 w9 := kk8.trans k9 (fun _ _ h => h) fun j hj h1 => by
            rw [blk_some.1 h1] at hj
            omega
          refine ⟨_, w9, hr9, A9, _, c9, rfl, _, rfl, d9.buf (by rw [add_mk]) o9 l9 (fun hk => by have := new9 _ hk; omega) fun w10 d10 k10 => fin w10 _ _ ⟨_, _, d10⟩ (kk9.trans' (k10.mono fun k _ hk => by rw [hk]; exact hu0)) (fun k hk => ?_) ?_⟩
          · rcases hk with rfl | hk
            · exact .inl hu0
            · exact .inr (by have := new9 k hk; omega)
          · have ef : feedS s v.b v.s = ⟨s.k, (v.s + 1) % spaceK s.k, true, []⟩ := by unfold feedS; rw [if_pos hbt]
            rw [ef]
            simp only [if_true, List.nil_append]
            rw [hsk, hsn]
        · have hs6 := hs6 hbf
          refine ⟨_, rfl, _, d6.c4, ifP_of (fun hun => ?_) fun hun => ?_⟩
          · let S : World → Prop := fun x => x.cell? ((Addr.mk u 0 none).add 5) = some (.slice A6 s6.has.length c6) ∧ x.cell? ((Addr.mk w2.heap.size 0 none).add 5) = some (.int .i64 v.a)
            refine ⟨S, ⟨(Go.Rd.Ext.drew w6).cell d6.c5, (Go.Rd.Ext.drew w6).cell v6.a⟩, letD fun w7 _ x7 => ⟨_, rfl, _, _, _, fun x hx => hx.1, _, fun x hx => hx.2, ?_⟩⟩
            have kk7 : Keep F w5 w7 := k6.trans' (Keep.ext x7)
            rw [hi, Int.toNat_natCast]
            refine ⟨by omega, by omega, by omega, ?_⟩
            have d7 := d6.ext x7
            obtain ⟨A9, c9, w9, hr9, o9, l9, k9, b9⟩ := app_bytes (d := bc - i) d7.own rfl (hc5 kk7 fun k hk => .inl hk) (by omega)
            have hA9u : ¬ blk A9 u := fun hk => by
              rcases b9 u hk with h1 | h1
              · exact d7.sep h1
              · have := d7.lt hu6; omega
            have hcell9 : w9.heap[u]? = some (.cells (dCells s6 A6 s6.has.length c6) 37 (0, 0)) := k9.heap d7.cell d7.sep
            have kk9 : Keep F w5 w9 := kk7.trans k9 (fun _ _ h => h) fun j hj h1 => by
              rcases n6 j ((d7.fp j).2 (.inr h1)) with h2 | h2
              · exact h2
              · omega
            refine ⟨_, w9, hr9, A9, _, c9, rfl, _, rfl, cell_put hcell9 (i := 5) (by show 5 < 6; decide) (by rw [add_mk]) fun w10 h10 k10 => ?_⟩
            have d10 : DAt w10 u (fun k => k = u ∨ blk A9 k) { s6 with has := s6.has ++ xs.drop i } A9 c9 := by
              refine ⟨?_, o9.keep k10 fun k hk e => hA9u (by rw [← e]; exact hk), fun k => Iff.rfl⟩
              rw [h10]
              show some (Obj.cells #[_, _, _, _, _, _] _ _) = some (Obj.cells #[_, _, _, _, _, .slice A9 (s6.has ++ xs.drop i).length c9] _ _)
              rw [l9]
            unfold ref9_Bundle_Feed.J4
            refine fin w10 _ _ ⟨_, _, d10⟩ (kk9.trans' (k10.mono fun k _ hk => by rw [hk]; exact hu0)) (fun k hk => ?_) ?_
            · rcases hk with rfl | hk
              · exact .inl hu0
              · rcases b9 k hk with h1 | h1
                · exact n6 k ((d7.fp k).2 (.inr h1))
                · exact .inr (by have := kk7.size; omega)
            · have hfu : (feedS s v.b v.s).un = true := by rw [hs6] at hun; exact hun
              rw [if_pos hfu, hs6]
              have ef : feedS s v.b v.s = ⟨s.k, (v.s + 1) % spaceK s.k, (feedS s v.b v.s).un, (feedS s v.b v.s).has⟩ := by
                unfold feedS
                split
                · rfl
                · split <;> rfl
              rw [ef]
          · refine fin w6 F6 s6 ⟨A6, c6, d6⟩ k6 n6 ?_
            have hfu : (feedS s v.b v.s).un = false := by rw [hs6] at hun; exact hun
            rw [if_neg (by rw [hfu]; decide), hs6]
            unfold feedS
            split
            · rfl
            · split <;> rfl
      -- from the number on
      have zero : ∀ (w6 : World) (F6 : Nat → Prop) (s6 : BSt), DOk w6 u F6 s6 → Keep F w5 w6 → (∀ k, F6 k → F k ∨ w5.heap.size ≤ k) → s6.has.length ≤ 65535 → s6.k = s.k → (v.b = false → (feedS s v.b v.s).un = s6.un ∧ (feedS s v.b v.s).has = s6.has) →
          ref9_Bundle_Feed.J0 (fun v w' => DFeedOf F w (feedX s xs).1 v w' ∧ DStep w u F (feedX s xs).2 w') (some ⟨u, 0, none⟩) B n bc ⟨w2.heap.size, 0, none⟩ w6 := by
        intro w6 F6 s6 ok6 k6 n6 hl6 hsk hs6
        obtain ⟨A6, c6, d6⟩ := ok6
        have v6 : At9 w6 ⟨w2.heap.size, 0, none⟩ v := At9.block (k6.heap h5 (hpF fun k hk => .inl hk))
        let S : World → Prop := fun x => x.cell? ((Addr.mk w2.heap.size 0 none).add 4) = some (.int .u32 v.s) ∧ x.cell? ⟨u, 0, none⟩ = some (.bool s6.k.ac) ∧ x.cell? ((Addr.mk u 0 none).add 1) = some (.bool s6.k.pf) ∧ x.cell? ((Addr.mk u 0 none).add 2) = some (.int .i64 s6.k.mp)
        have sS : ∀ x', Go.Rd.Ext w6 x' → S x' := fun x' hx => ⟨hx.cell v6.s, hx.cell d6.c0, hx.cell d6.c1, hx.cell d6.c2⟩
        refine ⟨S, sS _ (Go.Rd.Ext.drew w6), letD fun w7 _ x7 => ⟨_, fun x hx => hx.1, _, rfl, _, fun x hx => hx.2.1, _, fun x hx => hx.2.2.1, _, fun x hx => hx.2.2.2, (rspace_spec (k := s6.k)).mono ?_⟩⟩
        rintro r w8 ⟨rfl, x8⟩
        have d8 := (d6.ext x7).ext x8
        have hsp6 := spaceK_two (k := s6.k)
        have et : Int.tmod (IntKind.u32.wrap (v.s + 1)) (spaceK s6.k) = (v.s + 1) % spaceK s.k := by
          rw [wrap_u32 (by omega) (by omega), hsk]
          exact Int.tmod_eq_emod_of_nonneg (by omega)
        refine ⟨_, rfl, sS _ (x7.trans x8), by omega, _, rfl, ?_⟩
        rw [et]
        refine d8.put (i := 3) (s' := { s6 with nx := (v.s + 1) % spaceK s.k }) (by decide) (by rw [add_mk]) rfl rfl fun w9 d9 k9 => one w9 F6 _ ⟨_, _, d9⟩ ((k6.trans' (Keep.ext (x7.trans x8))).trans' (k9.mono fun k _ hk => by rw [hk]; exact hu0)) n6 hl6 (fun hbf => ?_) hsk rfl
        obtain ⟨h1, h2⟩ := hs6 hbf
        rw [h1, h2, ← hsk]
      refine ⟨_, v5.s, _, rfl, _, d5.c3, ifP_bne.2 ⟨fun hne => ⟨_, rfl, d5.close fun w6 d6 k6 => zero w6 _ _ ⟨_, _, d6⟩ (k6.mono fun k _ hk => by rw [hk]; exact hu0) (fun k hk => ?_) (Nat.zero_le _) rfl fun hbf => ?_⟩, fun heq => zero w5 F s ⟨A, c, d5⟩ (Keep.refl _) (fun k hk => .inl hk) ok.has rfl fun hbf => ?_⟩⟩
      · rcases hk with rfl | hk
        · exact .inl hu0
        · exact absurd hk blk_none
      · unfold feedS
        rw [if_neg (by rw [hbf]; decide), if_neg (fun h => hne h.2)]
        exact ⟨rfl, rfl⟩
      · unfold feedS
        rw [if_neg (by rw [hbf]; decide)]
        cases hun : s.un with
        | true => rw [if_pos ⟨rfl, heq⟩]; exact ⟨rfl, rfl⟩
        | false => rw [if_neg (by intro h; cases h.1), ok.un hun]; exact ⟨rfl, rfl⟩
    · have e1 : feedX s xs = ((94, none), s) := by
        unfold feedX
        rw [hrp]
        simp only
        rw [if_neg (by rw [hm]; decide)]
      rw [e1]
      exact ⟨DFeedOf.none, DStep.same h x04⟩
end
end Go.Proofs.Ytgjabpgkiaojhaa
