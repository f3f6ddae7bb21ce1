/- Package bundle: Feed. -/
import Derived.Test.YtgjabpgkiaojhaaB5
namespace Go.Proofs.Ytgjabpgkiaojhaa
open Go.Rd Go.RowKit
set_option linter.unusedVariables false
set_option linter.unusedSimpArgs false

def feedS (s : BSt) (b : Bool) (q : Int) : BSt :=
  if b = true then ⟨s.k, (q + 1) % spaceK s.k, true, []⟩ else if s.un = true ∧ q = s.nx then ⟨s.k, (q + 1) % spaceK s.k, true, s.has⟩ else ⟨s.k, (q + 1) % spaceK s.k, false, []⟩
def feedE (s : BSt) (e : Bool) (ch : List Int) : (Int × Option (List Int)) × BSt :=
  if s.un = false then ((0, none), s) else if 65535 < (s.has ++ ch).length then ((0, none), { s with un := false, has := [] }) else if e = false then ((0, none), { s with has := s.has ++ ch }) else ((0, some (s.has ++ ch)), { s with un := false, has := [] })
theorem feedX_eq {s : BSt} {xs : List Int} {b e : Bool} {q a : Int} (h : readX s.k xs = .ok (b, e, q, a)) : feedX s xs = feedE (feedS s b q) e (xs.drop a.toNat) := by
  unfold feedX feedE feedS
  rw [h]
  simp only
  cases b with
  | true => simp
  | false =>
    cases hu : s.un with
    | true =>
      by_cases hq : q = s.nx
      · simp [hq]
      · simp [hq]
    | false => simp
theorem feedE_parts {s : BSt} {e : Bool} {ch : List Int} : (feedE s e ch).1 = (if s.un = false then ((0 : Int), none) else if 65535 < (s.has ++ ch).length then ((0 : Int), none) else if e = false then (0, none) else (0, some (s.has ++ ch))) ∧
    (feedE s e ch).2 = (if s.un = false then s else if 65535 < (s.has ++ ch).length then { s with un := false, has := [] } else if e = false then { s with has := s.has ++ ch } else { s with un := false, has := [] }) := by
  unfold feedE
  split
  · exact ⟨rfl, rfl⟩
  · split
    · exact ⟨rfl, rfl⟩
    · split
      · exact ⟨rfl, rfl⟩
      · exact ⟨rfl, rfl⟩

theorem feedE_ok {s : BSt} {e : Bool} {ch : List Int} (hk : goodK s.k) (hn : 0 ≤ s.nx ∧ s.nx < spaceK s.k) (hu : s.un = false → s.has = []) : (feedE s e ch).2.ok := by
  rw [feedE_parts.2]
  split
  · rename_i h
    exact ⟨hk, hn, hu, by rw [hu h]; exact Nat.zero_le _⟩
  · rename_i h
    split
    · exact ⟨hk, hn, fun _ => rfl, Nat.zero_le _⟩
    · split
      · exact ⟨hk, hn, fun h2 => absurd h2 h, by show (s.has ++ ch).length ≤ _; omega⟩
      · exact ⟨hk, hn, fun _ => rfl, Nat.zero_le _⟩
theorem feedX_ok {s : BSt} (h : s.ok) (xs : List Int) : (feedX s xs).2.ok := by
  cases hr : readX s.k xs with
  | error e => unfold feedX; rw [hr]; exact h
  | ok r =>
    obtain ⟨b, e, q, a⟩ := r
    rw [feedX_eq hr]
    have hf := h.flat (n := q + 1)
    unfold feedS
    split
    · exact feedE_ok h.k hf.nx fun h => (by cases h)
    · split
      · exact feedE_ok h.k hf.nx fun h => (by cases h)
      · exact feedE_ok h.k hf.nx fun _ => rfl

section
variable {w : World} {u : Nat} {F : Nat → Prop} {s : BSt} {B : Option Addr} {n bc : Nat} {xs : List Int}
/-- From the number on. -/
theorem feed_zero {W : World} {F0 : Nat → Prop} {p : Nat} {C : Option Addr} {cn cc : Nat} {ys : List Int} {b e : Bool} {q : Int} (k0 : Keep F0 W w) (n0 : ∀ k, F k → F0 k ∨ W.heap.size ≤ k) (hpF : ¬ F p) (h : BOk w u F s) (q0 : 0 ≤ q) (q1 : q < 16777216) (hp : w.heap[p]? = some (.cells #[.int .u32 q, .bool b, .bool e, .slice C cn cc] 73 (0, 0)))
    (hc : ∀ w' F', Keep F' w w' → (∀ k, F' k → F k ∨ w.heap.size ≤ k) → IBytes w' C cn ys) (hcn : cn ≤ 65535) (hlen : s.has.length ≤ 65535) {s3 : BSt} (h3 : s3 = if b = true then ⟨s.k, (q + 1) % spaceK s.k, true, []⟩ else ⟨s.k, (q + 1) % spaceK s.k, s.un, s.has⟩) {R : Value → World → Prop}
    (hR : ∀ v w', FeedOf W (feedE s3 e ys).1 v w' → BStepV W u F0 (feedE s3 e ys).2 v w' → R v w') :
    bundle_Bundle_Feed.J0 R (some ⟨u, 0, none⟩) ⟨p, 0, none⟩ w := by
  obtain ⟨A, c, hb⟩ := h
  have hpl : p < w.heap.size := (Array.getElem?_eq_some_iff.1 hp).1
  rw [(feedE_parts (s := s3) (e := e) (ch := ys)).1, (feedE_parts (s := s3) (e := e) (ch := ys)).2] at hR
  let S : World → Prop := fun x => x.cell? ⟨p, 0, none⟩ = some (.int .u32 q) ∧ x.cell? (((Addr.mk u 0 none).add 1).add 4) = some (.int .u32 (spaceK s.k))
  refine ⟨S, ⟨(Go.Rd.Ext.drew w).cell ((cell_of hp).trans rfl), (Go.Rd.Ext.drew w).cell hb.kd.c4⟩, letD fun w1 _ x1 => ⟨_, rfl, _, fun x hx => hx.1, _, rfl, _, fun x hx => hx.2, (pass_spec (s := s) (BOk.ext ⟨A, c, hb⟩ x1) q0 (by omega)).mono ?_⟩⟩
  rintro v w2 ⟨rfl, F2, ok2, k2, n2⟩
  have kk2 : Keep F w w2 := (Keep.ext x1).trans' k2
  have nn2 : ∀ k, F2 k → F k ∨ w.heap.size ≤ k := fun k hk => by
    rcases n2 k hk with h | h
    · exact .inl h
    · have := x1.size; exact .inr (by omega)
  have hpF2 : ¬ F2 p := fun h => by
    rcases nn2 p h with h | h
    · exact hpF h
    · omega
  have hp2 := kk2.heap hp hpF
  have cat : ∀ {w3 : World} {F3 : Nat → Prop}, Keep F w w3 → (∀ k, F3 k → F k ∨ w.heap.size ≤ k) → Keep F0 W w3 ∧ (∀ k, F3 k → F0 k ∨ W.heap.size ≤ k) := by
    intro w3 F3 kk nn
    refine ⟨k0.trans kk (fun _ _ h => h) fun i hi h => ?_, fun k hk => ?_⟩
    · rcases n0 i h with h | h
      · exact h
      · omega
    · rcases nn k hk with h | h
      · exact n0 k h
      · have := k0.size; exact .inr (by omega)
  refine ⟨rfl, _, by rw [add_mk]; exact (cell_of hp2).trans rfl, ifP_of (fun hbt => (forget_spec ok2).mono ?_) fun hbf => ?_⟩
  · rintro v w3 ⟨rfl, F3, ok3, k3, n3⟩
    obtain ⟨A3, c3, hb3⟩ := ok3
    have kk3 : Keep F w w3 := kk2.trans k3 (fun _ _ h => h) fun i hi h => by
      rcases nn2 i h with h | h
      · exact h
      · omega
    have nn3 : ∀ k, F3 k → F k ∨ w.heap.size ≤ k := fun k hk => by
      rcases n3 k hk with h | h
      · exact nn2 k h
      · have := kk2.size; exact .inr (by omega)
    refine ⟨rfl, _, rfl, hb3.put (i := 6) (s' := ⟨s.k, (q + 1) % spaceK s.k, true, []⟩) (by decide) (by rw [add_mk]) rfl rfl fun w4 h4 k4 => ?_⟩
    have kk4 : Keep F w w4 := kk3.trans k4 (fun _ _ h => h) fun i hi h => by
      rw [h]; exact (hb.fp u).2 (.inl rfl)
    have hpF3 : ¬ F3 p := fun h => by
      rcases nn3 p h with h | h
      · exact hpF h
      · omega
    rw [if_pos hbt] at h3
    subst h3
    obtain ⟨c1, c2⟩ := cat kk4 nn3
    refine feed_one (s := ⟨s.k, (q + 1) % spaceK s.k, true, []⟩) (b := b) (e := e) (q := q) c1 c2 hpF3 ⟨A3, c3, h4⟩ (kk4.heap hp hpF) (fun w' x' => hc w' F (kk4.trans' (Keep.ext x')) fun k hk => .inl hk) hcn (Nat.zero_le _) hR
  · rw [if_neg (by rw [hbf]; decide)] at h3
    subst h3
    obtain ⟨c1, c2⟩ := cat kk2 nn2
    exact feed_one (s := ⟨s.k, (q + 1) % spaceK s.k, s.un, s.has⟩) (b := b) (e := e) (q := q) c1 c2 hpF2 ok2 hp2 (fun w' x' => hc w' F (kk2.trans' (Keep.ext x')) fun k hk => .inl hk) hcn hlen hR

theorem feed_spec (h : BOk w u F s) (ok : s.ok) (hb : IBytes w B n xs) (hx : ∀ x ∈ xs, 0 ≤ x ∧ x ≤ 255) (hc : n ≤ bc) (hn : n ≤ 140737488355328) (hB : 0 < n → ∀ k, blk B k → ¬ F k) (hBl : 0 < n → ∀ k, blk B k → k < w.heap.size) :
    Run Try.prog 22 #[.pointer (some ⟨u, 0, none⟩), .slice B n bc] w fun v w' => FeedOf w (feedX s xs).1 v w' ∧ BStepV w u F (feedX s xs).2 v w' := by
  have hl := hb.len
  have h' := h
  obtain ⟨A, c, hb0⟩ := h'
  refine bundle_Bundle_Feed.ok ⟨_, rfl, hb0.kd.rd ((read_spec (k := s.k) hb hx hc hn).mono ?_)⟩
  rintro v w2 ⟨hv, x2⟩
  cases hr : readX s.k xs with
  | error e =>
    rw [hr] at hv
    obtain ⟨he, rfl⟩ := hv
    have e1 : feedX s xs = ((e, none), s) := by unfold feedX; rw [hr]
    refine ⟨_, _, _, _, _, _, _, rfl, letA fun w3 h3 x3 s3 => st4 h3 rfl (vs := [.int .u32 0, .bool false, .bool false, .slice none 0 0]) rfl rfl fun w4 h4 k4 => ifP_ne he ?_⟩
    rw [e1]
    exact ⟨FeedOf.none, BStep.none <| BStep.same h ((x2.trans x3).fresh k4 fun i hi => by rw [hi]; exact x2.size)⟩
  | ok r =>
    obtain ⟨b, e, q, a⟩ := r
    rw [hr] at hv
    obtain ⟨rfl, a0, a1⟩ := hv
    obtain ⟨q0, q1, hlen⟩ := readX_range hr
    have hsp := spaceK_two (k := s.k)
    obtain ⟨i, rfl⟩ := Int.eq_ofNat_of_zero_le a0
    rw [Int.toNat_natCast]
    refine ⟨_, _, _, _, _, _, _, rfl, letA fun w3 h3 x3 s3 => st4 h3 rfl (vs := [.int .u32 q, .bool b, .bool e, .slice (subA B bc i 1) (n - i) (bc - i)]) rfl rfl fun w4 h4 k4 => ifP_nne rfl (letD fun w5 _ x5 => ?_)⟩
    have x05 : Go.Rd.Ext w w5 := ((x2.trans x3).fresh k4 fun i hi => by rw [hi]; exact x2.size).trans x5
    have h5 := x5.heap h4
    have hb5 := hb0.ext x05
    have hpF : ¬ F w2.heap.size := fun hF => by have := hb0.lt hF; have := x2.size; omega
    have hc5 : ∀ {w6 : World} {G : Nat → Prop}, Keep G w5 w6 → (∀ k, G k → F k ∨ w.heap.size ≤ k) → IBytes w6 (subA B bc i 1) (n - i) (xs.drop i) := by
      intro w6 G k6 hG
      have hb6 : IBytes w6 B n xs := by
        by_cases h0 : 0 < n
        · refine (hb.ext x05).keep k6 fun a ha hS => ?_
          have hab : blk B a.block := ⟨a, ha, rfl⟩
          rcases hG _ hS with h1 | h1
          · exact hB h0 _ hab h1
          · have := hBl h0 _ hab
            omega
        · have : n = 0 := by omega
          subst this
          obtain rfl := List.eq_nil_of_length_eq_zero hl
          exact ⟨rfl, fun i x hi => by simp at hi⟩
      exact IBytes.rest hb6 (by omega) hc
    have e1 : feedX s xs = feedE (feedS s b q) e (xs.drop i) := feedX_eq hr
    have go : ∀ (w6 : World) (F6 : Nat → Prop) (s1 : BSt), BOk w6 u F6 s1 → Keep F w5 w6 → (∀ k, F6 k → F k ∨ w5.heap.size ≤ k) → s1.k = s.k → s1.has.length ≤ 65535 → feedS s b q = (if b = true then ⟨s.k, (q + 1) % spaceK s.k, true, []⟩ else ⟨s.k, (q + 1) % spaceK s.k, s1.un, s1.has⟩) →
        bundle_Bundle_Feed.J0 (fun v w' => FeedOf w (feedX s xs).1 v w' ∧ BStepV w u F (feedX s xs).2 v w') (some ⟨u, 0, none⟩) ⟨w2.heap.size, 0, none⟩ w6 := by
      intro w6 F6 s1 ok6 k6 n6 hk hl1 h3
      have z5 := x05.size
      refine feed_zero (F := F6) (F0 := F) (W := w) (s := s1) (b := b) (e := e) (q := q) (ys := xs.drop i) (C := subA B bc i 1) (cn := n - i) (cc := bc - i) (s3 := feedS s b q) ((Keep.ext x05).trans' k6) (fun k hk => ?_) (fun hF => ?_) ok6 q0 (by omega) (k6.heap h5 hpF) (fun w' F' k' hF' => ?_) (by omega) hl1 (by rw [hk]; exact h3) ?_
      · rcases n6 k hk with h1 | h1
        · exact .inl h1
        · exact .inr (by omega)
      · rcases n6 _ hF with h1 | h1
        · exact hpF h1
        · have := (Array.getElem?_eq_some_iff.1 h5).1; omega
      · refine hc5 (G := fun k => F k ∨ w5.heap.size ≤ k) (k6.trans k' (fun _ _ h => .inl h) fun j hj h => ?_) fun k hk => ?_
        · rcases hF' j h with h1 | h1
          · exact (n6 j h1)
          · have := k6.size; exact .inr (by omega)
        · rcases hk with h1 | h1
          · exact .inl h1
          · exact .inr (by omega)
      · intro v w' h1 h2
        rw [e1]
        exact ⟨h1, h2⟩
    refine ⟨_, (cell_of h5).trans rfl, _, rfl, _, hb5.c0, ifP_bne.2 ⟨fun hne => (forget_spec ⟨A, c, hb5⟩).mono ?_, fun heq => ?_⟩⟩
    · rintro v w6 ⟨rfl, F6, ok6, k6, n6⟩
      refine ⟨rfl, go w6 F6 { s with un := false, has := [] } ok6 k6 n6 rfl (Nat.zero_le _) ?_⟩
      unfold feedS
      split
      · rfl
      · rw [if_neg (fun h => hne h.2)]
    · refine go w5 F s ⟨A, c, hb5⟩ (Keep.refl _) (fun k hk => .inl hk) rfl ok.has ?_
      unfold feedS
      split
      · rfl
      · cases hu : s.un with
        | true => rw [if_pos ⟨rfl, heq⟩]
        | false =>
          rw [if_neg (fun h => by cases h.1), ok.un hu]
end
end Go.Proofs.Ytgjabpgkiaojhaa
