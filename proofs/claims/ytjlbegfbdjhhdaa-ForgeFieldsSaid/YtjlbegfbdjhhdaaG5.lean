/- forge.Make. -/
import Derived.Test.YtjlbegfbdjhhdaaG4
namespace Go.Proofs.Ytjlbegfbdjhhdaa
open Go.Rd Go.RowKit
set_option linter.unusedVariables false
set_option linter.unusedSimpArgs false

theorem Own.typ {e sz : Nat} {w : World} {A : Option Addr} {c : Nat} {cs : List Value} (h : Own e sz w A c cs) {k : Nat} (hk : blk A k) : ∃ vs, w.heap[k]? = some (.cells vs e (0, 0)) := by
  rcases h with ⟨rfl, _⟩ | ⟨b, sp, rfl, hb, hl⟩
  · exact (blk_none hk).elim
  · rw [blk_some.1 hk]; exact ⟨_, hb⟩
theorem own_sep {w : World} {A B : Option Addr} {c d : Nat} {cs ds : List Value} (h : Own 26 1 w A c cs) (h2 : Own 5 1 w B d ds) {k : Nat} (hk : blk B k) : ¬ blk A k := fun hk2 => by
  obtain ⟨us, h1⟩ := Own.typ h hk2
  obtain ⟨vs, h2⟩ := Own.typ h2 hk
  rw [h1] at h2
  injection h2 with h2
  injection h2 with _ h2
  revert h2
  decide

/-- Parts that were made. -/
structure Pts (W w : World) (A : Option Addr) (c : Nat) (ps : List Part) : Prop where
  own : Own 26 1 w A c (ps.map Part.v)
  part : ∀ p ∈ ps, (∃ c', OBytes w p.A c' p.xs) ∧ p.xs.length = p.n
  new : ∀ k, blk A k → W.heap.size ≤ k
section
variable {W w w' : World} {A : Option Addr} {c : Nat} {ps qs : List Part}
theorem Pts.nil : Pts W w none 0 [] := ⟨.inl ⟨rfl, rfl, rfl⟩, fun p h => (by cases h), fun k hk => absurd hk blk_none⟩
theorem Pts.ext (h : Pts W w A c ps) (x : Ext w w') : Pts W w' A c ps := ⟨h.own.ext x, fun p hp => ⟨(h.part p hp).1.imp fun c' o => o.ext x, (h.part p hp).2⟩, h.new⟩
theorem Pts.rd (h : Pts W w A c ps) {p : Part} (hp : p ∈ ps) : IBytes w p.A p.n p.xs := by
  obtain ⟨⟨c', o⟩, l⟩ := h.part p hp
  exact o.rd l
theorem Pts.push (h : Pts W w A c ps) (x : Ext W w) (hn : ps.length + qs.length ≤ 1000) {B : Option Addr} {d ty : Nat} (hB : RdC w B (qs.map Part.v)) (hq : ∀ p ∈ qs, (∃ c', OBytes w p.A c' p.xs) ∧ p.xs.length = p.n) :
    ∃ A' c' w', (Builtin.append_ #[51, 51] ty #[.slice A ps.length c, .slice B qs.length d]).run Try.prog w = .ok (.slice A' (ps.length + qs.length) c') w' ∧ Pts W w' A' c' (ps ++ qs) ∧ Keep (blk A) w w' ∧ Ext W w' := by
  have ic : (qs.map Part.v).all isCell = true := by
    rw [List.all_eq_true]
    intro v hv
    obtain ⟨p, _, rfl⟩ := List.mem_map.1 hv
    rfl
  obtain ⟨A', c', w', hr, o, hc, k, hb⟩ := append_own slLists (ty := ty) (n := ps.length) (d := d) h.own (by rw [List.length_map]; omega) hB (m := qs.length) (by rw [List.length_map]; omega) ic (by omega) (by omega)
  refine ⟨A', c', w', hr, ⟨by rw [List.map_append]; exact o, fun p hp => ?_, fun i hi => ?_⟩, k, x.fresh k h.new⟩
  · rcases List.mem_append.1 hp with hp | hp
    · exact ⟨(h.part p hp).1.imp fun c' o => o.keep k fun i hi => own_sep h.own o hi, (h.part p hp).2⟩
    · exact ⟨(hq p hp).1.imp fun c' o => o.keep k fun i hi => own_sep h.own o hi, (hq p hp).2⟩
  · rcases hb i hi with h2 | h2
    · exact h.new i h2
    · have := x.size; omega
/-- What is carried: the caller's own, or made. -/
def Ld (W w : World) (A : Option Addr) (n : Nat) (xs : List Int) : Prop := IBytes W A n xs ∨ ((∃ c, OBytes w A c xs) ∧ xs.length = n)
theorem Ld.rd {B : Option Addr} {n : Nat} {xs : List Int} (h : Ld W w B n xs) (x : Ext W w) : IBytes w B n xs := by
  rcases h with h | ⟨⟨c', o⟩, l⟩
  · exact h.ext x
  · exact o.rd l
theorem Ld.ext {B : Option Addr} {n : Nat} {xs : List Int} (h : Ld W w B n xs) (x : Ext w w') : Ld W w' B n xs := by
  rcases h with h | ⟨⟨c', o⟩, l⟩
  · exact .inl h
  · exact .inr ⟨⟨c', o.ext x⟩, l⟩
theorem Ld.keep {B : Option Addr} {n : Nat} {xs : List Int} (h : Ld W w B n xs) (hp : Pts W w A c ps) (k : Keep (blk A) w w') : Ld W w' B n xs := by
  rcases h with h | ⟨⟨c', o⟩, l⟩
  · exact .inl h
  · exact .inr ⟨⟨c', o.keep k fun i hi => own_sep hp.own o hi⟩, l⟩
end

/-! ## What Make makes -/

def loadB (s : Sp) (xs : List Int) : List Int := if s.po = true then fieldB 2 s.fr ++ (fieldB 2 s.to ++ xs) else xs
def wideB (s : Sp) : List Int := if s.wd = true then [255, 3] else []
def multiB (k : Lnk) (s : Sp) : List Int := if s.mu = true then protoB k s.pl 61 ++ headB k s.bg s.en s.sq else []
def sayB (k : Lnk) (s : Sp) : List Int := if saidB s = true then protoB k s.pl s.pr else []
def ipHB (s : Sp) (xs : List Int) : List Int := if ipB s = true then hdrB s (loadB s xs).length else []
def outB (k : Lnk) (s : Sp) (xs : List Int) : List Int := wideB s ++ (multiB k s ++ (sayB k s ++ (ipHB s xs ++ loadB s xs)))
def anyWrong (k : Lnk) (s : Sp) : Bool := (List.range 11).any (wrB k s)
def makeX (k : Lnk) (s : Sp) (xs : List Int) : Except Int (List Int) :=
  if linkOk k = false then .error 70 else if anyWrong k s = true then .error 80 else if 65535 < (outB k s xs).length then .error 81 else .ok (outB k s xs)
def MakeOf (W : World) (r : Except Int (List Int)) (v : Value) (w' : World) : Prop :=
  match r with
  | .error e => v = .tuple #[.slice none 0 0, .int .i64 e] ∧ Ext W w'
  | .ok ys => ∃ A c, v = .tuple #[.slice A ys.length c, .int .i64 0] ∧ OBytes w' A c ys ∧ (∀ k, blk A k → W.heap.size ≤ k) ∧ Ext W w'

section
variable {W w : World} {A L : Option Addr} {c ln lc : Nat} {ps : List Part} {k : Lnk} {s : Sp} {xs : List Int} {bl bs : Nat}
theorem flat_app (ps qs : List Part) : flat (ps ++ qs) = flat ps ++ flat qs := List.flatMap_append
theorem flat_one (p : Part) : flat [p] = p.xs := by simp [flat]
theorem total_flat (h : ∀ p ∈ ps, p.xs.length = p.n) : total ps = (flat ps).length := by
  induction ps with
  | nil => rfl
  | cons p ps ih =>
    have := ih fun q hq => h q (List.mem_cons_of_mem _ hq)
    have := h p (List.mem_cons_self ..)
    simp only [total, List.map_cons, List.sum_cons, flat, List.flatMap_cons, List.length_append] at *
    omega

theorem make_six {r : Except Int (List Int)} {out : List Int} (h : Pts W w A c ps) (x : Ext W w) (hn : ps.length ≤ 100) (hl : Ld W w L ln xs) (ho : flat ps ++ xs = out) (hb : out.length ≤ 140737488355328) (hr : r = if 65535 < out.length then .error 81 else .ok out) : forge_Make.J6 (MakeOf W r) A ps.length c L ln lc w := by
  have lx := (hl.rd x).len
  unfold forge_Make.J6
  refine letA fun w1 h1 x1 s1 => ?_
  have hB : RdC w1 (some (newA w)) ([(⟨L, ln, lc, xs⟩ : Part)].map Part.v) := by
    have : Own 26 1 w1 (some (newA w)) 1 ([(⟨L, ln, lc, xs⟩ : Part)].map Part.v) := .inr ⟨_, [], rfl, h1, rfl⟩
    exact this.cells
  have p1 := h.ext x1
  have ic : ([(⟨L, ln, lc, xs⟩ : Part)].map Part.v).all isCell = true := rfl
  obtain ⟨A', c', w2, hrn, o, hc, k2, hb2⟩ := append_own slLists (ty := 51) (n := ps.length) (d := 1) p1.own (by rw [List.length_map]; omega) hB (m := 1) rfl ic (by omega) (by omega)
  have x2 : Ext W w2 := (x.trans x1).fresh k2 h.new
  have l2 := ((hl.ext x1).keep p1 k2).rd x2
  refine ⟨_, w2, hrn, _, _, _, rfl, ?_⟩
  have rdP : Rd Part.v w2 A' (ps.length + 1) (ps ++ [⟨L, ln, lc, xs⟩]) := by
    have : RdC w2 A' ((ps ++ [(⟨L, ln, lc, xs⟩ : Part)]).map Part.v) := by rw [List.map_append]; exact o.cells
    exact this.rd (by simp)
  have each : ∀ p ∈ ps ++ [(⟨L, ln, lc, xs⟩ : Part)], IBytes w2 p.A p.n p.xs := by
    intro p hp
    rcases List.mem_append.1 hp with hp | hp
    · obtain ⟨⟨c3, o3⟩, l3⟩ := p1.part p hp
      exact (o3.keep k2 fun i hi => own_sep p1.own o3 hi).rd l3
    · rw [List.mem_singleton.1 hp]; exact l2
  have hfl : flat (ps ++ [(⟨L, ln, lc, xs⟩ : Part)]) = out := by rw [flat_app, flat_one]; exact ho
  have htot : total (ps ++ [(⟨L, ln, lc, xs⟩ : Part)]) = out.length := by rw [total_flat fun p hp => (each p hp).len, hfl]
  refine (join_spec rdP (by omega) each (by rw [htot]; exact hb)).mono ?_
  rintro v w3 ⟨B, bc, rfl, o3, l3, b3, x3⟩
  rw [htot, hfl] at *
  refine ⟨_, _, _, rfl, ifP_decide.2 ⟨fun hbig => ?_, fun hsm => ?_⟩⟩
  · rw [hr, if_pos (by omega)]
    exact ⟨rfl, x2.trans x3⟩
  · rw [hr, if_neg (by omega)]
    exact ⟨B, bc, rfl, o3, fun i hi => by have := b3 i hi; have := x2.size; omega, x2.trans x3⟩
end
end Go.Proofs.Ytjlbegfbdjhhdaa
