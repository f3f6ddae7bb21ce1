/- The statements over bundles: helpers; awake. -/
import Derived.Test.YtgjabpgkiaojhaaB7
namespace Go.Proofs.Ytgjabpgkiaojhaa
open Go.Rd Go.RowKit
set_option linter.unusedVariables false
set_option linter.unusedSimpArgs false

def Good (W : World) (v : Value) (w' : World) : Prop := v = .bool true ∧ Fr W w'

/-- Six cells are written over. -/
theorem st6 {w : World} {b : Nat} {cs : Array Value} {t : TypeId} (h : w.heap[b]? = some (.cells cs t (0, 0))) (hs : cs.size = 6) {vs : List Value} (hv : vs.length = 6) (hc : vs.all isCell = true) {φ : World → Prop}
    (hφ : ∀ w', w'.heap[b]? = some (.cells vs.toArray t (0, 0)) → Keep (· = b) w w' → φ w') : storeRow ⟨b, 0, none⟩ 0 vs w φ := by
  refine storeRow_block h (by rw [hs, hv]; exact Nat.le_refl 6) hc fun w' hw hk _ => hφ w' ?_ hk
  rw [hw]
  obtain ⟨l⟩ := cs
  have hl : l.length = 6 := hs
  rw [setFrom_all l vs (by rw [hl, hv])]
theorem st_lnk {w : World} {b : Nat} {cs : Array Value} {k : Lnk} (h : w.heap[b]? = some (.cells cs 23 (0, 0))) (hs : cs.size = 3) {φ : World → Prop}
    (hφ : ∀ w', LAt w' b k → Keep (· = b) w w' → φ w') : storeRow ⟨b, 0, none⟩ 0 [.bool k.ac, .bool k.pf, .int .i64 k.mp] w φ := by
  refine storeRow_block h (by rw [hs]; exact Nat.le_refl 3) rfl fun w' hw hk _ => hφ w' ?_ hk
  unfold LAt
  rw [hw]
  obtain ⟨l⟩ := cs
  have hl : l.length = 3 := hs
  rw [setFrom_all l [.bool k.ac, .bool k.pf, .int .i64 k.mp] (by rw [hl]; rfl)]

/-! ## The document's New -/

def codeN (k : Lnk) (nx : Int) : Int := if ¬ goodK k then 90 else if nx ≥ spaceK k then 91 else 0
def sNew (k : Lnk) (nx : Int) : BSt := if codeN k nx = 0 then ⟨k, nx, false, []⟩ else ⟨⟨false, false, 0⟩, 0, false, []⟩
def dV (s : BSt) : Value := .agg #[.bool s.k.ac, .bool s.k.pf, .int .i64 s.k.mp, .int .u32 s.nx, .bool s.un, .slice none 0 0]
theorem rnew_spec {w : World} {k : Lnk} {nx : Int} : Run Try.prog 19 #[.agg #[.bool k.ac, .bool k.pf, .int .i64 k.mp], .int .u32 nx] w fun v w' => v = .tuple #[dV (sNew k nx), .int .i64 (codeN k nx)] ∧ Go.Rd.Ext w w' := by
  refine ref9_New.ok (letA fun w1 h1 x1 s1 => letA fun w2 h2 x2 s2 => ?_)
  have hk : LAt w2 w.heap.size k := x2.heap h1
  have x02 := x1.trans x2
  refine hk.rd ((rmay_spec (k := k)).mono ?_)
  rintro v w3 ⟨rfl, x3⟩
  have x03 := x02.trans x3
  have h3 := x3.heap h2
  have out : ∀ (w4 : World) (e : Int), Go.Rd.Ext w3 w4 → e ≠ 0 → codeN k nx = e → storeRow (newA w1) 0 [.bool false, .bool false, .int .i64 0, .int .u32 0, .bool false, .slice none 0 0] w4 fun w5 => ∃ t0 : Bool, w5.cell? (newA w1) = some (.bool t0) ∧ ∃ t1 : Bool, w5.cell? ((newA w1).add 1) = some (.bool t1) ∧ ∃ t2 : Int, w5.cell? ((newA w1).add 2) = some (.int .i64 t2) ∧ ∃ t3 : Int, w5.cell? ((newA w1).add 3) = some (.int .u32 t3) ∧ ∃ t4 : Bool, w5.cell? ((newA w1).add 4) = some (.bool t4) ∧ ∃ (tA : Option Addr) (tn tc : Nat), w5.cell? ((newA w1).add 5) = some (.slice tA tn tc) ∧
      Value.tuple #[.agg #[.bool t0, .bool t1, .int .i64 t2, .int .u32 t3, .bool t4, .slice tA tn tc], .int .i64 e] = .tuple #[dV (sNew k nx), .int .i64 (codeN k nx)] ∧ Go.Rd.Ext w w5 := by
    intro w4 e x4 he hc
    refine st6 (x4.heap h3) rfl (vs := [.bool false, .bool false, .int .i64 0, .int .u32 0, .bool false, .slice none 0 0]) rfl rfl fun w5 h5 k5 => ?_
    refine ⟨_, (cell_of h5).trans rfl, _, by rw [newA, add_mk]; exact (cell_of h5).trans rfl, _, by rw [newA, add_mk]; exact (cell_of h5).trans rfl, _, by rw [newA, add_mk]; exact (cell_of h5).trans rfl, _, by rw [newA, add_mk]; exact (cell_of h5).trans rfl, _, _, _, by rw [newA, add_mk]; exact (cell_of h5).trans rfl, ?_, (x03.trans x4).fresh k5 fun i hi => by rw [hi]; exact x1.size⟩
    rw [sNew, hc, if_neg he]
    rfl
  refine ⟨_, rfl, ifP_not.2 (ifP_decide.2 ⟨fun hg => (hk.ext x3).rd ((rspace_spec (k := k)).mono ?_), fun hg => out _ 90 (Go.Rd.Ext.refl _) (by decide) (if_pos hg)⟩)⟩
  rintro v w4 ⟨rfl, x4⟩
  have hg' : ¬ ¬ goodK k := fun h => h hg
  refine ⟨_, rfl, ifP_decide.2 ⟨fun h => out _ 91 x4 (by decide) (by rw [codeN, if_neg hg', if_pos h]), fun h => ?_⟩⟩
  have hc : codeN k nx = 0 := by rw [codeN, if_neg hg', if_neg h]
  refine ((hk.ext x3).ext x4).rd (st6 (x4.heap h3) rfl (vs := [.bool k.ac, .bool k.pf, .int .i64 k.mp, .int .u32 nx, .bool false, .slice none 0 0]) rfl rfl fun w5 h5 k5 => ?_)
  refine ⟨_, (cell_of h5).trans rfl, _, by rw [newA, add_mk]; exact (cell_of h5).trans rfl, _, by rw [newA, add_mk]; exact (cell_of h5).trans rfl, _, by rw [newA, add_mk]; exact (cell_of h5).trans rfl, _, by rw [newA, add_mk]; exact (cell_of h5).trans rfl, _, _, _, by rw [newA, add_mk]; exact (cell_of h5).trans rfl, ?_, (x03.trans x4).fresh k5 fun i hi => by rw [hi]; exact x1.size⟩
  rw [sNew, hc, if_pos rfl]
  rfl

/-! ## Lists of lists, read -/

def LRd (w : World) (A : Option Addr) (n : Nat) (fr : List (List Int)) : Prop := ∃ ps : List Part, Rd Part.v w A n ps ∧ (∀ p ∈ ps, IBytes w p.A p.n p.xs) ∧ ps.map (·.xs) = fr
theorem LRd.len {w : World} {A : Option Addr} {n : Nat} {fr : List (List Int)} (h : LRd w A n fr) : fr.length = n := by
  obtain ⟨ps, h1, _, rfl⟩ := h
  rw [List.length_map, h1.len]
theorem LRd.ext {w w' : World} {A : Option Addr} {n : Nat} {fr : List (List Int)} (h : LRd w A n fr) (x : Go.Rd.Ext w w') : LRd w' A n fr := by
  obtain ⟨ps, h1, h2, h3⟩ := h
  exact ⟨ps, h1.ext x, fun p hp => (h2 p hp).ext x, h3⟩
theorem LRd.at {w : World} {A : Option Addr} {n : Nat} {fr : List (List Int)} (h : LRd w A n fr) {i : Nat} (hi : i < n) : ∃ (a : Addr) (p : Part), A = some a ∧ w.cell? (a.add (i * 1)) = some (.slice p.A p.n p.c) ∧ IBytes w p.A p.n p.xs ∧ fr[i]? = some p.xs := by
  obtain ⟨ps, h1, h2, rfl⟩ := h
  have hp : ps[i]? = some (ps[i]'(by rw [h1.len]; exact hi)) := List.getElem?_eq_getElem _
  obtain ⟨a, ha, hc⟩ := h1.2 i _ hp
  exact ⟨a, _, ha, hc, h2 _ (List.mem_of_getElem? hp), by rw [List.getElem?_map, hp]; rfl⟩
theorem Made.rd {W w : World} {A : Option Addr} {c : Nat} {fr : List (List Int)} (h : Made W w A c fr) : LRd w A fr.length fr := by
  obtain ⟨⟨ps, f, _⟩, _⟩ := h
  refine ⟨ps, ⟨f.len, fun i p hp => ?_⟩, fun p hp => ?_, f.frs⟩
  · obtain ⟨a, ha, hc⟩ := f.own.cells i p.v (by rw [List.getElem?_map, hp]; rfl)
    exact ⟨a, ha, by rw [Nat.mul_one]; exact hc⟩
  · obtain ⟨o, l⟩ := f.part p hp
    exact o.rd l

theorem sameLists_loop {W : World} {A B : Option Addr} {n c d : Nat} {fr gs : List (List Int)} (hx : LRd W A n fr) (hy : LRd W B n gs) (hn : n ≤ 1000000000) (hl : ∀ f ∈ fr, f.length ≤ 1000000000) : ∀ (k i : Nat), n - i = k → i ≤ n → (∀ j, j < i → fr[j]? = gs[j]?) → ∀ w, Go.Rd.Ext W w → law0_SameLists.L0 (fun v w' => v = .bool (decide (fr = gs)) ∧ Go.Rd.Ext W w') A n c B n d i w := by
  intro k
  induction k with
  | zero =>
    intro i hd hi hj w x
    refine law0_SameLists.L0_step (ifP_no (by omega) ⟨?_, x⟩)
    rw [decide_eq_true]
    refine List.ext_getElem? fun j => ?_
    by_cases h : j < i
    · exact hj j h
    · rw [List.getElem?_eq_none (by rw [hx.len]; omega), List.getElem?_eq_none (by rw [hy.len]; omega)]
  | succ k ih =>
    intro i hd hi hj w x
    obtain ⟨a, p, ha, hc, hp, e1⟩ := (hx.ext x).at (i := i) (by omega)
    obtain ⟨b, q, hb, hcq, hq, e2⟩ := (hy.ext x).at (i := i) (by omega)
    let S : World → Prop := fun u => u.cell? (a.add (i * 1)) = some (.slice p.A p.n p.c) ∧ u.cell? (b.add (i * 1)) = some (.slice q.A q.n q.c)
    refine law0_SameLists.L0_step (ifP_yes (by omega) ⟨S, ⟨(Go.Rd.Ext.drew w).cell hc, (Go.Rd.Ext.drew w).cell hcq⟩, letD fun w1 _ x1 => ⟨by omega, by omega, a, ha, _, _, p.c, fun u hu => ?_, by omega, by omega, b, hb, _, _, q.c, fun u hu => ?_, (sameBytes_spec (hp.ext x1) (hq.ext x1) ?_).mono ?_⟩⟩)
    · rw [Int.toNat_natCast]; exact hu.1
    · rw [Int.toNat_natCast]; exact hu.2
    · have := hl _ (List.mem_of_getElem? e1)
      rw [hp.len] at this
      omega
    · rintro v w2 ⟨rfl, x2⟩
      have x02 := (x.trans x1).trans x2
      refine ⟨_, rfl, ifP_not.2 (ifP_decide.2 ⟨fun h => ?_, fun h => ⟨?_, x02⟩⟩)⟩
      · have hw : IntKind.i64.wrap ((i : Int) + 1) = ((i + 1 : Nat) : Int) := wrap_i64 (by omega) (by omega)
        rw [hw]
        refine ih (i + 1) (by omega) (by omega) (fun j hj2 => ?_) w2 x02
        by_cases h2 : j = i
        · subst h2; rw [e1, e2, h]
        · exact hj j (by omega)
      · rw [decide_eq_false]
        intro h2
        rw [h2, e2] at e1
        exact h (Option.some.inj e1).symm
theorem sameLists_spec {W : World} {A B : Option Addr} {n m c d : Nat} {fr gs : List (List Int)} (hx : LRd W A n fr) (hy : LRd W B m gs) (hn : n ≤ 1000000000) (hl : ∀ f ∈ fr, f.length ≤ 1000000000) :
    Run Try.prog 15 #[.slice A n c, .slice B m d] W fun v w' => v = .bool (decide (fr = gs)) ∧ Go.Rd.Ext W w' := by
  refine law0_SameLists.ok (ifP_bne.2 ⟨fun h => ⟨?_, Go.Rd.Ext.refl W⟩, fun h => ?_⟩)
  · rw [decide_eq_false]
    intro h2
    exact h (by rw [← hx.len, ← hy.len, h2])
  · obtain rfl : n = m := by omega
    exact sameLists_loop hx hy hn hl n 0 rfl (by omega) (fun j hj => by omega) W (Go.Rd.Ext.refl W)
end Go.Proofs.Ytgjabpgkiaojhaa
