/- Package frame: the steps of the walk over a frame. -/
import Derived.Test.YtgjabpgkiaojhaaFDef
import Derived.Test.YtgjabpgkiaojhaaV2
namespace Go.Proofs.Ytgjabpgkiaojhaa
open Go.Rd Go.RowKit
set_option linter.unusedVariables false
set_option linter.unusedSimpArgs false

/-! ## The reader's memory -/

def Lnk.row (k : Lnk) : List Value := [.bool k.ac, .bool k.pf, .int .i64 k.mp]
/-- A reader in its block: its link, its bytes, its place, what it has seen. -/
def RAt (w : World) (b : Nat) (k : Lnk) (A : Option Addr) (n c : Nat) (a : Int) (v : Vw) : Prop :=
  w.heap[b]? = some (.cells #[.bool k.ac, .bool k.pf, .int .i64 k.mp, .slice A n c, .int .i64 a, .int .u32 v.p, .bool v.m, .bool v.b, .bool v.e, .int .u32 v.s, .int .i64 v.a, .int .i64 v.n, .int .i64 v.x, .int .i64 v.l] 80 (0, 0))

section
variable {w : World} {b : Nat} {k : Lnk} {A : Option Addr} {n c : Nat} {a : Int} {v : Vw}
theorem RAt.at_ (h : RAt w b k A n c a v) (i : Nat) {u : Value} (hu : #[Value.bool k.ac, .bool k.pf, .int .i64 k.mp, .slice A n c, .int .i64 a, .int .u32 v.p, .bool v.m, .bool v.b, .bool v.e, .int .u32 v.s, .int .i64 v.a, .int .i64 v.n, .int .i64 v.x, .int .i64 v.l][i]? = some u) : w.cell? ⟨b, i, none⟩ = some u := (cell_of h).trans hu
theorem RAt.c0 (h : RAt w b k A n c a v) : w.cell? ⟨b, 0, none⟩ = some (.bool k.ac) := h.at_ 0 rfl
theorem RAt.c1 (h : RAt w b k A n c a v) : w.cell? ((Addr.mk b 0 none).add 1) = some (.bool k.pf) := by rw [add_mk]; exact h.at_ 1 rfl
theorem RAt.c2 (h : RAt w b k A n c a v) : w.cell? ((Addr.mk b 0 none).add 2) = some (.int .i64 k.mp) := by rw [add_mk]; exact h.at_ 2 rfl
theorem RAt.c3 (h : RAt w b k A n c a v) : w.cell? ((Addr.mk b 0 none).add 3) = some (.slice A n c) := by rw [add_mk]; exact h.at_ 3 rfl
theorem RAt.c4 (h : RAt w b k A n c a v) : w.cell? ((Addr.mk b 0 none).add 4) = some (.int .i64 a) := by rw [add_mk]; exact h.at_ 4 rfl
theorem RAt.v0 (h : RAt w b k A n c a v) : w.cell? ((Addr.mk b 0 none).add 5) = some (.int .u32 v.p) := by rw [add_mk]; exact h.at_ 5 rfl
theorem RAt.v1 (h : RAt w b k A n c a v) : w.cell? (((Addr.mk b 0 none).add 5).add 1) = some (.bool v.m) := by rw [add_mk, add_mk]; exact h.at_ 6 rfl
theorem RAt.v2 (h : RAt w b k A n c a v) : w.cell? (((Addr.mk b 0 none).add 5).add 2) = some (.bool v.b) := by rw [add_mk, add_mk]; exact h.at_ 7 rfl
theorem RAt.keep {w' : World} {S : Nat → Prop} (h : RAt w b k A n c a v) (hk : Keep S w w') (hs : ¬ S b) : RAt w' b k A n c a v := hk.heap h hs
theorem RAt.ext {w' : World} (h : RAt w b k A n c a v) (hk : Ext w w') : RAt w' b k A n c a v := h.keep hk id
/-- Its place is another one now. -/
theorem RAt.put4 (h : RAt w b k A n c a v) {x : Int} {φ : World → Prop} (hφ : ∀ w', RAt w' b k A n c x v → Keep (· = b) w w' → φ w') :
    (∃ u, w.cell? ((Addr.mk b 0 none).add 4) = some u) ∧ w.frozen? ((Addr.mk b 0 none).add 4) = false ∧ letW (w.setCell ((Addr.mk b 0 none).add 4) (.int .i64 x)) φ :=
  cell_put h (i := 4) (by simp) (by rw [add_mk]) fun w' h' k' => hφ w' h' k'
theorem RAt.putp (h : RAt w b k A n c a v) {x : Int} {φ : World → Prop} (hφ : ∀ w', RAt w' b k A n c a { v with p := x } → Keep (· = b) w w' → φ w') :
    (∃ u, w.cell? ((Addr.mk b 0 none).add 5) = some u) ∧ w.frozen? ((Addr.mk b 0 none).add 5) = false ∧ letW (w.setCell ((Addr.mk b 0 none).add 5) (.int .u32 x)) φ :=
  cell_put h (i := 5) (by simp) (by rw [add_mk]) fun w' h' k' => hφ w' h' k'
theorem RAt.putm (h : RAt w b k A n c a v) {x : Bool} {φ : World → Prop} (hφ : ∀ w', RAt w' b k A n c a { v with m := x } → Keep (· = b) w w' → φ w') :
    (∃ u, w.cell? (((Addr.mk b 0 none).add 5).add 1) = some u) ∧ w.frozen? (((Addr.mk b 0 none).add 5).add 1) = false ∧ letW (w.setCell (((Addr.mk b 0 none).add 5).add 1) (.bool x)) φ :=
  cell_put h (i := 6) (by simp) (by rw [add_mk, add_mk]) fun w' h' k' => hφ w' h' k'
theorem RAt.putb (h : RAt w b k A n c a v) {x : Bool} {φ : World → Prop} (hφ : ∀ w', RAt w' b k A n c a { v with b := x } → Keep (· = b) w w' → φ w') :
    (∃ u, w.cell? (((Addr.mk b 0 none).add 5).add 2) = some u) ∧ w.frozen? (((Addr.mk b 0 none).add 5).add 2) = false ∧ letW (w.setCell (((Addr.mk b 0 none).add 5).add 2) (.bool x)) φ :=
  cell_put h (i := 7) (by simp) (by rw [add_mk, add_mk]) fun w' h' k' => hφ w' h' k'
theorem RAt.pute (h : RAt w b k A n c a v) {x : Bool} {φ : World → Prop} (hφ : ∀ w', RAt w' b k A n c a { v with e := x } → Keep (· = b) w w' → φ w') :
    (∃ u, w.cell? (((Addr.mk b 0 none).add 5).add 3) = some u) ∧ w.frozen? (((Addr.mk b 0 none).add 5).add 3) = false ∧ letW (w.setCell (((Addr.mk b 0 none).add 5).add 3) (.bool x)) φ :=
  cell_put h (i := 8) (by simp) (by rw [add_mk, add_mk]) fun w' h' k' => hφ w' h' k'
theorem RAt.puts (h : RAt w b k A n c a v) {x : Int} {φ : World → Prop} (hφ : ∀ w', RAt w' b k A n c a { v with s := x } → Keep (· = b) w w' → φ w') :
    (∃ u, w.cell? (((Addr.mk b 0 none).add 5).add 4) = some u) ∧ w.frozen? (((Addr.mk b 0 none).add 5).add 4) = false ∧ letW (w.setCell (((Addr.mk b 0 none).add 5).add 4) (.int .u32 x)) φ :=
  cell_put h (i := 9) (by simp) (by rw [add_mk, add_mk]) fun w' h' k' => hφ w' h' k'
theorem RAt.puta (h : RAt w b k A n c a v) {x : Int} {φ : World → Prop} (hφ : ∀ w', RAt w' b k A n c a { v with a := x } → Keep (· = b) w w' → φ w') :
    (∃ u, w.cell? (((Addr.mk b 0 none).add 5).add 5) = some u) ∧ w.frozen? (((Addr.mk b 0 none).add 5).add 5) = false ∧ letW (w.setCell (((Addr.mk b 0 none).add 5).add 5) (.int .i64 x)) φ :=
  cell_put h (i := 10) (by simp) (by rw [add_mk, add_mk]) fun w' h' k' => hφ w' h' k'
theorem RAt.putn (h : RAt w b k A n c a v) {x : Int} {φ : World → Prop} (hφ : ∀ w', RAt w' b k A n c a { v with n := x } → Keep (· = b) w w' → φ w') :
    (∃ u, w.cell? (((Addr.mk b 0 none).add 5).add 6) = some u) ∧ w.frozen? (((Addr.mk b 0 none).add 5).add 6) = false ∧ letW (w.setCell (((Addr.mk b 0 none).add 5).add 6) (.int .i64 x)) φ :=
  cell_put h (i := 11) (by simp) (by rw [add_mk, add_mk]) fun w' h' k' => hφ w' h' k'
theorem RAt.putx (h : RAt w b k A n c a v) {x : Int} {φ : World → Prop} (hφ : ∀ w', RAt w' b k A n c a { v with x := x } → Keep (· = b) w w' → φ w') :
    (∃ u, w.cell? (((Addr.mk b 0 none).add 5).add 7) = some u) ∧ w.frozen? (((Addr.mk b 0 none).add 5).add 7) = false ∧ letW (w.setCell (((Addr.mk b 0 none).add 5).add 7) (.int .i64 x)) φ :=
  cell_put h (i := 12) (by simp) (by rw [add_mk, add_mk]) fun w' h' k' => hφ w' h' k'
theorem RAt.putl (h : RAt w b k A n c a v) {x : Int} {φ : World → Prop} (hφ : ∀ w', RAt w' b k A n c a { v with l := x } → Keep (· = b) w w' → φ w') :
    (∃ u, w.cell? (((Addr.mk b 0 none).add 5).add 8) = some u) ∧ w.frozen? (((Addr.mk b 0 none).add 5).add 8) = false ∧ letW (w.setCell (((Addr.mk b 0 none).add 5).add 8) (.int .i64 x)) φ :=
  cell_put h (i := 13) (by simp) (by rw [add_mk, add_mk]) fun w' h' k' => hφ w' h' k'
end

/-- Why a walk gave up. -/
def stopE (e : Int) : PanicEntry := { v := .iface 82 (.agg #[.int .i64 e]), recovered := false }

/-- The step's end, where it goes on. -/
def okR (w : World) (b : Nat) (k : Lnk) (A : Option Addr) (n c : Nat) (r : Ex (Int × Vw)) (u : Value) (w' : World) : Prop := u = .tuple #[] ∧ ∃ s, r = .ok s ∧ RAt w' b k A n c s.1 s.2 ∧ Keep (· = b) w w'
/-- The step's end, where it gives up. -/
def erX (w : World) (b : Nat) (r : Ex (Int × Vw)) (cs : List PanicEntry) (w' : World) : Prop := ∃ e, r = .error e ∧ cs = [stopE e] ∧ Keep (· = b) w w'

/-! ## Small ones -/

theorem must_spec {w : World} {t : Bool} {e : Int} : RunE Try.prog 53 #[.bool t, .int .i64 e] w (fun v w' => v = .tuple #[] ∧ t = true ∧ w' = w) (fun cs w' => t = false ∧ cs = [stopE e] ∧ w' = w) := by
  refine frame_must.ok (ifP_not.2 (ifP_of (fun h => ⟨rfl, h, rfl⟩) fun h => ⟨h, rfl, rfl⟩))

section
variable {W w : World} {b : Nat} {k : Lnk} {A : Option Addr} {n c : Nat} {a : Int} {v : Vw} {xs : List Int} {R : Value → World → Prop} {X : List PanicEntry → World → Prop}
abbrev rp (b : Nat) : Value := .pointer (some ⟨b, 0, none⟩)

theorem need_spec (h : RAt w b k A n c a v) (h0 : 0 ≤ a) (h1 : a ≤ 140737488351232) (hn : n ≤ 140737488351232) {m : Int} :
    RunE Try.prog 54 #[rp b, .int .i64 m] w (fun v w' => v = .tuple #[] ∧ m ≤ (n : Int) - a ∧ Ext w w') (fun cs w' => ¬ m ≤ (n : Int) - a ∧ cs = [stopE 72] ∧ Ext w w') := by
  refine frame_reader_need.ok ⟨Ext w, Ext.drew w, letD fun w2 _ x2 => ⟨_, rfl, A, n, c, fun u hu => (h.ext hu).c3, _, rfl, a, fun u hu => (h.ext hu).c4, ?_⟩⟩
  rw [wrap_i64 (by omega) (by omega)]
  refine must_spec.mono ?_ ?_
  · rintro v w3 ⟨rfl, ht, rfl⟩
    exact ⟨rfl, rfl, of_decide_eq_true ht, x2⟩
  · rintro cs w3 ⟨ht, rfl, rfl⟩
    exact ⟨of_decide_eq_false ht, rfl, x2⟩

theorem number_spec (h : RAt w b k A n c a v) (hb : IBytes w A n xs) (hc : n ≤ c) (h0 : 0 ≤ a) (h1 : a ≤ 140737488351232) (hn : n ≤ 140737488351232) {off size : Int} (o0 : 0 ≤ off) (o1 : off ≤ 1000) (hs : size = 1 ∨ size = 2 ∨ size = 4) (hf : a + off + size ≤ n) :
    Run Try.prog 55 #[rp b, .int .i64 off, .int .i64 size] w fun u w' => u = .int .u32 (getV xs (a + off) size) ∧ Ext w w' := by
  refine frame_reader_number.ok ⟨Ext w, Ext.drew w, letD fun w2 _ x2 => ⟨_, rfl, A, n, c, fun u hu => (h.ext hu).c3, _, rfl, a, fun u hu => (h.ext hu).c4, ?_⟩⟩
  rw [wrap_i64 (by omega) (by omega)]
  refine (get_spec (hb.ext x2) hc (by omega)).mono ?_
  rintro v w3 ⟨rfl, rfl⟩
  rw [if_pos (fitsB_iff.2 ⟨hs, by omega, by omega⟩)]
  exact ⟨_, _, rfl, rfl, x2⟩

/-! ## The steps -/

def addressX (k : Lnk) (xs : List Int) (s : Int × Vw) : Ex (Int × Vw) :=
  if 2 ≤ xs.length ∧ xs.getD 0 0 = 255 ∧ xs.getD 1 0 = 3 then .ok (2, s.2) else if k.ac = true then .ok s else if xs.length < 2 then .error 72 else .error 73
def protocolX (k : Lnk) (xs : List Int) (s : Int × Vw) : Ex (Int × Vw) :=
  match protoX k xs s.1 with
  | .error e => .error e
  | .ok (p, a) => .ok (a, { s.2 with p := p })
def multiX (k : Lnk) (xs : List Int) (s : Int × Vw) : Ex (Int × Vw) :=
  if k.mp = 0 ∨ s.2.p ≠ 61 then .ok s else
  match headX k xs s.1 with
  | .error e => .error e
  | .ok (b, e, q, a) => if b = true then protocolX k xs (a, { s.2 with m := true, b := b, e := e, s := q }) else .ok (a, { s.2 with m := true, b := b, e := e, s := q })
def netPX (xs : List Int) (s : Int × Vw) : Ex (Int × Vw) :=
  match netX xs { s.2 with a := s.1 } with
  | .error e => .error e
  | .ok v => .ok (s.1, v)

theorem size_spec (h : RAt w b k A n c a v) : RunE Try.prog 38 #[rp b] w (okR w b k A n c (if n ≤ 65535 then .ok (a, v) else .error 71)) (erX w b (if n ≤ 65535 then .ok (a, v) else .error 71)) := by
  refine frame_reader_size.ok ⟨_, rfl, A, n, c, h.c3, must_spec.mono ?_ ?_⟩
  · rintro v w3 ⟨rfl, ht, rfl⟩
    have ht := of_decide_eq_true ht
    exact ⟨rfl, rfl, _, by rw [if_pos (by omega)], h, Keep.refl _⟩
  · rintro cs w3 ⟨ht, rfl, rfl⟩
    have ht := of_decide_eq_false ht
    exact ⟨_, by rw [if_neg (by omega)], rfl, Keep.refl _⟩

theorem address_spec (h : RAt w b k A n c 0 v) (hb : IBytes w A n xs) (hn : n ≤ 65535) :
    RunE Try.prog 39 #[rp b] w (okR w b k A n c (addressX k xs (0, v))) (erX w b (addressX k xs (0, v))) := by
  have hl := hb.len
  have fin : ∀ t : Bool, (t = true ↔ 2 ≤ xs.length ∧ xs.getD 0 0 = 255 ∧ xs.getD 1 0 = 3) → frame_reader_address.J0 (okR w b k A n c (addressX k xs (0, v))) (erX w b (addressX k xs (0, v))) (some ⟨b, 0, none⟩) t w := by
    intro t ht
    refine ifP_of (fun h1 => ⟨_, rfl, h.put4 fun w' h' k' => ⟨rfl, _, by rw [addressX, if_pos (ht.1 h1)], h', k'⟩⟩) fun h1 => ⟨_, rfl, k.ac, h.c0, ifP_not.2 (ifP_of (fun hac => ?_) fun hac => ?_)⟩
    · exact ⟨rfl, _, by rw [addressX, if_neg (fun h2 => by rw [ht.2 h2] at h1; cases h1), if_pos hac], h, Keep.refl _⟩
    · refine (need_spec h (by omega) (by omega) (by omega)).mono ?_ ?_
      · rintro u w2 ⟨rfl, hm, x2⟩
        refine ⟨rfl, must_spec.mono (fun u w3 hh => by cases hh.2.1) ?_⟩
        rintro cs w3 ⟨_, rfl, rfl⟩
        exact ⟨_, by rw [addressX, if_neg (fun h2 => by rw [ht.2 h2] at h1; cases h1), if_neg (by rw [hac]; decide), if_neg (by omega)], rfl, Keep.ext x2⟩
      · rintro cs w3 ⟨hm, rfl, x3⟩
        exact ⟨_, by rw [addressX, if_neg (fun h2 => by rw [ht.2 h2] at h1; cases h1), if_neg (by rw [hac]; decide), if_pos (by omega)], rfl, Keep.ext x3⟩
  refine frame_reader_address.ok ⟨_, rfl, A, n, c, h.c3, ifP_decide.2 ⟨fun h2 => ⟨_, rfl, A, n, c, h.c3, by omega, by omega, ?_⟩, fun h2 => fin _ ⟨fun h => (by cases h), fun h => absurd h.1 (by omega)⟩⟩⟩
  obtain ⟨p, hp, hc0⟩ := IBytes.get hb (j := 0) (by omega) (by omega)
  refine ⟨p, hp, _, hc0, ifP_beq.2 ⟨fun h3 => ⟨_, rfl, A, n, c, h.c3, by omega, by omega, ?_⟩, fun h3 => fin _ ⟨fun h => (by cases h), fun h => absurd h.2.1 h3⟩⟩⟩
  obtain ⟨p, hp, hc1⟩ := IBytes.get hb (j := 1) (by omega) (by omega)
  refine ⟨p, hp, _, hc1, fin _ ?_⟩
  rw [beq_iff_eq]
  exact ⟨fun h => ⟨by omega, h3, h⟩, fun h => h.2.2⟩
end
end Go.Proofs.Ytgjabpgkiaojhaa
