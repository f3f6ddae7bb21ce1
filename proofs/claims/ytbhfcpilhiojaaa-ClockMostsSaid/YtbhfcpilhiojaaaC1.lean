/- The clocks: what each function does to its block. -/
import Derived.Test.YtbhfcpilhiojaaaV
import Derived.Test.YtbhfcpilhiojaaaM
namespace Go.Proofs.Ytbhfcpilhiojaaa
open Go.Rd

/-- The program's clock and the document's. -/
structure Ck where
  n1 : Int
  l1 : Int
  n2 : Int
  l2 : Int
  g : Bool

def Ck.obj (c : Ck) : Obj := .cells #[.int .u32 c.n1, .int .u32 c.l1, .int .u32 c.n2, .int .u32 c.l2, .bool c.g] 44 (0, 0)
/-- The document's record of the same. -/
def Ck.ref (c : Ck) : Obj := .cells #[.int .u32 c.l1, .int .u32 c.l2, .bool c.g, .int .u32 c.n1, .int .u32 c.n2] 27 (0, 0)

def sat (n : Int) : Int := if n < 4294967295 then n + 1 else 4294967295

def Ck.start (c : Ck) : Ck := { c with n1 := 0, n2 := 0, g := true }
def Ck.stop (c : Ck) : Ck := { c with n1 := 0, n2 := 0, g := false }
def Ck.touch (c : Ck) : Ck := { c with n1 := 0 }
def Ck.grown (c : Ck) : Ck := { c with n1 := sat c.n1, n2 := sat c.n2 }
def overB (n l : Int) : Bool := l != 0 && decide (n ≥ l)
def Ck.why (c : Ck) : Int := if c.g then (if overB (sat c.n1) c.l1 then 1 else if overB (sat c.n2) c.l2 then 2 else 0) else 0
def Ck.tick (c : Ck) : Ck := if c.g then (if c.why = 0 then c.grown else c.grown.stop) else c

def Ck.ok (c : Ck) : Prop := 0 ≤ c.n1 ∧ c.n1 ≤ 4294967295 ∧ 0 ≤ c.n2 ∧ c.n2 ≤ 4294967295
theorem sat_ok {n : Int} (h : 0 ≤ n) : 0 ≤ sat n ∧ sat n ≤ 4294967295 := by unfold sat; split <;> omega
theorem Ck.ok_start {c : Ck} : c.start.ok := by simp [Ck.ok, Ck.start]
theorem Ck.ok_stop {c : Ck} : c.stop.ok := by simp [Ck.ok, Ck.stop]
theorem Ck.ok_touch {c : Ck} (h : c.ok) : c.touch.ok := ⟨by simp [Ck.touch], by simp [Ck.touch], h.2.2.1, h.2.2.2⟩
theorem Ck.ok_grown {c : Ck} (h : c.ok) : c.grown.ok := ⟨(sat_ok h.1).1, (sat_ok h.1).2, (sat_ok h.2.2.1).1, (sat_ok h.2.2.1).2⟩
theorem Ck.ok_tick {c : Ck} (h : c.ok) : c.tick.ok := by
  unfold Ck.tick
  split
  · split
    · exact Ck.ok_grown h
    · exact Ck.ok_stop
  · exact h

abbrev At (w : World) (b : Nat) (o : Obj) : Prop := w.heap[b]? = some o

theorem clear_spec {w : World} {b i : Nat} {cs : Array Value} {t : TypeId} (h : At w b (.cells cs t (0, 0))) (hi : i < cs.size) :
    Run Try.prog 22 #[.pointer (some ⟨b, i, none⟩)] w fun v w' => v = .tuple #[] ∧ w' = w.setCell ⟨b, i, none⟩ (.int .u32 0) :=
  clock_count_clear.ok ⟨_, rfl, st_cell h hi, frozen_of h, rfl, rfl⟩

theorem both_spec {w : World} {b : Nat} {c : Ck} (h : At w b c.obj) :
    Run Try.prog 19 #[.pointer (some ⟨b, 0, none⟩)] w fun v w' => v = .tuple #[] ∧ At w' b ({ c with n1 := 0, n2 := 0 } : Ck).obj ∧ Keep (· = b) w w' := by
  refine clock_Clock_both.ok ⟨_, rfl, (clear_spec h (by simp)).mono ?_⟩
  rintro v w1 ⟨rfl, rfl⟩
  have h1 := hp_set (i := 0) (v := .int .u32 0) h
  refine ⟨rfl, _, rfl, ?_⟩
  rw [add_mk]
  refine (clear_spec h1 (by simp)).mono ?_
  rintro v w2 ⟨rfl, rfl⟩
  have h2 := hp_set (i := 2) (v := .int .u32 0) h1
  exact ⟨rfl, rfl, h2, (Keep.setCell (S := (· = b)) _ rfl).trans' (Keep.setCell _ rfl)⟩

theorem start_spec {w : World} {b : Nat} {c : Ck} (h : At w b c.obj) :
    Run Try.prog 10 #[.pointer (some ⟨b, 0, none⟩)] w fun v w' => v = .tuple #[] ∧ At w' b c.start.obj ∧ Keep (· = b) w w' := by
  refine clock_Clock_Start.ok ((both_spec h).mono ?_)
  rintro v w1 ⟨rfl, h1, k1⟩
  refine ⟨rfl, _, rfl, ?_⟩
  rw [add_mk]
  have h2 := hp_set (i := 4) (v := .bool true) h1
  exact ⟨st_cell h1 (by simp), frozen_of h1, rfl, h2, k1.trans' (Keep.setCell _ rfl)⟩

theorem stop_spec {w : World} {b : Nat} {c : Ck} (h : At w b c.obj) :
    Run Try.prog 14 #[.pointer (some ⟨b, 0, none⟩)] w fun v w' => v = .tuple #[] ∧ At w' b c.stop.obj ∧ Keep (· = b) w w' := by
  refine clock_Clock_Stop.ok ((both_spec h).mono ?_)
  rintro v w1 ⟨rfl, h1, k1⟩
  refine ⟨rfl, _, rfl, ?_⟩
  rw [add_mk]
  have h2 := hp_set (i := 4) (v := .bool false) h1
  exact ⟨st_cell h1 (by simp), frozen_of h1, rfl, h2, k1.trans' (Keep.setCell _ rfl)⟩

theorem touch_spec {w : World} {b : Nat} {c : Ck} (h : At w b c.obj) :
    Run Try.prog 12 #[.pointer (some ⟨b, 0, none⟩)] w fun v w' => v = .tuple #[] ∧ At w' b c.touch.obj ∧ Keep (· = b) w w' := by
  refine clock_Clock_Touch.ok ⟨_, rfl, (clear_spec h (by simp)).mono ?_⟩
  rintro v w1 ⟨rfl, rfl⟩
  have h1 := hp_set (i := 0) (v := .int .u32 0) h
  exact ⟨rfl, rfl, h1, Keep.setCell _ rfl⟩

theorem now_spec {w : World} {b : Nat} {c : Ck} (h : At w b c.obj) :
    Run Try.prog 13 #[.pointer (some ⟨b, 0, none⟩)] w fun v w' => v = .tuple #[.bool c.g, .int .u32 c.n1, .int .u32 c.n2] ∧ w' = w.drew := by
  refine clock_Clock_Now.ok ⟨_, rfl, c.g, ?_, _, rfl, c.n1, ?_, _, rfl, c.n2, ?_, rfl, rfl⟩
  · rw [add_mk]; exact cell_of h
  · exact cell_of h
  · rw [add_mk]; exact cell_of h

/-! ### Sum of two -/

theorem upTo_loop {w : World} {A : Option Addr} {n cc : Nat} {xs : List Int} {R : Value → World → Prop} (h : Rd (.int .u32) w A n xs) (hx : ∀ x ∈ xs, 0 ≤ x ∧ x ≤ 4294967295) (hn : n ≤ 140737488351232)
    (hR : ∀ s : Int, s = xs.foldl (fun s x => min (s + x) 4294967295) 0 → R (.int .u32 (IntKind.u32.wrap s)) w) :
    ∀ (d i : Nat), n - i = d → i ≤ n → ∀ s : Int, s = (xs.take i).foldl (fun s x => min (s + x) 4294967295) 0 → 0 ≤ s → s ≤ 4294967295 →
      word_upTo.L0 R 4294967295 s A n cc n i w := by
  intro d
  induction d with
  | zero =>
    intro i hd hi s hs h0 h1
    obtain rfl : i = n := by omega
    refine word_upTo.L0_step (ifP_no (by omega) (hR s ?_))
    rw [hs, List.take_of_length_le (by rw [h.len]; omega)]
  | succ d ih =>
    intro i hd hi s hs h0 h1
    have hlt : i < n := by omega
    obtain ⟨a, rfl, hc⟩ := h.at hlt
    have hb := hx _ (List.getElem_mem (l := xs) (n := i) (by rw [h.len]; exact hlt))
    refine word_upTo.L0_step (ifP_yes (by omega) ⟨by omega, by omega, a, rfl, _, by simpa using hc, ?_⟩)
    generalize hy : xs[i]'(by rw [h.len]; exact hlt) = y at *
    have e1 : IntKind.u64.wrap (s + IntKind.u64.wrap y) = s + y := by rw [wrap_u64 (x := y) (by omega) (by omega), wrap_u64 (by omega) (by omega)]
    have e2 : IntKind.i64.wrap ((i : Int) + 1) = ((i + 1 : Nat) : Int) := by rw [wrap_i64 (by omega) (by omega)]; rfl
    rw [e1, e2]
    have e3 : minI (s + y) 4294967295 = min (s + y) 4294967295 := by unfold minI; split <;> omega
    rw [e3]
    refine ih (i + 1) (by omega) (by omega) _ ?_ (by omega) (by omega)
    rw [List.take_add_one, List.foldl_append, ← hs, List.getElem?_eq_getElem (by rw [h.len]; exact hlt), hy]
    rfl

theorem foldl_bound (xs : List Int) (hx : ∀ x ∈ xs, 0 ≤ x ∧ x ≤ 4294967295) : ∀ s : Int, 0 ≤ s → s ≤ 4294967295 →
    0 ≤ xs.foldl (fun s x => min (s + x) 4294967295) s ∧ xs.foldl (fun s x => min (s + x) 4294967295) s ≤ 4294967295 := by
  induction xs with
  | nil => intro s h0 h1; exact ⟨h0, h1⟩
  | cons x xs ih =>
    intro s h0 h1
    have := hx x (List.mem_cons_self ..)
    simp only [List.foldl_cons]
    exact ih (fun y hy => hx y (List.mem_cons_of_mem _ hy)) _ (by omega) (by omega)

theorem sum_spec {w : World} {A : Option Addr} {n cc : Nat} {xs : List Int} (h : Rd (.int .u32) w A n xs) (hx : ∀ x ∈ xs, 0 ≤ x ∧ x ≤ 4294967295) (hn : n ≤ 140737488351232) :
    Run Try.prog 24 #[.slice A n cc] w fun v w' => v = .int .u32 (xs.foldl (fun s x => min (s + x) 4294967295) 0) ∧ w' = w := by
  refine word_Sum.ok (Run.mono (R := fun v w' => v = .int .u32 (xs.foldl (fun s x => min (s + x) 4294967295) 0) ∧ w' = w) ?_ ?_)
  · refine word_upTo.ok (upTo_loop h hx hn (fun s hs => ?_) n 0 (by omega) (by omega) 0 (by simp) (by omega) (by omega))
    subst hs
    have := foldl_bound xs hx 0 (by omega) (by omega)
    exact ⟨by rw [wrap_u32 this.1 this.2], rfl⟩
  · rintro v w' ⟨rfl, rfl⟩
    exact ⟨_, rfl, rfl, rfl⟩

theorem grow_spec {w : World} {b i : Nat} {cs : Array Value} {t : TypeId} {n : Int} (h : At w b (.cells cs t (0, 0))) (hc : cs[i]? = some (.int .u32 n)) (h0 : 0 ≤ n) (h1 : n ≤ 4294967295) :
    Run Try.prog 20 #[.pointer (some ⟨b, i, none⟩)] w fun v w' => v = .tuple #[] ∧ At w' b (.cells (cs.setIfInBounds i (.int .u32 (sat n))) t (0, 0)) ∧ Keep (· = b) w w' := by
  refine clock_count_grow.ok ⟨_, rfl, n, by rw [cell_of h]; exact hc, ?_⟩
  have hr : Rd (Value.int .u32) (w.alloc (.cells #[.int .u32 n, .int .u32 1] 22)) (some (newA w)) 2 [n, 1] :=
    Rd.block (hp_new w _) fun j x hx => by
      match j with
      | 0 => simp at hx; subst hx; rfl
      | 1 => simp at hx; subst hx; rfl
      | j + 2 => simp at hx
  refine (sum_spec hr (by simp; omega) (by omega)).mono ?_
  rintro v w1 ⟨rfl, rfl⟩
  have hb : b < w.heap.size := heap_lt h
  have h2 : At (w.alloc (.cells #[.int .u32 n, .int .u32 1] 22)) b (.cells cs t (0, 0)) := by rw [At, hp_old hb]; exact h
  have hi : i < cs.size := by rw [Array.getElem?_eq_some_iff] at hc; exact hc.1
  have e : [n, 1].foldl (fun s x => min (s + x) 4294967295) 0 = sat n := by simp only [List.foldl, sat]; split <;> omega
  rw [e]
  exact ⟨_, rfl, _, rfl, st_cell h2 hi, frozen_of h2, rfl, hp_set h2, (Keep.alloc w _).trans' (Keep.setCell _ rfl)⟩

theorem over_spec {w : World} {b i : Nat} {cs : Array Value} {t : TypeId} {n l : Int} (h : At w b (.cells cs t (0, 0))) (hn : cs[i]? = some (.int .u32 n)) (hl : cs[i + 1]? = some (.int .u32 l)) :
    Run Try.prog 21 #[.pointer (some ⟨b, i, none⟩)] w fun v w' => v = .bool (overB n l) ∧ w' = w.drew := by
  have c1 : w.drew.cell? ((Addr.mk b i none).add 1) = some (.int .u32 l) := by rw [add_mk]; exact (cell_of h).trans hl
  have c0 : w.drew.cell? ⟨b, i, none⟩ = some (.int .u32 n) := (cell_of h).trans hn
  refine clock_count_over.ok ⟨_, rfl, l, c1, ifP_bne.2 ⟨fun hne => ⟨_, rfl, n, c0, _, rfl, l, c1, ?_⟩, fun he => ?_⟩⟩
  · refine ⟨?_, rfl⟩
    have : (l != 0) = true := bne_iff_ne.2 hne
    simp [overB, this]
  · refine ⟨?_, rfl⟩
    simp [overB, he]

theorem tick_spec {w : World} {b : Nat} {c : Ck} (h : At w b c.obj) (hc : c.ok) :
    Run Try.prog 11 #[.pointer (some ⟨b, 0, none⟩)] w fun v w' => v = .int .i64 c.why ∧ At w' b c.tick.obj ∧ Keep (· = b) w w' := by
  refine clock_Clock_Tick.ok ⟨_, rfl, c.g, by rw [add_mk]; exact cell_of h, ifP_not.2 (ifP_of (fun hg => ?_) (fun hg => ?_))⟩
  · refine ⟨_, rfl, (grow_spec (i := 0) h rfl hc.1 hc.2.1).mono ?_⟩
    rintro v w1 ⟨rfl, h1, k1⟩
    refine ⟨rfl, _, rfl, ?_⟩
    rw [add_mk]
    refine (grow_spec (i := 2) h1 rfl hc.2.2.1 hc.2.2.2).mono ?_
    rintro v w2 ⟨rfl, h2, k2⟩
    have h2 : At w2 b c.grown.obj := h2
    have k2 := k1.trans' k2
    refine ⟨rfl, _, rfl, (over_spec (i := 0) h2 rfl rfl).mono ?_⟩
    rintro v w3 ⟨rfl, rfl⟩
    have fin : ∀ (w' : World) (y : Int), y ≠ 0 → c.why = y → At w' b c.grown.obj → Keep (· = b) w w' →
        clock_Clock_Tick.J0 (fun v w' => v = .int .i64 c.why ∧ At w' b c.tick.obj ∧ Keep (· = b) w w') (some ⟨b, 0, none⟩) y w' := by
      intro w' y hy hw ha hk
      refine ifP_ne hy ((stop_spec ha).mono ?_)
      rintro v w4 ⟨rfl, h4, k4⟩
      refine ⟨rfl, by rw [hw], ?_, hk.trans' k4⟩
      have : c.tick = c.grown.stop := by simp [Ck.tick, hg, hw, hy]
      rw [this]; exact h4
    refine ⟨_, rfl, ifP_of (fun ho => ?_) (fun ho => ⟨_, rfl, ?_⟩)⟩
    · exact fin _ 1 (by omega) (by have : overB (sat c.n1) c.l1 = true := ho; simp [Ck.why, hg, this]) h2 (k2.trans' (Keep.drew _))
    · have o1 : overB (sat c.n1) c.l1 = false := ho
      rw [add_mk]
      refine (over_spec (i := 2) (w := w2.drew) h2 rfl rfl).mono ?_
      rintro v w3 ⟨rfl, rfl⟩
      refine ⟨_, rfl, ifP_of (fun ho => ?_) (fun ho => ?_)⟩
      · exact fin _ 2 (by omega) (by have : overB (sat c.n2) c.l2 = true := ho; simp [Ck.why, hg, o1, this]) h2 ((k2.trans' (Keep.drew _)).trans' (Keep.drew _))
      · have o2 : overB (sat c.n2) c.l2 = false := ho
        have hw : c.why = 0 := by simp [Ck.why, hg, o1, o2]
        refine ifP_nne rfl ⟨by rw [hw], ?_, (k2.trans' (Keep.drew _)).trans' (Keep.drew _)⟩
        have : c.tick = c.grown := by simp [Ck.tick, hg, hw]
        rw [this]; exact h2
  · have : c.tick = c := by simp [Ck.tick, hg]
    have hw : c.why = 0 := by simp [Ck.why, hg]
    rw [this, hw]
    exact ⟨rfl, h, Keep.refl w⟩

theorem new_spec {w : World} {i m : Int} :
    Run Try.prog 7 #[.int .u32 i, .int .u32 m] w fun v w' => v = .pointer (some ⟨w.heap.size, 0, none⟩) ∧ At w' w.heap.size (Ck.mk 0 i 0 m false).obj ∧ Ext w w' ∧ w'.heap.size = w.heap.size + 1 :=
  clock_New.ok ⟨rfl, hp_new w _, Ext.alloc w _, size_alloc w _⟩

/-! ### The document's -/

theorem add_spec {w : World} {n : Int} (h0 : 0 ≤ n) (h1 : n ≤ 4294967295) : Run Try.prog 23 #[.int .u32 n, .int .u32 1] w fun v w' => v = .int .u32 (sat n) ∧ w' = w := by
  refine ref1_Add.ok ?_
  rw [ref1_Add.vc, wrap_u32 (x := 4294967295 - n) (by omega) (by omega)]
  refine ifP_dec (fun h => ?_) (fun h => ?_)
  · have : sat n = 4294967295 := by unfold sat; split <;> omega
    rw [this]; exact ⟨rfl, rfl⟩
  · rw [wrap_u32 (by omega) (by omega)]
    have : sat n = n + 1 := by unfold sat; split <;> omega
    rw [this]; exact ⟨rfl, rfl⟩

end Go.Proofs.Ytbhfcpilhiojaaa
