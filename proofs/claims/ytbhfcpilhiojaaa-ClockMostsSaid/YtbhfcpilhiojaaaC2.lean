/- The document's clock; the calls beside each other; what every program answers. -/
import Derived.Test.YtbhfcpilhiojaaaC1
namespace Go.Proofs.Ytbhfcpilhiojaaa
open Go.Rd Go.RowKit

theorem rstart_spec {w : World} {b : Nat} {c : Ck} (h : At w b c.ref) :
    Run Try.prog 15 #[.pointer (some ⟨b, 0, none⟩)] w fun v w' => v = .tuple #[] ∧ At w' b c.start.ref ∧ Keep (· = b) w w' := by
  have h1 := hp_set (i := 2) (v := .bool true) h
  have h2 := hp_set (i := 3) (v := .int .u32 0) h1
  have h3 := hp_set (i := 4) (v := .int .u32 0) h2
  refine ref22_Clock_Start.ok ⟨_, rfl, ?_⟩
  rw [add_mk]
  refine ⟨st_cell h (by simp), frozen_of h, _, rfl, ?_⟩
  rw [add_mk]
  refine ⟨st_cell h1 (by simp), frozen_of h1, _, rfl, ?_⟩
  rw [add_mk]
  exact ⟨st_cell h2 (by simp), frozen_of h2, rfl, h3, ((Keep.setCell (S := (· = b)) _ rfl).trans' (Keep.setCell _ rfl)).trans' (Keep.setCell _ rfl)⟩

theorem rstop_spec {w : World} {b : Nat} {c : Ck} (h : At w b c.ref) :
    Run Try.prog 16 #[.pointer (some ⟨b, 0, none⟩)] w fun v w' => v = .tuple #[] ∧ At w' b c.stop.ref ∧ Keep (· = b) w w' := by
  have h1 := hp_set (i := 2) (v := .bool false) h
  have h2 := hp_set (i := 3) (v := .int .u32 0) h1
  have h3 := hp_set (i := 4) (v := .int .u32 0) h2
  refine ref22_Clock_Stop.ok ⟨_, rfl, ?_⟩
  rw [add_mk]
  refine ⟨st_cell h (by simp), frozen_of h, _, rfl, ?_⟩
  rw [add_mk]
  refine ⟨st_cell h1 (by simp), frozen_of h1, _, rfl, ?_⟩
  rw [add_mk]
  exact ⟨st_cell h2 (by simp), frozen_of h2, rfl, h3, ((Keep.setCell (S := (· = b)) _ rfl).trans' (Keep.setCell _ rfl)).trans' (Keep.setCell _ rfl)⟩

theorem rtouch_spec {w : World} {b : Nat} {c : Ck} (h : At w b c.ref) :
    Run Try.prog 17 #[.pointer (some ⟨b, 0, none⟩)] w fun v w' => v = .tuple #[] ∧ At w' b c.touch.ref ∧ Keep (· = b) w w' := by
  have h1 := hp_set (i := 3) (v := .int .u32 0) h
  refine ref22_Clock_Touch.ok ⟨_, rfl, ?_⟩
  rw [add_mk]
  exact ⟨st_cell h (by simp), frozen_of h, rfl, h1, Keep.setCell _ rfl⟩

theorem rtick_spec {w : World} {b : Nat} {c : Ck} (h : At w b c.ref) (hc : c.ok) :
    Run Try.prog 18 #[.pointer (some ⟨b, 0, none⟩)] w fun v w' => v = .int .i64 c.why ∧ At w' b c.tick.ref ∧ Keep (· = b) w w' := by
  refine ref22_Clock_Tick.ok ⟨_, rfl, c.g, by rw [add_mk]; exact cell_of h, ifP_not.2 (ifP_of (fun hg => ?_) (fun hg => ?_))⟩
  · refine ⟨_, rfl, c.n1, by rw [add_mk]; exact cell_of h, (add_spec hc.1 hc.2.1).mono ?_⟩
    rintro v w1 ⟨rfl, rfl⟩
    refine ⟨_, rfl, _, rfl, ?_⟩
    rw [add_mk]
    have h1 := hp_set (i := 3) (v := .int .u32 (sat c.n1)) h
    refine ⟨st_cell h (by simp), frozen_of h, _, rfl, c.n2, by rw [add_mk]; exact cell_of h1, (add_spec hc.2.2.1 hc.2.2.2).mono ?_⟩
    rintro v w2 ⟨rfl, rfl⟩
    have h2 := hp_set (i := 4) (v := .int .u32 (sat c.n2)) h1
    refine ⟨_, rfl, _, rfl, ?_⟩
    rw [add_mk]
    refine ⟨st_cell h1 (by simp), frozen_of h1, ?_⟩
    have k2 : Keep (· = b) w1 ((w1.setCell ⟨b, 0 + 3, none⟩ (.int .u32 (sat c.n1))).setCell ⟨b, 0 + 4, none⟩ (.int .u32 (sat c.n2))) := (Keep.setCell (S := (· = b)) _ rfl).trans' (Keep.setCell _ rfl)
    generalize (w1.setCell ⟨b, 0 + 3, none⟩ (.int .u32 (sat c.n1))).setCell ⟨b, 0 + 4, none⟩ (.int .u32 (sat c.n2)) = w3 at *
    have h3 : At w3 b c.grown.ref := h2
    have k3 : Keep (· = b) w1 w3.drew := k2.trans' (Keep.drew _)
    have fin : ∀ (w' : World) (y : Int), y ≠ 0 → c.why = y → At w' b c.grown.ref → Keep (· = b) w1 w' →
        Run Try.prog 16 #[.pointer (some ⟨b, 0, none⟩)] w' fun v w_2 => v = .tuple #[] ∧ (Value.int .i64 y = .int .i64 c.why ∧ At w_2 b c.tick.ref ∧ Keep (· = b) w1 w_2) := by
      intro w' y hy hw ha hk
      refine (rstop_spec ha).mono ?_
      rintro v w4 ⟨rfl, h4, k4⟩
      refine ⟨rfl, by rw [hw], ?_, hk.trans' k4⟩
      have : c.tick = c.grown.stop := by simp [Ck.tick, hg, hw, hy]
      rw [this]; exact h4
    have j1 : ∀ t : Bool, t = overB (sat c.n2) c.l2 → overB (sat c.n1) c.l1 = false → ∀ w', At w' b c.grown.ref → Keep (· = b) w1 w' →
        ref22_Clock_Tick.J1 (fun v w' => v = .int .i64 c.why ∧ At w' b c.tick.ref ∧ Keep (· = b) w1 w') (some ⟨b, 0, none⟩) t w' := by
      intro t ht o1 w' ha hk
      refine ifP_of (fun h => ?_) (fun h => ?_)
      · exact fin w' 2 (by omega) (by simp [Ck.why, hg, o1, ← ht, h]) ha hk
      · have hw : c.why = 0 := by simp [Ck.why, hg, o1, ← ht, h]
        refine ⟨by rw [hw], ?_, hk⟩
        have : c.tick = c.grown := by simp [Ck.tick, hg, hw]
        rw [this]; exact ha
    have j0 : ∀ t : Bool, t = overB (sat c.n1) c.l1 → ref22_Clock_Tick.J0 (fun v w' => v = .int .i64 c.why ∧ At w' b c.tick.ref ∧ Keep (· = b) w1 w') (some ⟨b, 0, none⟩) t w3.drew := by
      intro t ht
      refine ifP_of (fun h => ?_) (fun h => ?_)
      · exact fin _ 1 (by omega) (by simp [Ck.why, hg, ← ht, h]) h3 k3
      · have c1 : w3.drew.drew.cell? ((Addr.mk b 0 none).add 1) = some (.int .u32 c.l2) := by rw [add_mk]; exact cell_of h3
        have c4 : w3.drew.drew.cell? ((Addr.mk b 0 none).add 4) = some (.int .u32 (sat c.n2)) := by rw [add_mk]; exact cell_of h3
        refine ⟨_, rfl, c.l2, c1, ifP_bne.2 ⟨fun hne => ⟨_, rfl, sat c.n2, c4, _, rfl, c.l2, c1, ?_⟩, fun he => ?_⟩⟩
        · refine j1 _ ?_ (by rw [← ht, h]) _ h3 (k3.trans' (Keep.drew _))
          have : (c.l2 != 0) = true := bne_iff_ne.2 hne
          simp [overB, this]
        · exact j1 _ (by simp [overB, he]) (by rw [← ht, h]) _ h3 (k3.trans' (Keep.drew _))
    have c0 : w3.drew.cell? ⟨b, 0, none⟩ = some (.int .u32 c.l1) := cell_of h3
    have c3 : w3.drew.cell? ((Addr.mk b 0 none).add 3) = some (.int .u32 (sat c.n1)) := by rw [add_mk]; exact cell_of h3
    refine ⟨_, rfl, c.l1, c0, ifP_bne.2 ⟨fun hne => ⟨_, rfl, sat c.n1, c3, _, rfl, c.l1, c0, ?_⟩, fun he => ?_⟩⟩
    · refine j0 _ ?_
      have : (c.l1 != 0) = true := bne_iff_ne.2 hne
      simp [overB, this]
    · exact j0 _ (by simp [overB, he])
  · have : c.tick = c := by simp [Ck.tick, hg]
    have hw : c.why = 0 := by simp [Ck.why, hg]
    rw [this, hw]
    exact ⟨rfl, h, Keep.refl w⟩

def Ck.step (c : Ck) (act : Int) : Ck := if act = 0 then c.start else if act = 1 then c.stop else if act = 2 then c.touch else c.tick
theorem Ck.ok_step {c : Ck} (h : c.ok) (act : Int) : (c.step act).ok := by
  unfold Ck.step
  split
  · exact Ck.ok_start
  · split
    · exact Ck.ok_stop
    · split
      · exact Ck.ok_touch h
      · exact Ck.ok_tick h

theorem told_spec {w : World} {b b' : Nat} {c : Ck} {act : Int} (h : At w b c.obj) (h' : At w b' c.ref) (hb : b ≠ b') (hc : c.ok) :
    Run Try.prog 8 #[.pointer (some ⟨b, 0, none⟩), .pointer (some ⟨b', 0, none⟩), .int .i64 act] w fun v w' => v = .bool true ∧ At w' b (c.step act).obj ∧ At w' b' (c.step act).ref ∧ Keep (fun k => k = b ∨ k = b') w w' := by
  have fin : ∀ (w' : World) (x : Int), At w' b (c.step act).obj → At w' b' (c.step act).ref → Keep (fun k => k = b ∨ k = b') w w' →
      law22_told.J0 (fun v w' => v = .bool true ∧ At w' b (c.step act).obj ∧ At w' b' (c.step act).ref ∧ Keep (fun k => k = b ∨ k = b') w w') (some ⟨b, 0, none⟩) (some ⟨b', 0, none⟩) x x w' := by
    intro w' x ha hr hk
    refine (now_spec ha).mono ?_
    rintro v w1 ⟨rfl, rfl⟩
    have e2 : w'.drew.cell? ((Addr.mk b' 0 none).add 2) = some (.bool (c.step act).g) := by rw [add_mk]; exact cell_of hr
    have e3 : w'.drew.cell? ((Addr.mk b' 0 none).add 3) = some (.int .u32 (c.step act).n1) := by rw [add_mk]; exact cell_of hr
    have e4 : w'.drew.cell? ((Addr.mk b' 0 none).add 4) = some (.int .u32 (c.step act).n2) := by rw [add_mk]; exact cell_of hr
    refine ⟨_, _, _, rfl, ifP_eq rfl ⟨_, rfl, _, e2, ifP_t (by simp) ⟨_, rfl, _, e3, ifP_eq rfl ⟨_, rfl, _, e4, ?_⟩⟩⟩⟩
    exact ⟨by simp, ha, hr, hk.trans' (Keep.drew _)⟩
  have two : ∀ {w1 w2 : World}, Keep (· = b) w w1 → Keep (· = b') w1 w2 → Keep (fun k => k = b ∨ k = b') w w2 := fun k1 k2 => k1.trans k2 (fun _ _ => .inl) (fun _ _ => .inr)
  refine law22_told.ok (ifP_int (fun h0 => ?_) (fun h0 => ifP_int (fun h1 => ?_) (fun h1 => ifP_int (fun h2 => ?_) (fun h2 => ?_))))
  · have e : c.step act = c.start := by simp [Ck.step, h0]
    refine (start_spec h).mono ?_
    rintro v w1 ⟨rfl, a1, k1⟩
    refine ⟨rfl, (rstart_spec (k1.heap h' (Ne.symm hb))).mono ?_⟩
    rintro v w2 ⟨rfl, a2, k2⟩
    exact ⟨rfl, fin w2 0 (by rw [e]; exact k2.heap a1 hb) (by rw [e]; exact a2) (two k1 k2)⟩
  · have e : c.step act = c.stop := by simp [Ck.step, h1]
    refine (stop_spec h).mono ?_
    rintro v w1 ⟨rfl, a1, k1⟩
    refine ⟨rfl, (rstop_spec (k1.heap h' (Ne.symm hb))).mono ?_⟩
    rintro v w2 ⟨rfl, a2, k2⟩
    exact ⟨rfl, fin w2 0 (by rw [e]; exact k2.heap a1 hb) (by rw [e]; exact a2) (two k1 k2)⟩
  · have e : c.step act = c.touch := by simp [Ck.step, h2]
    refine (touch_spec h).mono ?_
    rintro v w1 ⟨rfl, a1, k1⟩
    refine ⟨rfl, (rtouch_spec (k1.heap h' (Ne.symm hb))).mono ?_⟩
    rintro v w2 ⟨rfl, a2, k2⟩
    exact ⟨rfl, fin w2 0 (by rw [e]; exact k2.heap a1 hb) (by rw [e]; exact a2) (two k1 k2)⟩
  · have e : c.step act = c.tick := by simp [Ck.step, h0, h1, h2]
    refine (tick_spec h hc).mono ?_
    rintro v w1 ⟨rfl, a1, k1⟩
    refine ⟨_, rfl, (rtick_spec (k1.heap h' (Ne.symm hb)) hc).mono ?_⟩
    rintro v w2 ⟨rfl, a2, k2⟩
    exact ⟨_, rfl, fin w2 c.why (by rw [e]; exact k2.heap a1 hb) (by rw [e]; exact a2) (two k1 k2)⟩

theorem awake_spec {w : World} : Run Try.prog 9 #[] w fun v w' => v = .bool true ∧ Fr w w' := by
  refine law22_awake.ok (new_spec.mono ?_)
  rintro v w1 ⟨rfl, a1, x1, _⟩
  have f1 : Fr w w1 := Fr.of_ext x1
  have go : ∀ {w1 w2 : World}, Fr w w1 → Keep (· = w.heap.size) w1 w2 → Fr w w2 := fun f k => f.step k fun i h => by omega
  refine ⟨_, rfl, (tick_spec a1 (by simp [Ck.ok])).mono ?_⟩
  rintro v w2 ⟨rfl, a2, k2⟩
  have f2 := go f1 k2
  refine ⟨_, rfl, (start_spec a2).mono ?_⟩
  rintro v w3 ⟨rfl, a3, k3⟩
  have f3 := go f2 k3
  refine ⟨rfl, (tick_spec a3 Ck.ok_start).mono ?_⟩
  rintro v w4 ⟨rfl, a4, k4⟩
  have f4 := go f3 k4
  refine ⟨_, rfl, (touch_spec a4).mono ?_⟩
  rintro v w5 ⟨rfl, a5, k5⟩
  have f5 := go f4 k5
  refine ⟨rfl, (tick_spec a5 (Ck.ok_touch (Ck.ok_tick Ck.ok_start))).mono ?_⟩
  rintro v w6 ⟨rfl, a6, k6⟩
  have f6 := go f5 k6
  refine ⟨_, rfl, (now_spec a6).mono ?_⟩
  rintro v w7 ⟨rfl, rfl⟩
  refine ⟨_, _, _, rfl, (tick_spec (w := w6.drew) a6 (Ck.ok_tick (Ck.ok_touch (Ck.ok_tick Ck.ok_start)))).mono ?_⟩
  rintro v w8 ⟨rfl, a8, k8⟩
  have f8 := go (f6.ext (Ext.drew _)) k8
  exact ⟨_, rfl, ifP_eq (by decide) (ifP_eq (by decide) (ifP_eq (by decide) (ifP_t (by decide) (ifP_eq (by decide) (ifP_eq (by decide) ⟨congrArg Value.bool (by decide), f8⟩)))))⟩

end Go.Proofs.Ytbhfcpilhiojaaa
