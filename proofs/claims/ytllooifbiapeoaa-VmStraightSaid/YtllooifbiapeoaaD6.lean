/- Package vm: start, Run, Trace. -/
import Derived.Test.YtllooifbiapeoaaD5
import Derived.Test.YtllooifbiapeoaaHInts
namespace Go.Proofs.Ytllooifbiapeoaa
open Go.Rd Go.RowKit
set_option linter.unusedVariables false
set_option linter.unusedSimpArgs false
set_option maxRecDepth 100000

/-- What a run tells, with its errors. -/
def verdV (xs : List Ins) (pkt : List Int) : Int × Int × Int := if codeV xs pkt = 0 then ((runV xs pkt).1.1, (runV xs pkt).1.2, ((runV xs pkt).2.length : Int)) else (0, 0, 0)
def traceV (xs : List Ins) (pkt : List Int) : List Int := if codeV xs pkt = 0 then (runV xs pkt).2.map (fun n : Nat => (n : Int)) else []
abbrev vArr (r : Int × Int × Int) : Value := .agg #[.int .u32 r.1, .int .i64 r.2.1, .int .i64 r.2.2]

section
variable {Wb w : World} {b : Nat} {A P : Option Addr} {n c pn pc : Nat} {xs : List Ins} {pkt : List Int} {seen : Value} {I : List Nat → (Nat → Prop) → World → Prop}
theorem codeV_zero (h : codeV xs pkt = 0) : (checkV xs).2 = 0 ∧ pkt.length ≤ 65536 := by
  unfold codeV at h
  split at h
  · cases h
  · rename_i h1
    split at h
    · cases h
    · exact ⟨Classical.not_not.1 h1, by omega⟩
/-- A run at its beginning, or an error. -/
def StartOf (w : World) (xs : List Ins) (pkt : List Int) (P : Option Addr) (pn pc : Nat) (v : Value) (w' : World) : Prop :=
  Go.Rd.Ext w w' ∧ (codeV xs pkt ≠ 0 → v = .tuple #[.pointer none, .int .i64 (codeV xs pkt)]) ∧ (codeV xs pkt = 0 → ∃ b, w.heap.size ≤ b ∧ v = .tuple #[.pointer (some ⟨b, 0, none⟩), .int .i64 0] ∧ RAt w' b ws0 P pn pc 0 0 0 false)
theorem start_spec (hx : IInsns w A n xs) (hok : Inss xs) (hn : n ≤ 281474976710656) (hp : IBytes w P pn pkt) : Run Try.prog 32 #[.slice A n c, .slice P pn pc] w (StartOf w xs pkt P pn pc) := by
  have hl := hp.len
  refine vm_start.ok ((check_spec hx hok hn).mono ?_)
  rintro v w1 ⟨rfl, x1⟩
  refine ⟨_, _, rfl, ifP_bne.2 ⟨fun hne => ?_, fun h0 => ifP_decide.2 ⟨fun hlt => ?_, fun hlt => letA fun w2 h2 x2 s2 => ?_⟩⟩⟩
  · have e : codeV xs pkt = 50 := by rw [codeV, if_pos hne]
    refine ⟨x1, fun _ => by rw [e], fun h => by rw [e] at h; cases h⟩
  · have e : codeV xs pkt = 51 := by rw [codeV, if_neg (not_not_intro h0), if_pos (by omega)]
    refine ⟨x1, fun _ => by rw [e], fun h => by rw [e] at h; cases h⟩
  · have e : codeV xs pkt = 0 := by rw [codeV, if_neg (not_not_intro h0), if_neg (by omega)]
    refine ⟨x1.trans x2, fun h => absurd e h, fun _ => ⟨w1.heap.size, x1.size, rfl, ⟨h2, ws0_ok⟩⟩⟩
theorem play_spec (hx : IInsns Wb A n xs) (hok : Inss xs) (T : Taken xs) (hp : IBytes Wb P pn pkt) (hpc : pn ≤ pc) (hpn : pn ≤ 65536) (hb : Wb.heap.size ≤ b) (sn : Seen seen I) {F : Nat → Prop} (x : Go.Rd.Ext Wb w) (hr : RAt w b ws0 P pn pc 0 0 0 false) (hI : I [] F w) (hF : ∀ k, F k → Wb.heap.size ≤ k ∧ k ≠ b) :
    Run Try.prog 33 #[.pointer (some ⟨b, 0, none⟩), .slice A n c, seen] w fun v w' => v = .tuple #[] ∧ Go.Rd.Ext Wb w' ∧ ∃ F' ws' a' e', RAt w' b ws' P pn pc (runV xs pkt).1.2 a' (runV xs pkt).1.1 e' ∧ I (runV xs pkt).2 F' w' ∧ ∀ k, F' k → Wb.heap.size ≤ k := by
  refine vm_run_play.ok (table_spec.mono ?_)
  rintro v w1 ⟨D, ty, rfl, hD, hT, x1⟩
  have hbl := (Array.getElem?_eq_some_iff.1 hr.cell).1
  have hl := hx.len
  have h0 := T.pos
  refine ⟨_, rfl, play_loop (b := b) (D := D) (ty := ty) (I := I) hx hok T hp hpc hpn hb (by omega) sn n 0 (by omega) (by omega) w1 F ws0 [] (x.trans x1) (hr.ext x1) hT (sn.keep (X := fun _ => False) hI (Keep.ext x1) fun _ _ h => h) (fun k hk => ⟨(hF k hk).1, (hF k hk).2, by have := sn.lt hI hk; omega⟩) (Nat.le_refl _) ?_⟩
  intro w' F' ws' a' e' xw hrw hIw hFw
  have e : runX xs pkt (n - 0) 0 ws0 = runV xs pkt := by rw [runV, hl]; rfl
  rw [e] at hrw hIw
  exact ⟨rfl, xw, F', ws', a', e', hrw, hIw, fun k hk => (hFw k hk).1⟩
end

/-- A verdict in its block, read. -/
theorem rd3 {w : World} {b : Nat} {x : Int × Int × Int} {t : TypeId} {Q : Int → Int → Int → Prop} (h : w.heap[b]? = some (.cells #[.int .u32 x.1, .int .i64 x.2.1, .int .i64 x.2.2] t (0, 0))) (hq : Q x.1 x.2.1 x.2.2) :
    ∃ t0 : Int, w.cell? ⟨b, 0, none⟩ = some (.int .u32 t0) ∧ ∃ t1 : Int, w.cell? ((Addr.mk b 0 none).add 1) = some (.int .i64 t1) ∧ ∃ t2 : Int, w.cell? ((Addr.mk b 0 none).add 2) = some (.int .i64 t2) ∧ Q t0 t1 t2 :=
  ⟨_, (cell_of h).trans rfl, _, by rw [add_mk]; exact (cell_of h).trans rfl, _, by rw [add_mk]; exact (cell_of h).trans rfl, hq⟩

/-! ## Run -/

def CountAt (C : Nat) (tr : List Nat) (F : Nat → Prop) (w : World) : Prop := w.heap[C]? = some (.cells #[.int .i64 (tr.length : Int)] 3 (0, 0)) ∧ F = (· = C)
theorem seen_count {C : Nat} : Seen (.func (.func 34) #[] #[.pointer (some ⟨C, 0, none⟩)]) (CountAt C) where
  keep := by
    rintro tr F w w' X ⟨h, rfl⟩ k hX
    exact ⟨k.heap h (hX C rfl), rfl⟩
  lt := by
    rintro tr F w k ⟨h, rfl⟩ rfl
    exact (Array.getElem?_eq_some_iff.1 h).1
  call := by
    rintro tr F w a ⟨h, rfl⟩ ha hl
    refine ⟨_, _, _, rfl, by kernel_rfl, Run.dyn (all := [_, _]) rfl (vm_Run_1.ok ⟨_, (cell_of h).trans rfl, ?_⟩)⟩
    rw [wrap_i64 (by omega) (by omega)]
    refine cell_put h (show 0 < 1 from Nat.zero_lt_one) rfl fun w2 h2 k2 => ⟨rfl, _, ⟨?_, rfl⟩, k2, fun k hk => .inl hk⟩
    rw [List.length_append]
    exact h2
theorem vrun_spec {w : World} {A P : Option Addr} {n c pn pc : Nat} {xs : List Ins} {pkt : List Int} (hx : IInsns w A n xs) (hok : Inss xs) (hn : n ≤ 281474976710656) (hp : IBytes w P pn pkt) (hpc : pn ≤ pc) :
    Run Try.prog 14 #[.slice A n c, .slice P pn pc] w fun v w' => v = .tuple #[vArr (verdV xs pkt), .int .i64 (codeV xs pkt)] ∧ Go.Rd.Ext w w' := by
  have hl := hp.len
  refine vm_Run.ok (letA fun w1 h1 x1 s1 => (start_spec (hx.ext x1) hok hn (hp.ext x1)).mono ?_)
  rintro v w2 ⟨x2, hne, heq⟩
  have h2 := x2.heap h1
  by_cases hc : codeV xs pkt = 0
  · obtain ⟨b, hb, rfl, hr⟩ := heq hc
    obtain ⟨hc0, hlen⟩ := codeV_zero hc
    obtain ⟨T, _⟩ := taken_of hc0
    have z := x2.size
    have hbl := (Array.getElem?_eq_some_iff.1 hr.cell).1
    refine ⟨_, _, rfl, ifP_f rfl (letA fun w3 h3 x3 s3 => cell_put h3 (by decide) rfl fun w4 h4 k4 => ?_)⟩
    have h4 : w4.heap[w2.heap.size]? = some (.cells #[.int .i64 0] 3 (0, 0)) := h4
    have x24 : Go.Rd.Ext w2 w4 := x3.fresh k4 fun j hj => by rw [hj]; exact Nat.le_refl _
    refine (play_spec (Wb := w1) (b := b) (hx.ext x1) hok T (hp.ext x1) hpc (by omega) hb (seen_count (C := w2.heap.size)) (x2.trans x24) (hr.ext x24) ⟨h4, rfl⟩ fun k hk => ⟨by omega, by omega⟩).mono ?_
    rintro v w5 ⟨rfl, x15, F', ws', a', e', hr5, hI5, -⟩
    obtain ⟨hI5, -⟩ := hI5
    have h5 := x15.heap h1
    refine ⟨rfl, fun u => RAt u b ws' P pn pc (runV xs pkt).1.2 a' (runV xs pkt).1.1 e' ∧ u.heap[w2.heap.size]? = some (.cells #[.int .i64 ((runV xs pkt).2.length : Int)] 3 (0, 0)), ⟨hr5.ext (Go.Rd.Ext.drew w5), (Go.Rd.Ext.drew w5).heap hI5⟩, letD fun w6 _ x6 => ⟨_, rfl, _, fun u hu => by rw [add_mk]; exact hu.1.tail (i := 3) rfl rfl, _, rfl, _, fun u hu => by rw [add_mk]; exact hu.1.tail (i := 1) rfl rfl, _, fun u hu => (cell_of hu.2).trans rfl, ?_⟩⟩
    refine storeRow_block (x6.heap h5) (show 0 + 0 + 3 ≤ 3 by decide) rfl fun w7 h7 k7 _ => ?_
    rw [setFrom_all [.int .u32 0, .int .i64 0, .int .i64 0] [.int .u32 (runV xs pkt).1.1, .int .i64 (runV xs pkt).1.2, .int .i64 ((runV xs pkt).2.length : Int)] rfl] at h7
    have hv : verdV xs pkt = ((runV xs pkt).1.1, (runV xs pkt).1.2, ((runV xs pkt).2.length : Int)) := by rw [verdV, if_pos hc]
    have h7 : w7.heap[w.heap.size]? = some (.cells #[.int .u32 (verdV xs pkt).1, .int .i64 (verdV xs pkt).2.1, .int .i64 (verdV xs pkt).2.2] 26 (0, 0)) := by rw [hv]; exact h7
    refine rd3 (x := verdV xs pkt) h7 ⟨?_, ?_⟩
    · rw [hc]
    · exact (x1.trans (x15.trans x6)).fresh k7 fun j hj => by rw [hj]; exact Nat.le_refl _
  · rw [hne hc]
    refine ⟨_, _, rfl, ifP_t (by simpa using hc) (storeRow_block h2 (show 0 + 0 + 3 ≤ 3 by decide) rfl fun w7 h7 k7 _ => ?_)⟩
    rw [setFrom_all [.int .u32 0, .int .i64 0, .int .i64 0] [.int .u32 0, .int .i64 0, .int .i64 0] rfl] at h7
    have hv : verdV xs pkt = (0, 0, 0) := by rw [verdV, if_neg hc]
    have h7 : w7.heap[w.heap.size]? = some (.cells #[.int .u32 (verdV xs pkt).1, .int .i64 (verdV xs pkt).2.1, .int .i64 (verdV xs pkt).2.2] 26 (0, 0)) := by rw [hv]; exact h7
    refine rd3 (x := verdV xs pkt) h7 ⟨?_, ?_⟩
    · rfl
    · exact (x1.trans x2).fresh k7 fun j hj => by rw [hj]; exact Nat.le_refl _

/-! ## Trace -/

def TrAt (C : Nat) (tr : List Nat) (F : Nat → Prop) (w : World) : Prop := ∃ (O : Option Addr) (oc : Nat), w.heap[C]? = some (.cells #[.slice O tr.length oc] 27 (0, 0)) ∧ OInts w O oc (tr.map fun n : Nat => (n : Int)) ∧ ¬ blk O C ∧ F = fun k => k = C ∨ blk O k
theorem seen_trace {C : Nat} : Seen (.func (.func 39) #[] #[.pointer (some ⟨C, 0, none⟩)]) (TrAt C) where
  keep := by
    rintro tr F w w' X ⟨O, oc, h, ho, hb, rfl⟩ k hX
    exact ⟨O, oc, k.heap h (hX C (.inl rfl)), ho.keep k fun j hj => hX j (.inr hj), hb, rfl⟩
  lt := by
    rintro tr F w k ⟨O, oc, h, ho, hb, rfl⟩ (rfl | hk)
    · exact (Array.getElem?_eq_some_iff.1 h).1
    · exact ho.lt k hk
  call := by
    rintro tr F w a ⟨O, oc, h, ho, hb, rfl⟩ ha hl
    have hC := (Array.getElem?_eq_some_iff.1 h).1
    refine ⟨_, _, _, rfl, by kernel_rfl, Run.dyn (all := [_, _]) rfl (vm_Trace_1.ok ⟨_, _, _, (cell_of h).trans rfl, letA fun w1 h1 x1 s1 => ?_⟩)⟩
    have hB : RdC w1 (some (newA w)) [.int .i64 ((a : Nat) : Int)] := by
      have : Own 3 1 w1 (some (newA w)) 1 [.int .i64 ((a : Nat) : Int)] := .inr ⟨_, [], rfl, h1, rfl⟩
      exact this.cells
    obtain ⟨O', oc', w2, hr, ho2, hc2, k2, b2⟩ := append_own slInts (ty := 27) (n := tr.length) (d := 1) (ho.ext x1) (by rw [List.length_map, List.length_map, Nat.mul_one]) hB (m := 1) rfl rfl (by omega) (by omega)
    refine ⟨_, w2, hr, _, _, _, rfl, ?_⟩
    have h2 : w2.heap[C]? = some (.cells #[.slice O tr.length oc] 27 (0, 0)) := k2.heap (x1.heap h) hb
    have hb2 : ¬ blk O' C := fun hk => by rcases b2 C hk with hk | hk; exact hb hk; omega
    refine cell_put h2 (show 0 < 1 from Nat.zero_lt_one) rfl fun w3 h3 k3 => ⟨rfl, _, ⟨O', oc', ?_, ?_, hb2, rfl⟩, ?_, ?_⟩
    · rw [List.length_append]
      exact h3
    · have e : ((tr ++ [a]).map fun n : Nat => (n : Int)).map (Value.int .i64) = (tr.map fun n : Nat => (n : Int)).map (Value.int .i64) ++ [.int .i64 ((a : Nat) : Int)] := by simp
      show Own _ 1 w3 O' oc' (((tr ++ [a]).map fun n : Nat => (n : Int)).map (Value.int .i64))
      rw [e]
      exact ho2.keep k3 fun j hj h => hb2 (h ▸ hj)
    · exact ((Keep.ext x1).trans k2 (fun _ _ h => h) fun j hj h => .inr h).trans k3 (fun _ _ h => h) fun j hj h => .inl h
    · rintro k (rfl | hk)
      · exact .inl (.inl rfl)
      · rcases b2 k hk with h | h
        · exact .inl (.inr h)
        · exact .inr (by omega)
theorem vtrace_spec {w : World} {A P : Option Addr} {n c pn pc : Nat} {xs : List Ins} {pkt : List Int} (hx : IInsns w A n xs) (hok : Inss xs) (hn : n ≤ 281474976710656) (hp : IBytes w P pn pkt) (hpc : pn ≤ pc) :
    Run Try.prog 18 #[.slice A n c, .slice P pn pc] w fun v w' => ∃ O oc, v = .tuple #[.slice O (traceV xs pkt).length oc, .int .i64 (codeV xs pkt)] ∧ OInts w' O oc (traceV xs pkt) ∧ Go.Rd.Ext w w' ∧ ∀ k, blk O k → w.heap.size ≤ k := by
  have hl := hp.len
  refine vm_Trace.ok ((start_spec hx hok hn hp).mono ?_)
  rintro v w2 ⟨x2, hne, heq⟩
  by_cases hc : codeV xs pkt = 0
  · obtain ⟨b, hb, rfl, hr⟩ := heq hc
    obtain ⟨hc0, hlen⟩ := codeV_zero hc
    obtain ⟨T, _⟩ := taken_of hc0
    have z := x2.size
    have hbl := (Array.getElem?_eq_some_iff.1 hr.cell).1
    refine ⟨_, _, rfl, ifP_f rfl (letA fun w3 h3 x3 s3 => ?_)⟩
    refine (play_spec (Wb := w) (b := b) hx hok T hp hpc (by omega) hb (seen_trace (C := w2.heap.size)) (x2.trans x3) (hr.ext x3) ⟨none, 0, h3, Own.empty, blk_none, rfl⟩ fun k hk => ?_).mono ?_
    · rcases hk with rfl | hk
      · exact ⟨by omega, by omega⟩
      · exact absurd hk blk_none
    rintro v w5 ⟨rfl, x15, F', ws', a', e', hr5, ⟨O, oc, h5, ho5, hb5, rfl⟩, hF5⟩
    refine ⟨rfl, _, _, _, (cell_of h5).trans rfl, O, oc, ?_, ?_, x15, ?_⟩
    · rw [traceV, if_pos hc, hc, List.length_map]
    · rw [traceV, if_pos hc]
      exact ho5
    · exact fun k hk => hF5 k (.inr hk)
  · rw [hne hc]
    refine ⟨_, _, rfl, ifP_t (by simpa using hc) ⟨none, 0, ?_, ?_, x2, fun k hk => absurd hk blk_none⟩⟩
    · rw [traceV, if_neg hc]
      rfl
    · rw [traceV, if_neg hc]
      exact Own.empty
end Go.Proofs.Ytllooifbiapeoaa
