/- Package vm: a run in its block; jump. -/
import Derived.Test.YtbchjihecdkfeaaVP4
import Derived.Test.YtbchjihecdkfeaaHInts
namespace Go.Proofs.Ytbchjihecdkfeaa
open Go.Rd Go.RowKit
set_option linter.unusedVariables false
set_option linter.unusedSimpArgs false
set_option maxRecDepth 100000
abbrev RAt (w : World) (b : Nat) (ws : List Int) (P : Option Addr) (pn pc : Nat) (f a v : Int) (e : Bool) : Prop := RAtG w b ws P pn pc f [.int .i64 a, .int .u32 v, .bool e] 103
abbrev Rn (w : World) (b : Nat) (ws : List Int) (P : Option Addr) (pn pc : Nat) (a v : Int) (e : Bool) (pkt : List Int) (i : Ins) : Prop := RnG w b ws P pn pc [.int .i64 a, .int .u32 v, .bool e] 103 pkt i
abbrev Did (w : World) (b : Nat) (r : Int × List Int) (P : Option Addr) (pn pc : Nat) (a v : Int) (e : Bool) (u : Value) (w' : World) : Prop := DidG w b r P pn pc [.int .i64 a, .int .u32 v, .bool e] 103 u w'
section
variable {w w1 w2 : World} {b : Nat} {ws : List Int} {P : Option Addr} {pn pc : Nat} {a v : Int} {e : Bool} {pkt : List Int} {i : Ins} {tl : List Value} {ty : TypeId}
theorem straight (r : Rn w b ws P pn pc a v e pkt i) (hf : faultOf i = 0) (h5 : classOf i.c ≠ 5) (h6 : classOf i.c ≠ 6) : ∃ g, (tabN 10)[i.c.toNat]? = some (fnV g) ∧ (0 ≤ i.c ∧ i.c < 256) ∧ okCall Try.prog g = true ∧ Run Try.prog g (ArgM b i) w (Did w b (stepX pkt i ws) P pn pc a v e) := straightG r hf h5 h6
theorem jump_spec {at_ : Nat} (h : RAt w b ws P pn pc 0 ((at_ + 1 : Nat) : Int) v e) (ha : at_ ≤ 4096) (hi : i.ok) : Run Try.prog 110 (ArgM b i) w fun u w' => u = .tuple #[] ∧ RAt w' b ws P pn pc 0 ((goalX i at_ ws : Nat) : Int) v e ∧ Keep (· = b) w w' := by
  obtain ⟨_, ⟨t0, t1⟩, ⟨f0, f1⟩, k0, k1⟩ := hi
  have c20 : ∀ {u : World}, RAt u b ws P pn pc 0 ((at_ + 1 : Nat) : Int) v e → u.cell? ((Addr.mk b 0 none).add 20) = some (.int .i64 ((at_ + 1 : Nat) : Int)) := fun hu => by rw [add_mk]; exact hu.tail (i := 2) rfl rfl
  have put : ∀ {w2 : World} {x : Int} {g : Nat}, Go.Rd.Ext w w2 → 0 ≤ x → x ≤ 4294967295 → g = at_ + 1 + x.toNat → g = goalX i at_ ws → (∃ u, w2.cell? ((Addr.mk b 0 none).add 20) = some u) ∧ w2.frozen? ((Addr.mk b 0 none).add 20) = false ∧ letW (w2.setCell ((Addr.mk b 0 none).add 20) (.int .i64 (IntKind.i64.wrap (((at_ + 1 : Nat) : Int) + IntKind.i64.wrap x)))) fun w3 => (Value.tuple #[] = .tuple #[] ∧ RAt w3 b ws P pn pc 0 ((goalX i at_ ws : Nat) : Int) v e ∧ Keep (· = b) w w3) := by
    intro w2 x g x2 x0 x1 hg hg2
    have e1 : IntKind.i64.wrap (((at_ + 1 : Nat) : Int) + IntKind.i64.wrap x) = ((goalX i at_ ws : Nat) : Int) := by
      rw [wrap_i64 (x := x) (by omega) (by omega), wrap_i64 (by omega) (by omega)]
      omega
    rw [e1]
    exact (h.ext x2).putT (i := 2) (show 2 < 5 by decide) (by rw [add_mk]) fun w3 h3 k3 => ⟨rfl, h3, (Keep.ext x2).trans' k3⟩
  refine vm_run_jump.ok (letA fun w1 h1 x1 s1 => ⟨_, IAt.c0 h1, ifP_beq.2 ⟨fun h5 => ?_, fun h5 => ?_⟩⟩)
  · refine ⟨fun u => RAt u b ws P pn pc 0 ((at_ + 1 : Nat) : Int) v e ∧ IAt u w.heap.size i, ⟨(h.ext x1).ext (Go.Rd.Ext.drew w1), IAt.ext h1 (Go.Rd.Ext.drew w1)⟩, letD fun w2 _ x2 => ⟨_, rfl, _, fun u hu => c20 hu.1, _, fun u hu => hu.2.c3, _, rfl, put (x1.trans x2) k0 k1 rfl (by rw [goalX, if_pos h5])⟩⟩
  · refine ⟨fun u => RAt u b ws P pn pc 0 ((at_ + 1 : Nat) : Int) v e ∧ IAt u w.heap.size i, ⟨(h.ext x1).ext (Go.Rd.Ext.drew w1), IAt.ext h1 (Go.Rd.Ext.drew w1)⟩, letD fun w2 _ x2 => ⟨_, rfl, IAt.rdS (fun u hu => hu.2) ((asks_spec (i := i) ((h.ext x1).ext x2)).mono ?_)⟩⟩
    rintro u w3 ⟨rfl, x3⟩
    have x03 := (x1.trans x2).trans x3
    have x13 := x2.trans x3
    refine ⟨_, rfl, ifP_of (fun ht => ⟨fun u => RAt u b ws P pn pc 0 ((at_ + 1 : Nat) : Int) v e ∧ IAt u w.heap.size i, ⟨(h.ext x03).ext (Go.Rd.Ext.drew w3), IAt.ext (IAt.ext h1 x13) (Go.Rd.Ext.drew w3)⟩, letD fun w4 _ x4 => ⟨_, rfl, _, fun u hu => c20 hu.1, _, fun u hu => hu.2.c1, _, rfl, put (x03.trans x4) t0 (by omega) rfl (by rw [goalX, if_neg h5, if_pos ht])⟩⟩)
      fun hf => ⟨fun u => RAt u b ws P pn pc 0 ((at_ + 1 : Nat) : Int) v e ∧ IAt u w.heap.size i, ⟨(h.ext x03).ext (Go.Rd.Ext.drew w3), IAt.ext (IAt.ext h1 x13) (Go.Rd.Ext.drew w3)⟩, letD fun w4 _ x4 => ⟨_, rfl, _, fun u hu => c20 hu.1, _, fun u hu => hu.2.c2, _, rfl, put (x03.trans x4) f0 (by omega) rfl (by rw [goalX, if_neg h5, if_neg (by rw [hf]; decide)])⟩⟩⟩
end
end Go.Proofs.Ytbchjihecdkfeaa

namespace Go.Proofs.Ytbchjihecdkfeaa
open Go.Rd Go.RowKit
set_option linter.unusedVariables false
set_option linter.unusedSimpArgs false
set_option maxRecDepth 100000

/-- What is told of each place: a function value, and what it keeps. -/
structure Seen (seen : Value) (I : List Nat → (Nat → Prop) → World → Prop) : Prop where
  keep : ∀ {tr F w w'} {X : Nat → Prop}, I tr F w → Keep X w w' → (∀ k, F k → ¬ X k) → I tr F w'
  lt : ∀ {tr F w k}, I tr F w → F k → k < w.heap.size
  call : ∀ {tr F w} (a : Nat), I tr F w → a ≤ 4096 → tr.length ≤ 4096 → ∃ (g : FuncId) (fs cs : Array Value), seen = .func (.func g) fs cs ∧ okCall Try.prog g = true ∧ Run Try.prog g (fs ++ #[.int .i64 ((a : Nat) : Int)] ++ cs) w fun v w' => v = .tuple #[] ∧ ∃ F', I (tr ++ [a]) F' w' ∧ Keep F w w' ∧ ∀ k, F' k → F k ∨ w.heap.size ≤ k

section
variable {Wb : World} {b D : Nat} {A P : Option Addr} {n c pn pc : Nat} {xs : List Ins} {pkt : List Int} {seen : Value} {I : List Nat → (Nat → Prop) → World → Prop} {ty : TypeId} {R : Value → World → Prop}
theorem play_loop (hx : IInsns Wb A n xs) (hok : Inss xs) (T : Taken xs) (hp : IBytes Wb P pn pkt) (hpc : pn ≤ pc) (hpn : pn ≤ 65536) (hb : Wb.heap.size ≤ b) (hbD : b < D) (sn : Seen seen I) :
    ∀ (d a : Nat), n - a ≤ d → a < n → ∀ (w : World) (F : Nat → Prop) (ws : List Int) (tr : List Nat), Go.Rd.Ext Wb w → RAt w b ws P pn pc 0 a 0 false → w.heap[D]? = some (.cells (tabN 10) ty (0, 0)) → I tr F w → (∀ k, F k → Wb.heap.size ≤ k ∧ k ≠ b ∧ k ≠ D) → tr.length ≤ a →
      (∀ w' F' ws' a' e', Go.Rd.Ext Wb w' → RAt w' b ws' P pn pc (runX xs pkt (n - a) a ws).1.2 a' (runX xs pkt (n - a) a ws).1.1 e' → I (tr ++ (runX xs pkt (n - a) a ws).2) F' w' → (∀ k, F' k → Wb.heap.size ≤ k ∧ k ≠ b ∧ k ≠ D) → R (.tuple #[]) w') →
      vm_run_play.L0 R (some ⟨b, 0, none⟩) A n c seen (some ⟨D, 0, none⟩) w := by
  intro d
  have hl := hx.len
  have hle := T.le
  induction d with
  | zero => intro a hd ha; omega
  | succ d ih =>
    intro a hd ha w F ws tr x hr hT hI hF htr hR
    have bF : ∀ k, F k → ¬ k = b := fun k hk => (hF k hk).2.1
    obtain ⟨q, i, hq, hi, h4⟩ := IInsns.at4 (RdM.ext hx x) (i := a) ha
    have hio : i.ok := hok i (List.mem_of_getElem? hi)
    have hfa := (T.at_ a i hi).1
    obtain ⟨g, fs, cs, hseen, hcall, hrun⟩ := sn.call a hI (by omega) (by omega)
    have c20 : ∀ {u : World} {z : Int} {ws : List Int}, RAt u b ws P pn pc 0 z 0 false → u.cell? ((Addr.mk b 0 none).add 20) = some (.int .i64 z) := fun hu => by rw [add_mk]; exact hu.tail (i := 2) rfl rfl
    have e1 := runX_at (pkt := pkt) (ws := ws) hl hi
    refine vm_run_play.L0_step ⟨_, rfl, _, by rw [add_mk]; exact hr.tail (i := 4) rfl rfl, ifP_t rfl ⟨_, rfl, _, by rw [add_mk]; exact hr.tail (i := 1) rfl rfl, ifP_t rfl ⟨_, rfl, _, c20 hr, g, fs, cs, hseen, hcall, hrun.mono ?_⟩⟩⟩
    rintro v w2 ⟨rfl, F2, hI2, k2, n2⟩
    have x2 : Go.Rd.Ext Wb w2 := x.fresh k2 fun k hk => (hF k hk).1
    have hr2 := hr.keep k2 fun hb => bF b hb rfl
    have hT2 : w2.heap[D]? = some (.cells (tabN 10) ty (0, 0)) := k2.heap hT fun h => (hF D h).2.2 rfl
    have hDl := (Array.getElem?_eq_some_iff.1 hT).1
    have hbl := (Array.getElem?_eq_some_iff.1 hr.cell).1
    have z := x.size
    have hF2 : ∀ k, F2 k → Wb.heap.size ≤ k ∧ k ≠ b ∧ k ≠ D := fun k hk => by
      rcases n2 k hk with h | h
      · exact hF k h
      · exact ⟨by omega, by omega, by omega⟩
    obtain ⟨q2, i2, hq2, hi2, h42⟩ := IInsns.at4 (RdM.ext hx x2) (i := a) ha
    obtain rfl : i2 = i := by rw [hi] at hi2; exact (Option.some.inj hi2).symm
    have ht : Int.toNat ((a : Nat) : Int) = a := Int.toNat_natCast a
    refine ⟨rfl, _, rfl, _, c20 hr2, by omega, by omega, q2, hq2, ?_⟩
    rw [ht]
    refine ⟨_, h42.c, _, h42.t, _, h42.f, _, h42.k, letA fun w3 h3 x3 s3 => ?_⟩
    have hr3 := hr2.ext x3
    have hT3 := x3.heap hT2
    refine storeRow_block h3 (show 0 + 0 + 4 ≤ 4 by decide) rfl fun w4 h4' k4 _ => ?_
    have hi4 : IAt w4 w2.heap.size i2 := by
      unfold IAt
      rw [h4', setFrom_all [.int .u16 0, .int .u8 0, .int .u8 0, .int .u32 0] [.int .u16 i2.c, .int .u8 i2.t, .int .u8 i2.f, .int .u32 i2.k] rfl]
      rfl
    have x24 : Go.Rd.Ext w2 w4 := x3.fresh k4 fun j hj => by rw [hj]; exact Nat.le_refl _
    have hr4 := hr2.ext x24
    have z2 := k2.size
    have bne : b ≠ w2.heap.size := by omega
    have ew : IntKind.i64.wrap (((a : Nat) : Int) + 1) = ((a + 1 : Nat) : Int) := wrap_i64 (by omega) (by omega)
    refine ⟨_, rfl, _, c20 hr4, _, rfl, ?_⟩
    rw [ew]
    refine hr4.putT (i := 2) (show 2 < 5 by decide) (by rw [add_mk]) fun w5 hr5 k5 => ?_
    have hr5 : RAt w5 b ws P pn pc 0 ((a + 1 : Nat) : Int) 0 false := hr5
    have x5 : Go.Rd.Ext Wb w5 := (x2.trans x24).fresh k5 fun j hj => by rw [hj]; exact hb
    have hi5 : IAt w5 w2.heap.size i2 := k5.heap hi4 fun h => bne h.symm
    have hT5 : w5.heap[D]? = some (.cells (tabN 10) ty (0, 0)) := k5.heap (x24.heap hT2) (by omega)
    have hI5 : I (tr ++ [a]) F2 w5 := sn.keep (sn.keep (X := fun _ => False) hI2 (Keep.ext x24) fun _ _ h => h) k5 fun k hk h => (hF2 k hk).2.1 h
    refine ⟨_, hi5.c0, class_spec.mono ?_⟩
    rintro v w6 ⟨rfl, hw6⟩
    subst hw6
    -- the next place
    have next : ∀ (w7 : World) (a' : Nat) (ws' : List Int), a < a' → a' < n → nextX pkt i2 a ws = .inr (a', ws') → RAt w7 b ws' P pn pc 0 a' 0 false → Keep (· = b) w6 w7 → vm_run_play.L0 R (some ⟨b, 0, none⟩) A n c seen (some ⟨D, 0, none⟩) w7 := by
      intro w7 a' ws' ha1 ha2 hn hr7 k7
      have x7 : Go.Rd.Ext Wb w7 := x5.fresh k7 fun j hj => by rw [hj]; exact hb
      rw [hn] at e1
      simp only at e1
      refine ih a' (by omega) ha2 w7 F2 ws' (tr ++ [a]) x7 hr7 (k7.heap hT5 (by omega)) (sn.keep hI5 k7 fun k hk h => (hF2 k hk).2.1 h) hF2 (by rw [List.length_append]; show tr.length + 1 ≤ a'; omega) fun w' F' ws'' a'' e' xw hrw hIw hFw => ?_
      rw [e1] at hR
      refine hR w' F' ws'' a'' e' xw hrw ?_ hFw
      rw [List.append_assoc] at hIw
      exact hIw
    have stop : ∀ (w7 : World) (ws' : List Int) (r : Int × Int) (z : Int) (e : Bool), nextX pkt i2 a ws = .inl r → RAt w7 b ws' P pn pc r.2 z r.1 e → Keep (· = b) w6 w7 → R (.tuple #[]) w7 := by
      intro w7 ws' r z e hn hr7 k7
      have x7 : Go.Rd.Ext Wb w7 := x5.fresh k7 fun j hj => by rw [hj]; exact hb
      rw [hn] at e1
      simp only at e1
      rw [e1] at hR
      exact hR w7 F2 ws' z e x7 hr7 (sn.keep hI5 k7 fun k hk h => (hF2 k hk).2.1 h) hF2
    refine ⟨_, rfl, ifP_beq.2 ⟨fun h5 => ?_, fun h5 => ifP_beq.2 ⟨fun h6 => ?_, fun h6 => ?_⟩⟩⟩
    · obtain ⟨g1, g2⟩ := T.goalX hi hio h5 ws
      refine IAt.rd hi5 ((jump_spec (i := i2) hr5 (by omega) hio).mono ?_)
      rintro v w7 ⟨rfl, hr7, k7⟩
      exact ⟨rfl, next w7 _ ws g1 (by omega) (nextX_jump h5) hr7 k7⟩
    · refine ⟨fun u => RAt u b ws P pn pc 0 ((a + 1 : Nat) : Int) 0 false ∧ IAt u w2.heap.size i2, ⟨hr5.ext (Go.Rd.Ext.drew w6), hi5.ext (Go.Rd.Ext.drew w6)⟩, letD fun w8 _ x8 => ⟨_, rfl, IAt.rdS (fun u hu => hu.2) ((back_spec (i := i2) (hr5.ext x8)).mono ?_)⟩⟩
      rintro v w9 ⟨rfl, x9⟩
      refine ⟨_, rfl, _, rfl, (hr5.ext (x8.trans x9)).putT (i := 3) (show 3 < 5 by decide) (by rw [add_mk]) fun w10 hr10 k10 => ⟨_, rfl, hr10.putT (i := 4) (show 4 < 5 by decide) (by rw [add_mk]) fun w11 hr11 k11 => ?_⟩⟩
      have hr11 : RAt w11 b ws P pn pc 0 ((a + 1 : Nat) : Int) (if i2.c = 22 then wd ws 0 else i2.k) true := hr11
      unfold vm_run_play.J1
      refine vm_run_play.L0_step ⟨_, rfl, _, by rw [add_mk]; exact hr11.tail (i := 4) rfl rfl, ifP_f rfl (ifP_f rfl ?_)⟩
      exact stop w11 ws (if i2.c = 22 then wd ws 0 else i2.k, 0) _ true (nextX_ret h6) hr11 (((Keep.ext (x8.trans x9)).trans' k10).trans' k11)
    · have hn6 := T.next hi h6
      refine ⟨fun u => IAt u w2.heap.size i2 ∧ u.heap[D]? = some (.cells (tabN 10) ty (0, 0)), ⟨hi5.ext (Go.Rd.Ext.drew w6), (Go.Rd.Ext.drew w6).heap hT5⟩, letD fun w8 _ x8 => ?_⟩
      have r8 : Rn w8 b ws P pn pc ((a + 1 : Nat) : Int) 0 false pkt i2 := ⟨hr5.ext x8, hp.ext (x5.trans x8), hpc, hpn, hio⟩
      obtain ⟨g2, htab, ⟨c0, c1⟩, hok2, hrun2⟩ := straight r8 hfa h5 h6
      refine ⟨_, fun u hu => hu.1.c0, _, rfl, c0, c1, fnV g2, fun u hu => ?_, _, rfl, IAt.rdS (fun u hu => hu.1) ⟨g2, #[], #[], rfl, hok2, ?_⟩⟩
      · rw [add_mk, Nat.zero_add, Nat.mul_one]
        exact (cell_of hu.2).trans htab
      · refine Run.mono hrun2 ?_
        rintro v w9 ⟨rfl, hr9, k9⟩
        refine ⟨rfl, ?_⟩
        have k69 := (Keep.ext x8).trans' k9
        by_cases hf : (stepX pkt i2 ws).1 = 0
        · rw [hf] at hr9
          exact next w9 (a + 1) _ (Nat.lt_succ_self a) (by omega) (nextX_step h5 h6 hf) hr9 k69
        · refine vm_run_play.L0_step ⟨_, rfl, _, by rw [add_mk]; exact hr9.tail (i := 4) rfl rfl, ifP_t rfl ⟨_, rfl, _, by rw [add_mk]; exact hr9.tail (i := 1) rfl rfl, ifP_f (by simpa using hf) ?_⟩⟩
          exact stop w9 (stepX pkt i2 ws).2 (0, (stepX pkt i2 ws).1) _ false (nextX_fault h5 h6 hf) hr9 k69
end
end Go.Proofs.Ytbchjihecdkfeaa

namespace Go.Proofs.Ytbchjihecdkfeaa
open Go.Rd Go.RowKit
set_option linter.unusedVariables false
set_option linter.unusedSimpArgs false
set_option maxRecDepth 100000

/-- What a run tells, with its errors. -/
def verdV (xs : List Ins) (pkt : List Int) : Int × Int × Int := if codeV xs pkt = 0 then ((runV xs pkt).1.1, (runV xs pkt).1.2, ((runV xs pkt).2.length : Int)) else (0, 0, 0)
def traceV (xs : List Ins) (pkt : List Int) : List Int := if codeV xs pkt = 0 then (runV xs pkt).2.map (fun n : Nat => (n : Int)) else []
abbrev vArr (r : Int × Int × Int) : Value := .agg #[.int .u32 r.1, .int .i64 r.2.1, .int .i64 r.2.2]

section
variable {Wb w : World} {b : Nat} {A P : Option Addr} {n c pn pc : Nat} {xs : List Ins} {pkt : List Int} {seen : Value} {I : List Nat → (Nat → Prop) → World → Prop}
theorem codeV_zero (h : codeV xs pkt = 0) : (checkV xs).2 = 0 ∧ pkt.length ≤ 65536 := by
  unfold codeV at h
  split at h
  · cases h
  · rename_i h1
    split at h
    · cases h
    · exact ⟨Classical.not_not.1 h1, by omega⟩
/-- A run at its beginning, or an error. -/
def StartOf (w : World) (xs : List Ins) (pkt : List Int) (P : Option Addr) (pn pc : Nat) (v : Value) (w' : World) : Prop :=
  Go.Rd.Ext w w' ∧ (codeV xs pkt ≠ 0 → v = .tuple #[.pointer none, .int .i64 (codeV xs pkt)]) ∧ (codeV xs pkt = 0 → ∃ b, w.heap.size ≤ b ∧ v = .tuple #[.pointer (some ⟨b, 0, none⟩), .int .i64 0] ∧ RAt w' b ws0 P pn pc 0 0 0 false)
theorem start_spec (hx : IInsns w A n xs) (hok : Inss xs) (hn : n ≤ 281474976710656) (hp : IBytes w P pn pkt) : Run Try.prog 65 #[.slice A n c, .slice P pn pc] w (StartOf w xs pkt P pn pc) := by
  have hl := hp.len
  refine vm_start.ok ((check_spec hx hok hn).mono ?_)
  rintro v w1 ⟨rfl, x1⟩
  refine ⟨_, _, rfl, ifP_bne.2 ⟨fun hne => ?_, fun h0 => ifP_decide.2 ⟨fun hlt => ?_, fun hlt => letA fun w2 h2 x2 s2 => ?_⟩⟩⟩
  · have e : codeV xs pkt = 50 := by rw [codeV, if_pos hne]
    refine ⟨x1, fun _ => by rw [e], fun h => by rw [e] at h; cases h⟩
  · have e : codeV xs pkt = 51 := by rw [codeV, if_neg (not_not_intro h0), if_pos (by omega)]
    refine ⟨x1, fun _ => by rw [e], fun h => by rw [e] at h; cases h⟩
  · have e : codeV xs pkt = 0 := by rw [codeV, if_neg (not_not_intro h0), if_neg (by omega)]
    refine ⟨x1.trans x2, fun h => absurd e h, fun _ => ⟨w1.heap.size, x1.size, rfl, ⟨h2, ws0_ok⟩⟩⟩
theorem play_spec (hx : IInsns Wb A n xs) (hok : Inss xs) (T : Taken xs) (hp : IBytes Wb P pn pkt) (hpc : pn ≤ pc) (hpn : pn ≤ 65536) (hb : Wb.heap.size ≤ b) (sn : Seen seen I) {F : Nat → Prop} (x : Go.Rd.Ext Wb w) (hr : RAt w b ws0 P pn pc 0 0 0 false) (hI : I [] F w) (hF : ∀ k, F k → Wb.heap.size ≤ k ∧ k ≠ b) :
    Run Try.prog 66 #[.pointer (some ⟨b, 0, none⟩), .slice A n c, seen] w fun v w' => v = .tuple #[] ∧ Go.Rd.Ext Wb w' ∧ ∃ F' ws' a' e', RAt w' b ws' P pn pc (runV xs pkt).1.2 a' (runV xs pkt).1.1 e' ∧ I (runV xs pkt).2 F' w' ∧ ∀ k, F' k → Wb.heap.size ≤ k := by
  refine vm_run_play.ok (table_spec.mono ?_)
  rintro v w1 ⟨D, ty, rfl, hD, hT, x1⟩
  have hbl := (Array.getElem?_eq_some_iff.1 hr.cell).1
  have hl := hx.len
  have h0 := T.pos
  refine ⟨_, rfl, play_loop (b := b) (D := D) (ty := ty) (I := I) hx hok T hp hpc hpn hb (by omega) sn n 0 (by omega) (by omega) w1 F ws0 [] (x.trans x1) (hr.ext x1) hT (sn.keep (X := fun _ => False) hI (Keep.ext x1) fun _ _ h => h) (fun k hk => ⟨(hF k hk).1, (hF k hk).2, by have := sn.lt hI hk; omega⟩) (Nat.le_refl _) ?_⟩
  intro w' F' ws' a' e' xw hrw hIw hFw
  have e : runX xs pkt (n - 0) 0 ws0 = runV xs pkt := by rw [runV, hl]; rfl
  rw [e] at hrw hIw
  exact ⟨rfl, xw, F', ws', a', e', hrw, hIw, fun k hk => (hFw k hk).1⟩
end

/-- A verdict in its block, read. -/
theorem rd3 {w : World} {b : Nat} {x : Int × Int × Int} {t : TypeId} {Q : Int → Int → Int → Prop} (h : w.heap[b]? = some (.cells #[.int .u32 x.1, .int .i64 x.2.1, .int .i64 x.2.2] t (0, 0))) (hq : Q x.1 x.2.1 x.2.2) :
    ∃ t0 : Int, w.cell? ⟨b, 0, none⟩ = some (.int .u32 t0) ∧ ∃ t1 : Int, w.cell? ((Addr.mk b 0 none).add 1) = some (.int .i64 t1) ∧ ∃ t2 : Int, w.cell? ((Addr.mk b 0 none).add 2) = some (.int .i64 t2) ∧ Q t0 t1 t2 :=
  ⟨_, (cell_of h).trans rfl, _, by rw [add_mk]; exact (cell_of h).trans rfl, _, by rw [add_mk]; exact (cell_of h).trans rfl, hq⟩

/-! ## Run -/

def CountAt (C : Nat) (tr : List Nat) (F : Nat → Prop) (w : World) : Prop := w.heap[C]? = some (.cells #[.int .i64 (tr.length : Int)] 3 (0, 0)) ∧ F = (· = C)
theorem seen_count {C : Nat} : Seen (.func (.func 67) #[] #[.pointer (some ⟨C, 0, none⟩)]) (CountAt C) where
  keep := by
    rintro tr F w w' X ⟨h, rfl⟩ k hX
    exact ⟨k.heap h (hX C rfl), rfl⟩
  lt := by
    rintro tr F w k ⟨h, rfl⟩ rfl
    exact (Array.getElem?_eq_some_iff.1 h).1
  call := by
    rintro tr F w a ⟨h, rfl⟩ ha hl
    refine ⟨_, _, _, rfl, by kernel_rfl, Run.dyn (all := [_, _]) rfl (vm_Run_1.ok ⟨_, (cell_of h).trans rfl, ?_⟩)⟩
    rw [wrap_i64 (by omega) (by omega)]
    refine cell_put h (show 0 < 1 from Nat.zero_lt_one) rfl fun w2 h2 k2 => ⟨rfl, _, ⟨?_, rfl⟩, k2, fun k hk => .inl hk⟩
    rw [List.length_append]
    exact h2
theorem vrun_spec {w : World} {A P : Option Addr} {n c pn pc : Nat} {xs : List Ins} {pkt : List Int} (hx : IInsns w A n xs) (hok : Inss xs) (hn : n ≤ 281474976710656) (hp : IBytes w P pn pkt) (hpc : pn ≤ pc) :
    Run Try.prog 40 #[.slice A n c, .slice P pn pc] w fun v w' => v = .tuple #[vArr (verdV xs pkt), .int .i64 (codeV xs pkt)] ∧ Go.Rd.Ext w w' := by
  have hl := hp.len
  refine vm_Run.ok (letA fun w1 h1 x1 s1 => (start_spec (hx.ext x1) hok hn (hp.ext x1)).mono ?_)
  rintro v w2 ⟨x2, hne, heq⟩
  have h2 := x2.heap h1
  by_cases hc : codeV xs pkt = 0
  · obtain ⟨b, hb, rfl, hr⟩ := heq hc
    obtain ⟨hc0, hlen⟩ := codeV_zero hc
    obtain ⟨T, _⟩ := taken_of hc0
    have z := x2.size
    have hbl := (Array.getElem?_eq_some_iff.1 hr.cell).1
    refine ⟨_, _, rfl, ifP_f rfl (letA fun w3 h3 x3 s3 => cell_put h3 (by decide) rfl fun w4 h4 k4 => ?_)⟩
    have h4 : w4.heap[w2.heap.size]? = some (.cells #[.int .i64 0] 3 (0, 0)) := h4
    have x24 : Go.Rd.Ext w2 w4 := x3.fresh k4 fun j hj => by rw [hj]; exact Nat.le_refl _
    refine (play_spec (Wb := w1) (b := b) (hx.ext x1) hok T (hp.ext x1) hpc (by omega) hb (seen_count (C := w2.heap.size)) (x2.trans x24) (hr.ext x24) ⟨h4, rfl⟩ fun k hk => ⟨by omega, by omega⟩).mono ?_
    rintro v w5 ⟨rfl, x15, F', ws', a', e', hr5, hI5, -⟩
    obtain ⟨hI5, -⟩ := hI5
    have h5 := x15.heap h1
    refine ⟨rfl, fun u => RAt u b ws' P pn pc (runV xs pkt).1.2 a' (runV xs pkt).1.1 e' ∧ u.heap[w2.heap.size]? = some (.cells #[.int .i64 ((runV xs pkt).2.length : Int)] 3 (0, 0)), ⟨hr5.ext (Go.Rd.Ext.drew w5), (Go.Rd.Ext.drew w5).heap hI5⟩, letD fun w6 _ x6 => ⟨_, rfl, _, fun u hu => by rw [add_mk]; exact hu.1.tail (i := 3) rfl rfl, _, rfl, _, fun u hu => by rw [add_mk]; exact hu.1.tail (i := 1) rfl rfl, _, fun u hu => (cell_of hu.2).trans rfl, ?_⟩⟩
    refine storeRow_block (x6.heap h5) (show 0 + 0 + 3 ≤ 3 by decide) rfl fun w7 h7 k7 _ => ?_
    rw [setFrom_all [.int .u32 0, .int .i64 0, .int .i64 0] [.int .u32 (runV xs pkt).1.1, .int .i64 (runV xs pkt).1.2, .int .i64 ((runV xs pkt).2.length : Int)] rfl] at h7
    have hv : verdV xs pkt = ((runV xs pkt).1.1, (runV xs pkt).1.2, ((runV xs pkt).2.length : Int)) := by rw [verdV, if_pos hc]
    have h7 : w7.heap[w.heap.size]? = some (.cells #[.int .u32 (verdV xs pkt).1, .int .i64 (verdV xs pkt).2.1, .int .i64 (verdV xs pkt).2.2] 33 (0, 0)) := by rw [hv]; exact h7
    refine rd3 (x := verdV xs pkt) h7 ⟨?_, ?_⟩
    · rw [hc]
    · exact (x1.trans (x15.trans x6)).fresh k7 fun j hj => by rw [hj]; exact Nat.le_refl _
  · rw [hne hc]
    refine ⟨_, _, rfl, ifP_t (by simpa using hc) (storeRow_block h2 (show 0 + 0 + 3 ≤ 3 by decide) rfl fun w7 h7 k7 _ => ?_)⟩
    rw [setFrom_all [.int .u32 0, .int .i64 0, .int .i64 0] [.int .u32 0, .int .i64 0, .int .i64 0] rfl] at h7
    have hv : verdV xs pkt = (0, 0, 0) := by rw [verdV, if_neg hc]
    have h7 : w7.heap[w.heap.size]? = some (.cells #[.int .u32 (verdV xs pkt).1, .int .i64 (verdV xs pkt).2.1, .int .i64 (verdV xs pkt).2.2] 33 (0, 0)) := by rw [hv]; exact h7
    refine rd3 (x := verdV xs pkt) h7 ⟨?_, ?_⟩
    · rfl
    · exact (x1.trans x2).fresh k7 fun j hj => by rw [hj]; exact Nat.le_refl _

/-! ## Trace -/

def TrAt (C : Nat) (tr : List Nat) (F : Nat → Prop) (w : World) : Prop := ∃ (O : Option Addr) (oc : Nat), w.heap[C]? = some (.cells #[.slice O tr.length oc] 62 (0, 0)) ∧ OInts w O oc (tr.map fun n : Nat => (n : Int)) ∧ ¬ blk O C ∧ F = fun k => k = C ∨ blk O k
theorem seen_trace {C : Nat} : Seen (.func (.func 68) #[] #[.pointer (some ⟨C, 0, none⟩)]) (TrAt C) where
  keep := by
    rintro tr F w w' X ⟨O, oc, h, ho, hb, rfl⟩ k hX
    exact ⟨O, oc, k.heap h (hX C (.inl rfl)), ho.keep k fun j hj => hX j (.inr hj), hb, rfl⟩
  lt := by
    rintro tr F w k ⟨O, oc, h, ho, hb, rfl⟩ (rfl | hk)
    · exact (Array.getElem?_eq_some_iff.1 h).1
    · exact ho.lt k hk
  call := by
    rintro tr F w a ⟨O, oc, h, ho, hb, rfl⟩ ha hl
    have hC := (Array.getElem?_eq_some_iff.1 h).1
    refine ⟨_, _, _, rfl, by kernel_rfl, Run.dyn (all := [_, _]) rfl (vm_Trace_1.ok ⟨_, _, _, (cell_of h).trans rfl, letA fun w1 h1 x1 s1 => ?_⟩)⟩
    have hB : RdC w1 (some (newA w)) [.int .i64 ((a : Nat) : Int)] := by
      have : Own 3 1 w1 (some (newA w)) 1 [.int .i64 ((a : Nat) : Int)] := .inr ⟨_, [], rfl, h1, rfl⟩
      exact this.cells
    obtain ⟨O', oc', w2, hr, ho2, hc2, k2, b2⟩ := append_own slInts (ty := 62) (n := tr.length) (d := 1) (ho.ext x1) (by rw [List.length_map, List.length_map, Nat.mul_one]) hB (m := 1) rfl rfl (by omega) (by omega)
    refine ⟨_, w2, hr, _, _, _, rfl, ?_⟩
    have h2 : w2.heap[C]? = some (.cells #[.slice O tr.length oc] 62 (0, 0)) := k2.heap (x1.heap h) hb
    have hb2 : ¬ blk O' C := fun hk => by rcases b2 C hk with hk | hk; exact hb hk; omega
    refine cell_put h2 (show 0 < 1 from Nat.zero_lt_one) rfl fun w3 h3 k3 => ⟨rfl, _, ⟨O', oc', ?_, ?_, hb2, rfl⟩, ?_, ?_⟩
    · rw [List.length_append]
      exact h3
    · have e : ((tr ++ [a]).map fun n : Nat => (n : Int)).map (Value.int .i64) = (tr.map fun n : Nat => (n : Int)).map (Value.int .i64) ++ [.int .i64 ((a : Nat) : Int)] := by simp
      show Own _ 1 w3 O' oc' (((tr ++ [a]).map fun n : Nat => (n : Int)).map (Value.int .i64))
      rw [e]
      exact ho2.keep k3 fun j hj h => hb2 (h ▸ hj)
    · exact ((Keep.ext x1).trans k2 (fun _ _ h => h) fun j hj h => .inr h).trans k3 (fun _ _ h => h) fun j hj h => .inl h
    · rintro k (rfl | hk)
      · exact .inl (.inl rfl)
      · rcases b2 k hk with h | h
        · exact .inl (.inr h)
        · exact .inr (by omega)
theorem vtrace_spec {w : World} {A P : Option Addr} {n c pn pc : Nat} {xs : List Ins} {pkt : List Int} (hx : IInsns w A n xs) (hok : Inss xs) (hn : n ≤ 281474976710656) (hp : IBytes w P pn pkt) (hpc : pn ≤ pc) :
    Run Try.prog 41 #[.slice A n c, .slice P pn pc] w fun v w' => ∃ O oc, v = .tuple #[.slice O (traceV xs pkt).length oc, .int .i64 (codeV xs pkt)] ∧ OInts w' O oc (traceV xs pkt) ∧ Go.Rd.Ext w w' ∧ ∀ k, blk O k → w.heap.size ≤ k := by
  have hl := hp.len
  refine vm_Trace.ok ((start_spec hx hok hn hp).mono ?_)
  rintro v w2 ⟨x2, hne, heq⟩
  by_cases hc : codeV xs pkt = 0
  · obtain ⟨b, hb, rfl, hr⟩ := heq hc
    obtain ⟨hc0, hlen⟩ := codeV_zero hc
    obtain ⟨T, _⟩ := taken_of hc0
    have z := x2.size
    have hbl := (Array.getElem?_eq_some_iff.1 hr.cell).1
    refine ⟨_, _, rfl, ifP_f rfl (letA fun w3 h3 x3 s3 => ?_)⟩
    refine (play_spec (Wb := w) (b := b) hx hok T hp hpc (by omega) hb (seen_trace (C := w2.heap.size)) (x2.trans x3) (hr.ext x3) ⟨none, 0, h3, Own.empty, blk_none, rfl⟩ fun k hk => ?_).mono ?_
    · rcases hk with rfl | hk
      · exact ⟨by omega, by omega⟩
      · exact absurd hk blk_none
    rintro v w5 ⟨rfl, x15, F', ws', a', e', hr5, ⟨O, oc, h5, ho5, hb5, rfl⟩, hF5⟩
    refine ⟨rfl, _, _, _, (cell_of h5).trans rfl, O, oc, ?_, ?_, x15, ?_⟩
    · rw [traceV, if_pos hc, hc, List.length_map]
    · rw [traceV, if_pos hc]
      exact ho5
    · exact fun k hk => hF5 k (.inr hk)
  · rw [hne hc]
    refine ⟨_, _, rfl, ifP_t (by simpa using hc) ⟨none, 0, ?_, ?_, x2, fun k hk => absurd hk blk_none⟩⟩
    · rw [traceV, if_neg hc]
      rfl
    · rw [traceV, if_neg hc]
      exact Own.empty
end Go.Proofs.Ytbchjihecdkfeaa
