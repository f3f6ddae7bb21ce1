/- Verdicts, alike or not; the statements over Run and Trace. -/
import Derived.Test.YtllooifbiapeoaaD9
namespace Go.Proofs.Ytllooifbiapeoaa
open Go.Rd Go.RowKit
set_option linter.unusedVariables false
set_option linter.unusedSimpArgs false
set_option maxRecDepth 100000

/-- The call returns true, and what stood stands. -/
def Good (W : World) (v : Value) (w' : World) : Prop := v = .bool true ∧ Fr W w'
theorem lit_insns {w w1 : World} {xs : List Ins} {cs : Array Value} (h : w1.heap[w.heap.size]? = some (.cells cs 45 (0, 0))) (hx : cs = (xs.flatMap Ins.v).toArray) : OInsns w1 (some (newA w)) xs.length xs :=
  .inr ⟨_, [], rfl, by rw [List.append_nil, ← hx]; exact h, by rw [List.append_nil, flat_len Ins.len]⟩
theorem lent_read {w : World} {A : Option Addr} {n c : Nat} {xs : List Ins} (h : OInsns w A c (xs ++ [bad, bad, bad])) (hl : xs.length = n) : IInsns w A n xs := by
  have := (h.rdM (n := n + 3) (by simp [hl])).take Ins.len (k := n) (by omega)
  rwa [List.take_left' hl] at this
theorem lent_bytes {w : World} {A : Option Addr} {n c : Nat} {xs : List Int} (h : OBytes w A c (xs ++ [201, 201, 201])) (hl : xs.length = n) : IBytes w A n xs ∧ n ≤ c := by
  have h3 : (xs ++ [201, 201, 201]).length = n + 3 := by simp [hl]
  refine ⟨?_, ?_⟩
  · refine ⟨hl, fun i x hx => (Own.rd h h3).2 i x ?_⟩
    rw [List.getElem?_append_left (List.getElem?_eq_some_iff.1 hx).1]
    exact hx
  · have := Own.len (n := n + 3) (by decide) h (by rw [List.length_map, h3, Nat.mul_one])
    omega

section
variable {w : World} {a0 a1 a2 b0 b1 b2 : Int}
theorem verd_equal : (Op.equal 26 (.agg #[.int .u32 a0, .int .i64 a1, .int .i64 a2]) (.agg #[.int .u32 b0, .int .i64 b1, .int .i64 b2])).run Try.prog w = .ok ((a0 == b0) && ((a1 == b1) && ((a2 == b2) && true))) w := by
  show (Op.equalIn (9999 + 1) _ _ _).run Try.prog w = _
  rw [run_equalIn_struct w 9999 26 _ _ (by kernel_rfl) (by kernel_rfl)]
  obtain ⟨f0, f1, f2, hf, n0, n1, n2, t0, t1, t2, o0, o1, o2⟩ : ∃ f0 f1 f2 : Field, (Try.prog.fieldsOf 26).toList = [f0, f1, f2] ∧ f0.name ≠ "_" ∧ f1.name ≠ "_" ∧ f2.name ≠ "_" ∧
      f0.type = 24 ∧ f1.type = 3 ∧ f2.type = 3 ∧ f0.offset = 0 ∧ f1.offset = 1 ∧ f2.offset = 2 :=
    ⟨(Try.prog.fieldsOf 26)[0]!, (Try.prog.fieldsOf 26)[1]!, (Try.prog.fieldsOf 26)[2]!,
      by kernel_rfl, by decide +kernel, by decide +kernel, by decide +kernel, by kernel_rfl, by kernel_rfl, by kernel_rfl, by kernel_rfl, by kernel_rfl, by kernel_rfl⟩
  rw [hf]
  refine insn_eqf (t := 0) (x := 0) f0 n0 (k := .u32) ?_ ?_ ?_ (insn_eqf (t := 0) (x := 0) f1 n1 (k := .i64) ?_ ?_ ?_ (insn_eqf (t := 0) (x := 0) f2 n2 (k := .i64) ?_ ?_ ?_ (by simp [Op.eqFields])))
  all_goals simp only [t0, t1, t2, o0, o1, o2]
  all_goals first | exact insn_int (by kernel_rfl) | kernel_rfl
theorem verd_guard {op : BinOp} {x y : Operand} : (eqGuard op 26 x y (.agg #[.int .u32 a0, .int .i64 a1, .int .i64 a2]) (.agg #[.int .u32 b0, .int .i64 b1, .int .i64 b2])).run Try.prog w = .ok () w := by
  cases op <;> kernel_rfl
theorem verd_dec : decide (((a0, a1, a2) : Int × Int × Int) = (b0, b1, b2)) = ((a0 == b0) && ((a1 == b1) && ((a2 == b2) && true))) := by
  rw [Bool.eq_iff_iff]; simp
theorem verd_eql {x y : Operand} : (eqSem .eql 26 x y (.agg #[.int .u32 a0, .int .i64 a1, .int .i64 a2]) (.agg #[.int .u32 b0, .int .i64 b1, .int .i64 b2])).run Try.prog w = .ok (.bool (decide (((a0, a1, a2) : Int × Int × Int) = (b0, b1, b2)))) w := by
  rw [eqSem, Sem.run_bind, verd_guard, Result.andThen_ok, verd_dec]
  show (do pure (.bool (← Op.equal 26 _ _)) : Sem Value).run Try.prog w = _
  rw [Sem.run_bind, verd_equal, Result.andThen_ok]
  rfl
theorem verd_neq {x y : Operand} : (eqSem .neq 26 x y (.agg #[.int .u32 a0, .int .i64 a1, .int .i64 a2]) (.agg #[.int .u32 b0, .int .i64 b1, .int .i64 b2])).run Try.prog w = .ok (.bool (!decide (((a0, a1, a2) : Int × Int × Int) = (b0, b1, b2)))) w := by
  rw [eqSem, Sem.run_bind, verd_guard, Result.andThen_ok, verd_dec]
  show (do pure (.bool (!(← Op.equal 26 _ _))) : Sem Value).run Try.prog w = _
  rw [Sem.run_bind, verd_equal, Result.andThen_ok]
  rfl
end
/-- A verdict in its block. -/
def VAt (w : World) (b : Nat) (x : Int × Int × Int) : Prop := w.heap[b]? = some (.cells #[.int .u32 x.1, .int .i64 x.2.1, .int .i64 x.2.2] 26 (0, 0))
theorem VAt.ext {w w' : World} {b : Nat} {x : Int × Int × Int} (h : VAt w b x) (e : Go.Rd.Ext w w') : VAt w' b x := e.heap h
theorem VAt.keep {w w' : World} {b : Nat} {x : Int × Int × Int} {X : Nat → Prop} (h : VAt w b x) (e : Keep X w w') (hb : ¬ X b) : VAt w' b x := e.heap h hb
theorem VAt.rd {w : World} {b : Nat} {x : Int × Int × Int} {Q : Int → Int → Int → Prop} (h : VAt w b x) (hq : Q x.1 x.2.1 x.2.2) :
    ∃ t0 : Int, w.cell? ⟨b, 0, none⟩ = some (.int .u32 t0) ∧ ∃ t1 : Int, w.cell? ((Addr.mk b 0 none).add 1) = some (.int .i64 t1) ∧ ∃ t2 : Int, w.cell? ((Addr.mk b 0 none).add 2) = some (.int .i64 t2) ∧ Q t0 t1 t2 := rd3 h hq
theorem vstore {w : World} {x : Int × Int × Int} {φ : World → Prop} (h : ∀ w', VAt w' w.heap.size x → Go.Rd.Ext w w' → w'.heap.size = w.heap.size + 1 → φ w') :
    letW (w.alloc (.cells #[.int .u32 0, .int .i64 0, .int .i64 0] 26)) fun w1 => storeRow (newA w) 0 [.int .u32 x.1, .int .i64 x.2.1, .int .i64 x.2.2] w1 φ := by
  refine letA fun w1 h1 x1 s1 => storeRow_block h1 (show 0 + 0 + 3 ≤ 3 by decide) rfl fun w2 h2 k2 s2 => ?_
  rw [setFrom_all [.int .u32 0, .int .i64 0, .int .i64 0] [.int .u32 x.1, .int .i64 x.2.1, .int .i64 x.2.2] rfl] at h2
  exact h w2 h2 (x1.fresh k2 fun j hj => by rw [hj]; exact Nat.le_refl _) (by omega)

theorem awake_spec {w : World} : Run Try.prog 17 #[] w fun v w' => v = .bool true ∧ Go.Rd.Ext w w' := by
  refine law5_awake.ok (letA fun w1 h1 x1 s1 => letA fun w2 h2 x2 s2 => ?_)
  have i1 : IInsns w1 (some (newA w)) 2 [⟨40, 0, 0, 1⟩, ⟨22, 0, 0, 0⟩] := (lit_insns h1 rfl).rdM rfl
  have o2 : OBytes w2 (some (newA w1)) 3 [1, 2, 3] := .inr ⟨_, [], rfl, h2, rfl⟩
  have ok : Inss [⟨40, 0, 0, 1⟩, ⟨22, 0, 0, 0⟩] := by intro i hi; simp at hi; rcases hi with rfl | rfl <;> simp [Ins.ok]
  have ev : verdV [⟨40, 0, 0, 1⟩, ⟨22, 0, 0, 0⟩] [1, 2, 3] = (515, 0, 2) := by decide +kernel
  have et : traceV [⟨40, 0, 0, 1⟩, ⟨22, 0, 0, 0⟩] [1, 2, 3] = [0, 1] := by decide +kernel
  have ec : codeV [⟨40, 0, 0, 1⟩, ⟨22, 0, 0, 0⟩] [1, 2, 3] = 0 := by decide +kernel
  refine (vrun_spec (i1.ext x2) ok (by decide) (o2.rd rfl) (Nat.le_refl _)).mono ?_
  rintro v w3 ⟨rfl, x3⟩
  rw [ev, ec]
  refine ⟨_, _, _, _, rfl, vstore (x := (515, 0, 2)) fun w4 v4 x4 s4 => letA fun w5 h5 x5 s5 => ?_⟩
  have o5 : OBytes w5 (some (newA w4)) 3 [1, 2, 3] := .inr ⟨_, [], rfl, h5, rfl⟩
  refine (vtrace_spec ((((i1.ext x2).ext x3).ext x4).ext x5) ok (by decide) (o5.rd rfl) (Nat.le_refl _)).mono ?_
  rintro v w6 ⟨O, oc, rfl, o6, x6, b6⟩
  rw [et] at o6 ⊢
  rw [ec]
  refine ⟨_, _, _, _, rfl, ifP_eq rfl ((v4.ext (x5.trans x6)).rd ⟨_, _, verd_eql, _, rfl, ifP_t (by decide) (ifP_eq rfl (letA fun w7 h7 x7 s7 => ?_))⟩)⟩
  have o7 : OInts w7 (some (newA w6)) 2 [0, 1] := .inr ⟨_, [], rfl, h7, rfl⟩
  refine (sameInts_spec ((o6.ext x7).rd rfl) (o7.rd rfl) (by decide)).mono ?_
  rintro v w8 ⟨rfl, x8⟩
  exact ⟨_, rfl, rfl, ((((((x1.trans x2).trans x3).trans x4).trans x5).trans x6).trans x7).trans x8⟩

section
variable {W : World} {A P : Option Addr} {n c pn pc : Nat} {xs : List Ins} {pkt : List Int}
theorem VmRuns_main (hx : IInsns W A n xs) (hi : Inss xs) (hn : n * 8 ≤ 140737488351232) (hp : IBytes W P pn pkt) (hpn : pn ≤ 140737488351232) :
    Run Try.prog 3 #[.slice A n c, .slice P pn pc] W (Good W) := by
  have hl := hx.len
  have hpl := hp.len
  refine law5_VmRuns.ok ((rrun_spec hx hi (by omega) hp).mono ?_)
  rintro v w1 ⟨O, oc, rfl, o1, x1, b1⟩
  refine ⟨_, _, _, _, _, _, _, rfl, vstore (x := verdV xs pkt) fun w2 v2 x2 s2 => (lendInsns_spec ((hx.ext x1).ext x2) hn).mono ?_⟩
  rintro v w3 ⟨A3, c3, rfl, o3, b3, x3⟩
  have x03 := (x1.trans x2).trans x3
  refine ⟨_, _, _, rfl, (lendBytes_spec (hp.ext x03) (by omega)).mono ?_⟩
  rintro v w4 ⟨P4, c4, rfl, o4, b4, x4⟩
  obtain ⟨p4, pc4⟩ := lent_bytes o4 hpl
  refine ⟨_, _, _, rfl, (vrun_spec ((lent_read o3 hl).ext x4) hi (by omega) p4 pc4).mono ?_⟩
  rintro v w5 ⟨rfl, x5⟩
  refine ⟨_, _, _, _, rfl, vstore (x := verdV xs pkt) fun w6 v6 x6 s6 => ?_⟩
  have x06 := ((x03.trans x4).trans x5).trans x6
  have x36 := (x4.trans x5).trans x6
  have z1 := x1.size; have z2 := x2.size; have z3 := x3.size; have z4 := x4.size; have z5 := x5.size
  have L3 := o3.lt
  have L4 := o4.lt
  refine (keptInsns_spec (o3.ext x36) (hx.ext x06) (by omega)).mono ?_
  rintro v w7 ⟨rfl, k7⟩
  have x07 : Go.Rd.Ext W w7 := x06.fresh k7 fun k hk => by have := b3 k hk; omega
  have v7 := v6.keep k7 fun h => by have := L3 _ h; omega
  have v72 := (v2.ext (x3.trans x36)).keep k7 fun h => by have := b3 _ h; omega
  have o7 := (o4.ext (x5.trans x6)).keep k7 fun k hk h => by have := b4 k hk; have := L3 k h; omega
  refine ⟨_, rfl, ifP_t rfl ((keptBytes_spec o7 (hp.ext x07) (by omega)).mono ?_)⟩
  rintro v w8 ⟨rfl, k8⟩
  have x08 : Go.Rd.Ext W w8 := x07.fresh k8 fun k hk => by have := b4 k hk; omega
  have v8 := v7.keep k8 fun h => by have := L4 _ h; omega
  have v82 := v72.keep k8 fun h => by have := b4 _ h; omega
  refine ⟨_, rfl, ifP_t rfl (v8.rd (v82.rd ⟨_, _, verd_eql, _, rfl, ifP_t (by simp) (ifP_eq rfl (awake_spec.mono ?_))⟩))⟩
  rintro v w9 ⟨rfl, x9⟩
  exact ⟨_, rfl, rfl, (Fr.of_ext (x08.trans x9))⟩
theorem runX_len (xs : List Ins) (pkt : List Int) : ∀ (f p : Nat) (ws : List Int), (runX xs pkt f p ws).2.length ≤ f
  | 0, p, ws => Nat.le_refl _
  | f + 1, p, ws => by
    rw [runX]
    cases xs[p]? with
    | none => exact Nat.zero_le _
    | some i =>
      cases hn : nextX pkt i p ws with
      | inl r => simp only [hn]; show 1 ≤ f + 1; omega
      | inr r =>
        have := runX_len xs pkt f r.1 r.2
        simp only [hn, List.length_cons]
        omega
theorem traceV_le (xs : List Ins) (pkt : List Int) : (traceV xs pkt).length ≤ 4096 := by
  unfold traceV
  split
  · rename_i hc
    have T := (taken_of (codeV_zero hc).1).1.le
    rw [List.length_map]
    exact Nat.le_trans (runX_len xs pkt _ _ _) T
  · exact Nat.zero_le _
theorem VmTraces_main (hx : IInsns W A n xs) (hi : Inss xs) (hn : n * 8 ≤ 140737488351232) (hp : IBytes W P pn pkt) (hpn : pn ≤ 140737488351232) :
    Run Try.prog 4 #[.slice A n c, .slice P pn pc] W (Good W) := by
  have hl := hx.len
  have hpl := hp.len
  have tl := traceV_le xs pkt
  refine law5_VmTraces.ok ((rrun_spec hx hi (by omega) hp).mono ?_)
  rintro v w1 ⟨O, oc, rfl, o1, x1, b1⟩
  refine ⟨_, _, _, _, _, _, _, rfl, vstore (x := verdV xs pkt) fun w2 v2 x2 s2 => (lendInsns_spec ((hx.ext x1).ext x2) hn).mono ?_⟩
  rintro v w3 ⟨A3, c3, rfl, o3, b3, x3⟩
  have x03 := (x1.trans x2).trans x3
  refine ⟨_, _, _, rfl, (lendBytes_spec (hp.ext x03) (by omega)).mono ?_⟩
  rintro v w4 ⟨P4, c4, rfl, o4, b4, x4⟩
  obtain ⟨p4, pc4⟩ := lent_bytes o4 hpl
  refine ⟨_, _, _, rfl, (vtrace_spec ((lent_read o3 hl).ext x4) hi (by omega) p4 pc4).mono ?_⟩
  rintro v w6 ⟨X, xc, rfl, o6, x6, b6⟩
  have x06 := (x03.trans x4).trans x6
  have x36 := x4.trans x6
  have z1 := x1.size; have z2 := x2.size; have z3 := x3.size; have z4 := x4.size; have z6 := x6.size
  have L1 := o1.lt
  have L3 := o3.lt
  have L4 := o4.lt
  have L6 := o6.lt
  refine ⟨_, _, _, _, rfl, (keptInsns_spec (o3.ext x36) (hx.ext x06) (by omega)).mono ?_⟩
  rintro v w7 ⟨rfl, k7⟩
  have x07 : Go.Rd.Ext W w7 := x06.fresh k7 fun k hk => by have := b3 k hk; omega
  have o7 := (o4.ext x6).keep k7 fun k hk h => by have := b4 k hk; have := L3 k h; omega
  have t7 := (o1.ext ((x2.trans x3).trans x36)).keep k7 fun k hk h => by have := L1 k hk; have := b3 k h; omega
  have q7 := o6.keep k7 fun k hk h => by have := b6 k hk; have := L3 k h; omega
  refine ⟨_, rfl, ifP_f rfl ((keptBytes_spec o7 (hp.ext x07) (by omega)).mono ?_)⟩
  rintro v w8 ⟨rfl, k8⟩
  have x08 : Go.Rd.Ext W w8 := x07.fresh k8 fun k hk => by have := b4 k hk; omega
  have t8 := t7.keep k8 fun k hk h => by have := L1 k hk; have := b4 k h; omega
  have q8 := q7.keep k8 fun k hk h => by have := b6 k hk; have := L4 k h; omega
  have z7 := k7.size; have z8 := k8.size
  refine ⟨_, rfl, ifP_f rfl ((copyInsns_spec (hx.ext x08) (by omega)).mono ?_)⟩
  rintro v w9 ⟨A9, c9, rfl, o9, l9, b9, x9⟩
  refine ⟨_, _, _, rfl, (copyBytes_spec (hp.ext (x08.trans x9)) (by omega)).mono ?_⟩
  rintro v w10 ⟨P10, c10, rfl, o10, l10, b10, x10⟩
  refine ⟨_, _, _, rfl, (vtrace_spec ((o9.rdM l9).ext x10) hi (by omega) (o10.rd l10) (Own.len (n := pn) (by decide) o10 (by rw [List.length_map, l10, Nat.mul_one]))).mono ?_⟩
  rintro v w11 ⟨Y, yc, rfl, o11, x11, b11⟩
  have x811 := (x9.trans x10).trans x11
  have z11 := x811.size
  have z9 := x9.size; have z10 := x10.size
  refine ⟨_, _, _, _, rfl, ifP_nne rfl (ifP_nne rfl ((sameInts_spec ((q8.ext x811).rd rfl) ((t8.ext x811).rd rfl) (by omega)).mono ?_))⟩
  rintro v w12 ⟨rfl, x12⟩
  refine ⟨_, rfl, ifP_f (by simp) ((spoilInts_spec ((q8.ext x811).ext x12) (by rw [List.length_map]) (by omega)).mono ?_)⟩
  rintro v w13 ⟨rfl, k13⟩
  have x013 : Go.Rd.Ext W w13 := ((x08.trans x811).trans x12).fresh k13 fun k hk => by have := b6 k hk; omega
  have y13 := (o11.ext x12).keep k13 fun k hk h => by have := b11 k hk; have := L6 k h; omega
  have t13 := ((t8.ext x811).ext x12).keep k13 fun k hk h => by have := L1 k hk; have := b6 k h; omega
  refine ⟨rfl, (sameInts_spec (y13.rd rfl) (t13.rd rfl) (by omega)).mono ?_⟩
  rintro v w14 ⟨rfl, x14⟩
  refine ⟨_, rfl, ifP_t (by simp) (awake_spec.mono ?_)⟩
  rintro v w15 ⟨rfl, x15⟩
  exact ⟨_, rfl, rfl, Fr.of_ext ((x013.trans x14).trans x15)⟩
end
end Go.Proofs.Ytllooifbiapeoaa
