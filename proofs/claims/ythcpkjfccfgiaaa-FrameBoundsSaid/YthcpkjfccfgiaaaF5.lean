/- Views alike; Packet. -/
import Derived.Test.YthcpkjfccfgiaaaF4
import Derived.Test.YthcpkjfccfgiaaaWJoin2
namespace Go.Proofs.Ythcpkjfccfgiaaa
open Go.Rd Go.RowKit
set_option linter.unusedVariables false
set_option linter.unusedSimpArgs false

section
variable {w : World} {d : Nat}
theorem view_eqf (f : Field) (h : f.name ≠ "_") {xs : Array Value} {u : Value} {fs : List Field}
    (ha : (part f.type xs f.offset).run Try.prog w = .ok u w) (he : (Op.equalIn d f.type u u).run Try.prog w = .ok true w)
    (hr : (Op.eqFields d xs xs fs).run Try.prog w = .ok true w) : (Op.eqFields d xs xs (f :: fs)).run Try.prog w = .ok true w := by
  rw [Op.eqFields]
  simp only [if_pos h, Sem.run_bind, ha, he, Result.andThen_ok]
  simpa using hr
theorem view_int {k : IntKind} {t : TypeId} {a : Int} (h : Try.prog.underlying t = some (.int k)) : (Op.equalIn (d + 1) t (.int k a) (.int k a)).run Try.prog w = .ok true w := by
  simp only [Op.equalIn, Sem.run_bind, run_underlying h, Result.andThen_ok]
  simp
theorem view_bool {t : TypeId} {a : Bool} (h : Try.prog.underlying t = some .bool) : (Op.equalIn (d + 1) t (.bool a) (.bool a)).run Try.prog w = .ok true w := by
  simp only [Op.equalIn, Sem.run_bind, run_underlying h, Result.andThen_ok]
  simp
theorem view_equal (v : Vw) : (Op.equal 27 v.v v.v).run Try.prog w = .ok true w := by
  show (Op.equalIn (9999 + 1) _ (.agg #[.int .u32 v.p, .bool v.m, .bool v.b, .bool v.e, .int .u32 v.s, .int .i64 v.a, .int .i64 v.n, .int .i64 v.x, .int .i64 v.l]) (.agg #[.int .u32 v.p, .bool v.m, .bool v.b, .bool v.e, .int .u32 v.s, .int .i64 v.a, .int .i64 v.n, .int .i64 v.x, .int .i64 v.l])).run Try.prog w = _
  rw [run_equalIn_struct w 9999 27 _ _ (by kernel_rfl) (by kernel_rfl)]
  obtain ⟨f0, f1, f2, f3, f4, f5, f6, f7, f8, hf, n0, n1, n2, n3, n4, n5, n6, n7, n8, t0, t1, t2, t3, t4, t5, t6, t7, t8, o0, o1, o2, o3, o4, o5, o6, o7, o8⟩ : ∃ f0 f1 f2 f3 f4 f5 f6 f7 f8 : Field, (Try.prog.fieldsOf 27).toList = [f0, f1, f2, f3, f4, f5, f6, f7, f8] ∧
      f0.name ≠ "_" ∧ f1.name ≠ "_" ∧ f2.name ≠ "_" ∧ f3.name ≠ "_" ∧ f4.name ≠ "_" ∧ f5.name ≠ "_" ∧ f6.name ≠ "_" ∧ f7.name ≠ "_" ∧ f8.name ≠ "_" ∧
      f0.type = 25 ∧ f1.type = 4 ∧ f2.type = 4 ∧ f3.type = 4 ∧ f4.type = 25 ∧ f5.type = 3 ∧ f6.type = 3 ∧ f7.type = 3 ∧ f8.type = 3 ∧
      f0.offset = 0 ∧ f1.offset = 1 ∧ f2.offset = 2 ∧ f3.offset = 3 ∧ f4.offset = 4 ∧ f5.offset = 5 ∧ f6.offset = 6 ∧ f7.offset = 7 ∧ f8.offset = 8 :=
    ⟨(Try.prog.fieldsOf 27)[0]!, (Try.prog.fieldsOf 27)[1]!, (Try.prog.fieldsOf 27)[2]!, (Try.prog.fieldsOf 27)[3]!, (Try.prog.fieldsOf 27)[4]!, (Try.prog.fieldsOf 27)[5]!, (Try.prog.fieldsOf 27)[6]!, (Try.prog.fieldsOf 27)[7]!, (Try.prog.fieldsOf 27)[8]!,
      by kernel_rfl, by decide +kernel, by decide +kernel, by decide +kernel, by decide +kernel, by decide +kernel, by decide +kernel, by decide +kernel, by decide +kernel, by decide +kernel,
      by kernel_rfl, by kernel_rfl, by kernel_rfl, by kernel_rfl, by kernel_rfl, by kernel_rfl, by kernel_rfl, by kernel_rfl, by kernel_rfl,
      by kernel_rfl, by kernel_rfl, by kernel_rfl, by kernel_rfl, by kernel_rfl, by kernel_rfl, by kernel_rfl, by kernel_rfl, by kernel_rfl⟩
  rw [hf]
  refine view_eqf f0 n0 (u := .int .u32 v.p) ?_ ?_ (view_eqf f1 n1 (u := .bool v.m) ?_ ?_ (view_eqf f2 n2 (u := .bool v.b) ?_ ?_ (view_eqf f3 n3 (u := .bool v.e) ?_ ?_ (view_eqf f4 n4 (u := .int .u32 v.s) ?_ ?_ (view_eqf f5 n5 (u := .int .i64 v.a) ?_ ?_ (view_eqf f6 n6 (u := .int .i64 v.n) ?_ ?_ (view_eqf f7 n7 (u := .int .i64 v.x) ?_ ?_ (view_eqf f8 n8 (u := .int .i64 v.l) ?_ ?_ (by simp [Op.eqFields])))))))))
  all_goals simp only [t0, t1, t2, t3, t4, t5, t6, t7, t8, o0, o1, o2, o3, o4, o5, o6, o7, o8]
  all_goals first | exact view_int (by kernel_rfl) | exact view_bool (by kernel_rfl) | kernel_rfl
theorem view_guard {op : BinOp} {x y : Operand} (u v : Vw) : (eqGuard op 27 x y u.v v.v).run Try.prog w = .ok () w := by
  cases op <;> kernel_rfl
theorem view_eql {x y : Operand} (v : Vw) : (eqSem .eql 27 x y v.v v.v).run Try.prog w = .ok (.bool true) w := by
  rw [eqSem, Sem.run_bind, view_guard, Result.andThen_ok]
  show (do pure (.bool (← Op.equal 27 v.v v.v)) : Sem Value).run Try.prog w = _
  rw [Sem.run_bind, view_equal, Result.andThen_ok]
  rfl
theorem view_neq {x y : Operand} (v : Vw) : (eqSem .neq 27 x y v.v v.v).run Try.prog w = .ok (.bool false) w := by
  rw [eqSem, Sem.run_bind, view_guard, Result.andThen_ok]
  show (do pure (.bool (!(← Op.equal 27 v.v v.v))) : Sem Value).run Try.prog w = _
  rw [Sem.run_bind, view_equal, Result.andThen_ok]
  rfl
end

/-! ## Packet -/

def packR (way : Int) (xs : List Int) : Option (List Int) := if (way = 0 ∨ way = 1) ∧ xs.length ≤ 65535 then some (way :: xs) else none
section
variable {w : World} {A : Option Addr} {n c : Nat} {xs : List Int} {way : Int}
theorem packet_spec (hb : IBytes w A n xs) (hn : n ≤ 140737488351232) :
    Run Try.prog 19 #[.int .i64 way, .slice A n c] w fun v w' => NewBytes w w' v ((packR way xs).getD []).length ((packR way xs).getD []) := by
  have hl := hb.len
  have none_ : packR way xs = none → NewBytes w w (.slice none 0 0) ((packR way xs).getD []).length ((packR way xs).getD []) := by
    intro h
    rw [h]
    exact ⟨none, 0, rfl, .inl ⟨rfl, rfl, rfl⟩, rfl, fun k hk => absurd hk blk_none, Keep.refl _⟩
  have fin : way = 0 ∨ way = 1 → frame_Packet.J0 (fun v w' => NewBytes w w' v ((packR way xs).getD []).length ((packR way xs).getD [])) way A n c (decide ((n : Int) > 65535)) w := by
    intro hw
    refine ifP_decide.2 ⟨fun h => none_ (if_neg (fun h2 => by omega)), fun h => ?_⟩
    have e : packR way xs = some (way :: xs) := if_pos ⟨hw, by omega⟩
    rw [e, wrap_u8 (by omega) (by omega)]
    refine letA fun w1 h1 x1 s1 => letA fun w2 h2 x2 s2 => ?_
    have b1 : IBytes w2 (some (newA w)) 1 [way] := (lit_rd (f := Value.int .u8) (xs := [way]) h1 rfl).ext x2
    have r := lit_rd (f := Part.v) (xs := [⟨some (newA w), 1, 1, [way]⟩, ⟨A, n, c, xs⟩]) h2 rfl
    refine (join_two (p := ⟨some (newA w), 1, 1, [way]⟩) (q := ⟨A, n, c, xs⟩) r b1 ((hb.ext x1).ext x2) (by show 1 + n ≤ _; omega)).mono ?_
    rintro v w3 ⟨O, oc, rfl, ho, hol, hob, x3⟩
    refine ⟨_, _, _, rfl, O, oc, ?_, ho, rfl, fun k hk => by have := hob k hk; omega, (x1.trans x2).trans x3⟩
    have : (1 + n : Nat) = ((some (way :: xs)).getD []).length := by show 1 + n = xs.length + 1; omega
    rw [← this]
  refine frame_Packet.ok (ifP_bne.2 ⟨fun h0 => ifP_bne.2 ⟨fun h1 => ifP_t rfl (none_ (if_neg (fun h => by omega))), fun h1 => fin (.inr h1)⟩, fun h0 => fin (.inl h0)⟩)

theorem rpacket_spec (hb : IBytes w A n xs) (hn : n ≤ 140737488351232) :
    Run Try.prog 18 #[.int .i64 way, .slice A n c] w fun v w' => NewBytes w w' v ((packR way xs).getD []).length ((packR way xs).getD []) := by
  have hl := hb.len
  have none_ : packR way xs = none → NewBytes w w (.slice none 0 0) ((packR way xs).getD []).length ((packR way xs).getD []) := by
    intro h
    rw [h]
    exact ⟨none, 0, rfl, .inl ⟨rfl, rfl, rfl⟩, rfl, fun k hk => absurd hk blk_none, Keep.refl _⟩
  have fin : way = 0 ∨ way = 1 → ref7_Packet.J0 (fun v w' => NewBytes w w' v ((packR way xs).getD []).length ((packR way xs).getD [])) way A n c (decide ((n : Int) > 65535)) w := by
    intro hw
    refine ifP_decide.2 ⟨fun h => none_ (if_neg (fun h2 => by omega)), fun h => ?_⟩
    have e : packR way xs = some (way :: xs) := if_pos ⟨hw, by omega⟩
    rw [e, wrap_u8 (by omega) (by omega)]
    refine letA fun w1 h1 x1 s1 => ?_
    have hO : Own 5 1 w1 (some (newA w)) 1 [.int .u8 way] := .inr ⟨_, [], rfl, h1, rfl⟩
    obtain ⟨A', c', w2, hr, hO', hc', hk, hb2⟩ := append_own slBytes (ty := 24) (n := 1) (d := c) hO rfl (hb.cells.ext x1) (m := n) (by simp [hl]) (cellsBytes xs) (by omega) (by omega)
    have : (1 + n : Nat) = ((some (way :: xs)).getD []).length := by show 1 + n = xs.length + 1; omega
    rw [← this]
    refine ⟨_, w2, hr, _, _, _, rfl, A', c', rfl, hO', by show xs.length + 1 = 1 + n; omega, ?_, ?_⟩
    · intro k hk'
      rcases hb2 k hk' with h | h
      · rw [blk_some.1 h]; exact Nat.le_refl _
      · omega
    · exact x1.fresh hk fun k h => by rw [blk_some.1 h]; exact Nat.le_refl _
  refine ref7_Packet.ok (ifP_bne.2 ⟨fun h0 => ifP_bne.2 ⟨fun h1 => ifP_t rfl (none_ (if_neg (fun h => by omega))), fun h1 => fin (.inr h1)⟩, fun h0 => fin (.inl h0)⟩)
end

/-! ## The statement is awake -/

theorem plain_look : lookX ⟨false, false, 0⟩ [255, 3, 192, 33, 1] = .ok { vw0 with p := 49185, a := 4 } := by kernel_rfl
theorem plain_not : lookX ⟨false, false, 0⟩ [192, 33] = .error 73 := by kernel_rfl
theorem awake_spec {w : World} : Run Try.prog 16 #[] w fun v w' => v = .bool true ∧ Go.Rd.Ext w w' := by
  refine law7_awake.ok (letA fun w1 h1 x1 s1 => ?_)
  have i1 : IBytes w1 (some (newA w)) 5 [255, 3, 192, 33, 1] := lit_rd (f := Value.int .u8) (xs := [255, 3, 192, 33, 1]) h1 rfl
  refine (look_spec (k := ⟨false, false, 0⟩) i1 (by decide) (by decide) (fun q hq => by rw [blk_some.1 hq]; omega)).mono ?_
  rintro v w2 ⟨rfl, x2⟩
  rw [plain_look]
  refine ⟨_, _, _, _, _, _, _, _, _, _, rfl, letA fun w3 h3 x3 s3 => st9 h3 rfl (v := { vw0 with p := 49185, a := 4 }) fun w4 h4 k4 => letA fun w5 h5 x5 s5 => ?_⟩
  have i5 : IBytes w5 (some (newA w4)) 2 [192, 33] := lit_rd (f := Value.int .u8) (xs := [192, 33]) h5 rfl
  refine (look_spec (k := ⟨false, false, 0⟩) i5 (by decide) (by decide) (fun q hq => by rw [blk_some.1 hq]; omega)).mono ?_
  rintro v w6 ⟨rfl, x6⟩
  rw [plain_not]
  refine ⟨_, _, _, _, _, _, _, _, _, _, rfl, letA fun w7 h7 x7 s7 => st9 h7 rfl (v := vw0) fun w8 h8 k8 => ?_⟩
  have z4 := k4.size
  have z6 := x6.size
  have hv : w8.heap[w2.heap.size]? = some (.cells ({ vw0 with p := 49185, a := 4 } : Vw).row.toArray 27 (0, 0)) := k8.heap (((x5.trans x6).trans x7).heap h4) (by omega)
  have x08 : Go.Rd.Ext w w8 := ((((x1.trans x2).trans x3).fresh k4 fun i hi => by rw [hi]; have := (x1.trans x2).size; omega).trans ((x5.trans x6).trans x7)).fresh k8 fun i hi => by
    rw [hi]; have := (x1.trans x2).size; have := x3.size; omega
  refine ifP_t rfl ((At9.block hv).rd ⟨_, w8, view_eql { vw0 with p := 49185, a := 4 }, _, rfl, ifP_t rfl (ifP_t rfl (fcheck_spec (k := ⟨false, false, 3⟩).mono ?_))⟩)
  rintro v w9 ⟨rfl, x9⟩
  refine ⟨_, rfl, ifP_t rfl (letA fun w10 h10 x10 s10 => ?_)⟩
  have i10 : IBytes w10 (some (newA w9)) 1 [7] := lit_rd (f := Value.int .u8) (xs := [7]) h10 rfl
  refine (packet_spec (way := 1) i10 (by decide)).mono ?_
  rintro v w11 ⟨O, oc, rfl, ho, hol, hob, x11⟩
  refine ⟨_, _, _, rfl, letA fun w12 h12 x12 s12 => ?_⟩
  have i12 : IBytes w12 (some (newA w11)) 2 [1, 7] := lit_rd (f := Value.int .u8) (xs := [1, 7]) h12 rfl
  have e7 : (packR 1 [7]).getD [] = [1, 7] := by decide
  rw [e7] at ho
  refine (sameBytes_spec ((ho.ext x12).rd rfl) i12 (by decide)).mono ?_
  rintro v w13 ⟨rfl, x13⟩
  exact ⟨_, rfl, rfl, ((((x08.trans x9).trans x10).trans x11).trans x12).trans x13⟩
end Go.Proofs.Ythcpkjfccfgiaaa
