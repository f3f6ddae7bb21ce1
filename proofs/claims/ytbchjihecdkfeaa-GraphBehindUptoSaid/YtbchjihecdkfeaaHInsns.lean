/- Lists of Insns: alike, copied, lent, spoilt. -/
import Derived.Test.YtbchjihecdkfeaaV
import Derived.Test.YtbchjihecdkfeaaM4
namespace Go.Proofs.Ytbchjihecdkfeaa
open Go.Rd Go.RowKit
set_option linter.unusedVariables false
set_option linter.unusedSimpArgs false
set_option maxRecDepth 100000

theorem slInsns : SliceOf Try.prog 39 47 4 8 (.agg #[.int .u16 0, .int .u8 0, .int .u8 0, .int .u32 0]) := ⟨by kernel_rfl, by kernel_rfl, rfl, by decide⟩
abbrev IInsns (w : World) (A : Option Addr) (n : Nat) (xs : List Ins) : Prop := RdM Ins.v w A n xs
abbrev OInsns (w : World) (A : Option Addr) (c : Nat) (xs : List Ins) : Prop := Own 47 4 w A c (xs.flatMap Ins.v)

section
variable {w : World} {d : Nat} {a0 a1 a2 a3 b0 b1 b2 b3 : Int}
theorem insn_eqf {t : TypeId} {x : Int} (f : Field) (h : f.name ≠ "_") {xs ys : Array Value} {k : IntKind} {a b : Int} {fs : List Field} {s : Bool}
    (ha : (part f.type xs f.offset).run Try.prog w = .ok (.int k a) w) (hb : (part f.type ys f.offset).run Try.prog w = .ok (.int k b) w) (he : (Op.equalIn d f.type (.int k a) (.int k b)).run Try.prog w = .ok (a == b) w)
    (hr : (Op.eqFields d xs ys fs).run Try.prog w = .ok s w) : (Op.eqFields d xs ys (f :: fs)).run Try.prog w = .ok ((a == b) && s) w := by
  rw [Op.eqFields]
  simp only [if_pos h, Sem.run_bind, ha, hb, he, Result.andThen_ok]
  cases hab : (a == b)
  · simp
  · simpa using hr
theorem insn_int {k : IntKind} {t : TypeId} {a b : Int} (h : Try.prog.underlying t = some (.int k)) : (Op.equalIn (d + 1) t (.int k a) (.int k b)).run Try.prog w = .ok (a == b) w := by
  simp only [Op.equalIn, Sem.run_bind, run_underlying h, Result.andThen_ok]
  simp
theorem insn_fields : Try.prog.fieldsOf 47 = (Try.prog.fieldsOf 47) := rfl
theorem insn_equal : (Op.equal 47 (.agg #[.int .u16 a0, .int .u8 a1, .int .u8 a2, .int .u32 a3]) (.agg #[.int .u16 b0, .int .u8 b1, .int .u8 b2, .int .u32 b3])).run Try.prog w =
    .ok ((a0 == b0) && ((a1 == b1) && ((a2 == b2) && ((a3 == b3) && true)))) w := by
  show (Op.equalIn (9999 + 1) _ _ _).run Try.prog w = _
  rw [run_equalIn_struct w 9999 47 _ _ (by kernel_rfl) (by kernel_rfl)]
  obtain ⟨f0, f1, f2, f3, hf, n0, n1, n2, n3, t0, t1, t2, t3, o0, o1, o2, o3⟩ : ∃ f0 f1 f2 f3 : Field, (Try.prog.fieldsOf 47).toList = [f0, f1, f2, f3] ∧ f0.name ≠ "_" ∧ f1.name ≠ "_" ∧ f2.name ≠ "_" ∧ f3.name ≠ "_" ∧
      f0.type = 45 ∧ f1.type = 5 ∧ f2.type = 5 ∧ f3.type = 31 ∧ f0.offset = 0 ∧ f1.offset = 1 ∧ f2.offset = 2 ∧ f3.offset = 3 :=
    ⟨(Try.prog.fieldsOf 47)[0]!, (Try.prog.fieldsOf 47)[1]!, (Try.prog.fieldsOf 47)[2]!, (Try.prog.fieldsOf 47)[3]!,
      by kernel_rfl, by decide +kernel, by decide +kernel, by decide +kernel, by decide +kernel, by kernel_rfl, by kernel_rfl, by kernel_rfl, by kernel_rfl, by kernel_rfl, by kernel_rfl, by kernel_rfl, by kernel_rfl⟩
  rw [hf]
  refine insn_eqf (t := 0) (x := 0) f0 n0 (k := .u16) ?_ ?_ ?_ (insn_eqf (t := 0) (x := 0) f1 n1 (k := .u8) ?_ ?_ ?_ (insn_eqf (t := 0) (x := 0) f2 n2 (k := .u8) ?_ ?_ ?_ (insn_eqf (t := 0) (x := 0) f3 n3 (k := .u32) ?_ ?_ ?_ (by simp [Op.eqFields]))))
  all_goals simp only [t0, t1, t2, t3, o0, o1, o2, o3]
  all_goals first | exact insn_int (by kernel_rfl) | kernel_rfl
theorem insn_guard {op : BinOp} {x y : Operand} : (eqGuard op 47 x y (.agg #[.int .u16 a0, .int .u8 a1, .int .u8 a2, .int .u32 a3]) (.agg #[.int .u16 b0, .int .u8 b1, .int .u8 b2, .int .u32 b3])).run Try.prog w = .ok () w := by
  cases op <;> kernel_rfl
theorem insn_neq {x y : Operand} : (eqSem .neq 47 x y (.agg #[.int .u16 a0, .int .u8 a1, .int .u8 a2, .int .u32 a3]) (.agg #[.int .u16 b0, .int .u8 b1, .int .u8 b2, .int .u32 b3])).run Try.prog w =
    .ok (.bool (!decide ((⟨a0, a1, a2, a3⟩ : Ins) = ⟨b0, b1, b2, b3⟩))) w := by
  have e : decide ((⟨a0, a1, a2, a3⟩ : Ins) = ⟨b0, b1, b2, b3⟩) = ((a0 == b0) && ((a1 == b1) && ((a2 == b2) && ((a3 == b3) && true)))) := by
    rw [Bool.eq_iff_iff]; simp
  rw [eqSem, Sem.run_bind, insn_guard, Result.andThen_ok, e]
  show (do pure (.bool (!(← Op.equal 47 _ _))) : Sem Value).run Try.prog w = _
  rw [Sem.run_bind, insn_equal, Result.andThen_ok]
  rfl
theorem insn_eql {x y : Operand} : (eqSem .eql 47 x y (.agg #[.int .u16 a0, .int .u8 a1, .int .u8 a2, .int .u32 a3]) (.agg #[.int .u16 b0, .int .u8 b1, .int .u8 b2, .int .u32 b3])).run Try.prog w =
    .ok (.bool (decide ((⟨a0, a1, a2, a3⟩ : Ins) = ⟨b0, b1, b2, b3⟩))) w := by
  have e : decide ((⟨a0, a1, a2, a3⟩ : Ins) = ⟨b0, b1, b2, b3⟩) = ((a0 == b0) && ((a1 == b1) && ((a2 == b2) && ((a3 == b3) && true)))) := by
    rw [Bool.eq_iff_iff]; simp
  rw [eqSem, Sem.run_bind, insn_guard, Result.andThen_ok, e]
  show (do pure (.bool (← Op.equal 47 _ _)) : Sem Value).run Try.prog w = _
  rw [Sem.run_bind, insn_equal, Result.andThen_ok]
  rfl
end

theorem sameInsns_loop {w₀ : World} {A B : Option Addr} {n c d : Nat} {xs ys : List Ins} {R : Value → World → Prop} (hx : IInsns w₀ A n xs) (hy : IInsns w₀ B n ys) (hn : n ≤ 281474976710656)
    (hR : ∀ w, Ext w₀ w → R (.bool (decide (xs = ys))) w) :
    ∀ (k i : Nat), n - i = k → i ≤ n → xs.take i = ys.take i → ∀ w, Ext w₀ w → law0_SameInsns.L0 R A n c B n d i w := by
  intro k
  induction k with
  | zero =>
    intro i hk hi he w hw
    have e : xs = ys := by
      rw [List.take_of_length_le (by rw [hx.len]; omega), List.take_of_length_le (by rw [hy.len]; omega)] at he; exact he
    have := hR w hw
    rw [decide_eq_true e] at this
    exact law0_SameInsns.L0_step (ifP_no (by omega) this)
  | succ k ih =>
    intro i hk hi he w hw
    have hlt : i < n := by omega
    obtain ⟨a, x, rfl, gx, ha⟩ := hx.at Ins.len (by omega) hlt
    obtain ⟨b, y, rfl, gy, hb⟩ := hy.at Ins.len (by omega) hlt
    have ca : ∀ j v, x.v[j]? = some v → ∀ u : World, u = w.drew → u.cell? ((a.add (Int.toNat (i : Int) * 4)).add j) = some v := fun j v h u hu => by rw [hu]; exact (Ext.drew w).cell (hw.cell (ha j v h))
    have cb : ∀ j v, y.v[j]? = some v → ∀ u : World, u = w.drew → u.cell? ((b.add (Int.toNat (i : Int) * 4)).add j) = some v := fun j v h u hu => by rw [hu]; exact (Ext.drew w).cell (hw.cell (hb j v h))
    refine law0_SameInsns.L0_step (ifP_yes (by omega) ⟨(· = w.drew), rfl, ⟨by omega, by omega, a, rfl, _, ca 0 _ rfl, _, ca 1 _ rfl, _, ca 2 _ rfl, _, ca 3 _ rfl, by omega, by omega, b, rfl, _, cb 0 _ rfl, _, cb 1 _ rfl, _, cb 2 _ rfl, _, cb 3 _ rfl,
      _, _, insn_neq, _, rfl, ifP_not.2 (ifP_of (fun heq => ?_) (fun hne => ?_))⟩⟩)
    · have heq : x = y := of_decide_eq_true heq
      rw [wrap_i64 (by omega) (by omega)]
      refine ih (i + 1) (by omega) (by omega) ?_ _ (hw.trans (Ext.drew w))
      rw [List.take_add_one, List.take_add_one, he, gx, gy, heq]
    · have hne : x ≠ y := of_decide_eq_false hne
      have := hR w.drew (hw.trans (Ext.drew w))
      rwa [decide_eq_false] at this
      intro e
      subst e
      rw [gx] at gy
      exact hne (Option.some.inj gy)

theorem sameInsns_spec {w : World} {A B : Option Addr} {n m c d : Nat} {xs ys : List Ins} (hx : IInsns w A n xs) (hy : IInsns w B m ys) (hn : n ≤ 281474976710656) :
    Run Try.prog 26 #[.slice A n c, .slice B m d] w fun v w' => v = .bool (decide (xs = ys)) ∧ Ext w w' := by
  refine law0_SameInsns.ok (ifP_bne.2 ⟨fun hne => ?_, fun heq => ?_⟩)
  · refine ⟨?_, Ext.refl w⟩
    rw [decide_eq_false]
    intro e
    exact hne (by rw [← hx.len, ← hy.len, e])
  · have : n = m := by omega
    subst this
    exact sameInsns_loop hx hy hn (fun w' h => ⟨rfl, h⟩) n 0 (by omega) (by omega) rfl w (Ext.refl w)

/-- New memory that reads 'xs', and what else stood stands. -/
def NewInsns (w w' : World) (v : Value) (n : Nat) (xs : List Ins) : Prop :=
  ∃ A c, v = .slice A n c ∧ OInsns w' A c xs ∧ xs.length = n ∧ (∀ k, blk A k → w.heap.size ≤ k) ∧ Ext w w'

theorem copyInsns_spec {w : World} {A : Option Addr} {n c : Nat} {xs : List Ins} (hx : IInsns w A n xs) (hn : n * 8 ≤ 140737488355328) :
    Run Try.prog 23 #[.slice A n c] w fun v w' => NewInsns w w' v n xs := by
  refine law0_CopyInsns.ok (letA fun w1 h1 x1 s1 => ?_)
  have hO : Own 47 4 w1 (some (newA w)) 0 [] := .inr ⟨_, [], rfl, h1, rfl⟩
  obtain ⟨A', c', w2, hr, hO', hc', hk, hb⟩ := append_own slInsns (ty := 39) (n := 0) (d := c) hO rfl (hx.2.ext x1) (m := n) (by rw [flat_len Ins.len, hx.len]) (Ins.isCell xs) (by omega) (by omega)
  refine ⟨_, w2, hr, _, _, _, rfl, A', c', by simp, by simpa using hO', hx.len, ?_, ?_⟩
  · intro k hk'
    rcases hb k hk' with h | h
    · rw [blk_some.1 h]; exact Nat.le_refl _
    · omega
  · exact x1.fresh hk fun k h => by rw [blk_some.1 h]; exact Nat.le_refl _

/-- What is written over a list that is lent or spoilt. -/
def bad : Ins := ⟨7, 0, 0, 77⟩

theorem lendInsns_spec {w : World} {A : Option Addr} {n c : Nat} {xs : List Ins} (hx : IInsns w A n xs) (hn : n * 8 ≤ 140737488351232) :
    Run Try.prog 20 #[.slice A n c] w fun v w' => ∃ A' c', v = .slice A' n c' ∧ OInsns w' A' c' (xs ++ [bad, bad, bad]) ∧ (∀ k, blk A' k → w.heap.size ≤ k) ∧ Ext w w' := by
  refine law0_LendInsns.ok ((copyInsns_spec hx (by omega)).mono ?_)
  rintro v w1 ⟨A1, c1, rfl, hO, hc, hb1, x1⟩
  refine ⟨_, _, _, rfl, letA fun w2 h2 x2 s2 => ?_⟩
  have hB : RdC w2 (some (newA w1)) ([bad, bad, bad].flatMap Ins.v) := by
    have : Own 47 4 w2 (some (newA w1)) 3 ([bad, bad, bad].flatMap Ins.v) := .inr ⟨_, [], rfl, h2, rfl⟩
    exact this.cells
  obtain ⟨A', c', w3, hr, hO', hc', hk, hb⟩ := append_own slInsns (ty := 39) (n := n) (d := 3) (hO.ext x2) (by rw [flat_len Ins.len, hx.len]) hB (m := 3) rfl (Ins.isCell _) (by omega) (by omega)
  refine ⟨_, w3, hr, _, _, _, rfl, by omega, by omega, by omega, A', c', ?_, ?_, ?_, ?_⟩
  · rw [subA_zero]; simp
  · rw [OInsns, List.flatMap_append]; exact hO'
  · intro k hk'
    rcases hb k hk' with h | h
    · exact hb1 k h
    · have := x1.size; omega
  · exact (x1.trans x2).fresh hk fun k h => hb1 k h

theorem spoilInsns_two {w₀ : World} {A : Option Addr} {n c : Nat} {R : Value → World → Prop} (hn : n ≤ 281474976710656)
    (hR : ∀ w, Keep (blk A) w₀ w → R (.tuple #[]) w) :
    ∀ (k i : Nat), n - i = k → i ≤ n → ∀ (w : World), Wr 47 4 w A n → Keep (blk A) w₀ w → law0_SpoilInsns.L2 R A n c i w := by
  intro k
  induction k with
  | zero => intro i hk hi w hO hw; exact law0_SpoilInsns.L2_step (ifP_no (by omega) (hR w hw))
  | succ k ih =>
    intro i hk hi w hO hw
    refine law0_SpoilInsns.L2_step (ifP_yes (by omega) ⟨by omega, by omega, hO.store (i := i) (by omega) hO rfl rfl fun w1 h1 _ k1 => ?_⟩)
    rw [wrap_i64 (by omega) (by omega)]
    exact ih (i + 1) (by omega) (by omega) w1 h1 (hw.trans' k1)

theorem spoilInsns_one {w₀ : World} {A F : Option Addr} {n c m fc : Nat} {R : Value → World → Prop} (hn : n ≤ 281474976710656) (hm : m ≤ 281474976710656)
    (hR : ∀ w, Keep (blk A) w₀ w → R (.tuple #[]) w) (hF : ∀ k, blk F k → blk A k ∨ w₀.heap.size ≤ k) :
    ∀ (k i : Nat), m - i = k → i ≤ m → ∀ (w : World), Wr 47 4 w F m → Wr 47 4 w A n → Keep (blk A) w₀ w → law0_SpoilInsns.L0 R A n c F m fc i w := by
  intro k
  induction k with
  | zero => intro i hk hi w hO hA hw; exact law0_SpoilInsns.L0_step (ifP_no (by omega) (spoilInsns_two hn hR n 0 (by omega) (by omega) w hA hw))
  | succ k ih =>
    intro i hk hi w hO hA hw
    refine law0_SpoilInsns.L0_step (ifP_yes (by omega) ⟨by omega, by omega, hO.store (i := i) (by omega) hA rfl rfl fun w1 h1 h2 k1 => ?_⟩)
    rw [wrap_i64 (by omega) (by omega)]
    refine ih (i + 1) (by omega) (by omega) w1 h1 h2 (hw.trans k1 (fun _ _ h => h) fun k hk hs => ?_)
    rcases hF k hs with h | h
    · exact h
    · omega

theorem spoilInsns_spec {w : World} {A : Option Addr} {n c : Nat} {cs : List Value} (hO : Own 47 4 w A c cs) (hl : cs.length = n * 4) (hn : n * 8 ≤ 140737488353280) :
    Run Try.prog 25 #[.slice A n c] w fun v w' => v = .tuple #[] ∧ Keep (blk A) w w' := by
  refine law0_SpoilInsns.ok (letA fun w1 h1 x1 s1 => ?_)
  have hB : RdC w1 (some (newA w)) bad.v := by
    have : Own 47 4 w1 (some (newA w)) 1 bad.v := .inr ⟨_, [], rfl, h1, rfl⟩
    exact this.cells
  have hA1 : Wr 47 4 w1 A n := (hO.ext x1).wr (by omega) (by omega)
  rcases append_cases slInsns (ty := 39) (n := n) (d := 1) (hO.ext x1) (by omega) hB (m := 1) rfl rfl (by omega) (by omega) with ⟨hroom, w2, hr, hO2, hk, hs⟩ | ⟨hroom, c2, w2, hr, hO2, hc2, hx, hs⟩
  · refine ⟨_, w2, hr, _, _, _, rfl, ?_⟩
    have hF : Wr 47 4 w2 A (n + 1) := hO2.wr (by omega) (by simp [hl, Ins.len]; omega)
    exact spoilInsns_one (by omega) (by omega) (fun w h => ⟨rfl, h⟩) (fun k h => .inl h) (n + 1) 0 (by omega) (by omega) w2 hF (fun i hi => hF i (by omega)) ((Keep.ext x1).trans' hk)
  · refine ⟨_, w2, hr, _, _, _, rfl, ?_⟩
    have hF : Wr 47 4 w2 (some ⟨w1.heap.size, 0, none⟩) (n + 1) := hO2.wr (by omega) (by simp [hl, Ins.len]; omega)
    exact spoilInsns_one (by omega) (by omega) (fun w h => ⟨rfl, h⟩) (fun k h => .inr (by rw [blk_some.1 h]; omega)) (n + 1) 0 (by omega) (by omega) w2 hF (hA1.keep hx fun _ _ h => h) (Keep.ext (x1.trans hx))

theorem keptInsns_spec {w : World} {A B : Option Addr} {n c d : Nat} {xs : List Ins} (hO : OInsns w A c (xs ++ [bad, bad, bad])) (hx : IInsns w B n xs) (hn : n * 8 ≤ 140737488351232) :
    Run Try.prog 22 #[.slice A n c, .slice B n d] w fun v w' => v = .bool true ∧ Keep (blk A) w w' := by
  have hlen : xs.length = n := hx.len
  have hfl : ((xs ++ [bad, bad, bad]).flatMap Ins.v).length = (n + 3) * 4 := by rw [flat_len Ins.len]; simp [hlen]
  have hc : n + 3 ≤ c := hO.len (n := n + 3) (by omega) hfl
  have e3 : IntKind.i64.wrap ((n : Int) + 3) = ((n + 3 : Nat) : Int) := by rw [wrap_i64 (by omega) (by omega)]; rfl
  have hA3 : IInsns w A (n + 3) (xs ++ [bad, bad, bad]) := hO.rdM (by simp [hlen])
  have hA : IInsns w A n xs := by
    have := hA3.take Ins.len (k := n) (by omega)
    rwa [List.take_left' hlen] at this
  refine law0_KeptInsns.ok ?_
  rw [law0_KeptInsns.vc, e3]
  refine ⟨by omega, by omega, by omega, (sameInsns_spec hA hx (by omega)).mono ?_⟩
  rintro v w1 ⟨rfl, x1⟩
  refine ⟨_, rfl, ifP_t (by simp) ⟨by omega, by omega, by omega, letA fun w2 h2 x2 s2 => ?_⟩⟩
  have hO2 : OInsns w2 A c (xs ++ [bad, bad, bad]) := (hO.ext x1).ext x2
  have hB : IInsns w2 (some (newA w1)) 3 [bad, bad, bad] := by
    have : OInsns w2 (some (newA w1)) 3 [bad, bad, bad] := .inr ⟨_, [], rfl, h2, rfl⟩
    exact this.rdM rfl
  rw [subA_zero]
  have hS : IInsns w2 (subA A (c - 0) (Int.toNat (n : Int)) 4) (Int.toNat ((n + 3 : Nat) : Int) - 0 - Int.toNat (n : Int)) [bad, bad, bad] := by
    have h := (hA3.ext (x1.trans x2)).drop Ins.len (k := n) (c := c - 0) (by omega) (by omega)
    rw [List.drop_left' hlen] at h
    rw [show Int.toNat (n : Int) = n by omega, show Int.toNat ((n + 3 : Nat) : Int) - 0 - n = 3 by omega]
    rwa [show n + 3 - n = 3 by omega] at h
  refine (sameInsns_spec hS hB (by omega)).mono ?_
  rintro v w3 ⟨rfl, x3⟩
  refine ⟨_, rfl, ?_⟩
  refine (spoilInsns_spec (hO2.ext x3) (n := n + 3) hfl (by omega) (c := c)).mono ?_
  rintro v w4 ⟨rfl, k4⟩
  exact ⟨rfl, by simp, (Keep.ext ((x1.trans x2).trans x3)).trans' k4⟩

end Go.Proofs.Ytbchjihecdkfeaa
