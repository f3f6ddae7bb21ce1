/- Verdicts, alike or not; what was lent, read. -/
import Derived.Test.YtbchjihecdkfeaaVP6
namespace Go.Proofs.Ytbchjihecdkfeaa
open Go.Rd Go.RowKit
set_option linter.unusedVariables false
set_option linter.unusedSimpArgs false
set_option maxRecDepth 100000

/-- The call returns true, and what stood stands. -/
def Good (W : World) (v : Value) (w' : World) : Prop := v = .bool true ∧ Fr W w'
theorem lit_insns {w w1 : World} {xs : List Ins} {cs : Array Value} (h : w1.heap[w.heap.size]? = some (.cells cs 47 (0, 0))) (hx : cs = (xs.flatMap Ins.v).toArray) : OInsns w1 (some (newA w)) xs.length xs :=
  .inr ⟨_, [], rfl, by rw [List.append_nil, ← hx]; exact h, by rw [List.append_nil, flat_len Ins.len]⟩
theorem lent_read {w : World} {A : Option Addr} {n c : Nat} {xs : List Ins} (h : OInsns w A c (xs ++ [bad, bad, bad])) (hl : xs.length = n) : IInsns w A n xs := by
  have := (h.rdM (n := n + 3) (by simp [hl])).take Ins.len (k := n) (by omega)
  rwa [List.take_left' hl] at this
theorem lent_bytes {w : World} {A : Option Addr} {n c : Nat} {xs : List Int} (h : OBytes w A c (xs ++ [201, 201, 201])) (hl : xs.length = n) : IBytes w A n xs ∧ n ≤ c := by
  have h3 : (xs ++ [201, 201, 201]).length = n + 3 := by simp [hl]
  refine ⟨?_, ?_⟩
  · refine ⟨hl, fun i x hx => (Own.rd h h3).2 i x ?_⟩
    rw [List.getElem?_append_left (List.getElem?_eq_some_iff.1 hx).1]
    exact hx
  · have := Own.len (n := n + 3) (by decide) h (by rw [List.length_map, h3, Nat.mul_one])
    omega

section
variable {w : World} {a0 a1 a2 b0 b1 b2 : Int}
theorem verd_equal : (Op.equal 33 (.agg #[.int .u32 a0, .int .i64 a1, .int .i64 a2]) (.agg #[.int .u32 b0, .int .i64 b1, .int .i64 b2])).run Try.prog w = .ok ((a0 == b0) && ((a1 == b1) && ((a2 == b2) && true))) w := by
  show (Op.equalIn (9999 + 1) _ _ _).run Try.prog w = _
  rw [run_equalIn_struct w 9999 33 _ _ (by kernel_rfl) (by kernel_rfl)]
  obtain ⟨f0, f1, f2, hf, n0, n1, n2, t0, t1, t2, o0, o1, o2⟩ : ∃ f0 f1 f2 : Field, (Try.prog.fieldsOf 33).toList = [f0, f1, f2] ∧ f0.name ≠ "_" ∧ f1.name ≠ "_" ∧ f2.name ≠ "_" ∧
      f0.type = 31 ∧ f1.type = 3 ∧ f2.type = 3 ∧ f0.offset = 0 ∧ f1.offset = 1 ∧ f2.offset = 2 :=
    ⟨(Try.prog.fieldsOf 33)[0]!, (Try.prog.fieldsOf 33)[1]!, (Try.prog.fieldsOf 33)[2]!,
      by kernel_rfl, by decide +kernel, by decide +kernel, by decide +kernel, by kernel_rfl, by kernel_rfl, by kernel_rfl, by kernel_rfl, by kernel_rfl, by kernel_rfl⟩
  rw [hf]
  refine insn_eqf (t := 0) (x := 0) f0 n0 (k := .u32) ?_ ?_ ?_ (insn_eqf (t := 0) (x := 0) f1 n1 (k := .i64) ?_ ?_ ?_ (insn_eqf (t := 0) (x := 0) f2 n2 (k := .i64) ?_ ?_ ?_ (by simp [Op.eqFields])))
  all_goals simp only [t0, t1, t2, o0, o1, o2]
  all_goals first | exact insn_int (by kernel_rfl) | kernel_rfl
theorem verd_guard {op : BinOp} {x y : Operand} : (eqGuard op 33 x y (.agg #[.int .u32 a0, .int .i64 a1, .int .i64 a2]) (.agg #[.int .u32 b0, .int .i64 b1, .int .i64 b2])).run Try.prog w = .ok () w := by
  cases op <;> kernel_rfl
theorem verd_dec : decide (((a0, a1, a2) : Int × Int × Int) = (b0, b1, b2)) = ((a0 == b0) && ((a1 == b1) && ((a2 == b2) && true))) := by
  rw [Bool.eq_iff_iff]; simp
theorem verd_eql {x y : Operand} : (eqSem .eql 33 x y (.agg #[.int .u32 a0, .int .i64 a1, .int .i64 a2]) (.agg #[.int .u32 b0, .int .i64 b1, .int .i64 b2])).run Try.prog w = .ok (.bool (decide (((a0, a1, a2) : Int × Int × Int) = (b0, b1, b2)))) w := by
  rw [eqSem, Sem.run_bind, verd_guard, Result.andThen_ok, verd_dec]
  show (do pure (.bool (← Op.equal 33 _ _)) : Sem Value).run Try.prog w = _
  rw [Sem.run_bind, verd_equal, Result.andThen_ok]
  rfl
theorem verd_neq {x y : Operand} : (eqSem .neq 33 x y (.agg #[.int .u32 a0, .int .i64 a1, .int .i64 a2]) (.agg #[.int .u32 b0, .int .i64 b1, .int .i64 b2])).run Try.prog w = .ok (.bool (!decide (((a0, a1, a2) : Int × Int × Int) = (b0, b1, b2)))) w := by
  rw [eqSem, Sem.run_bind, verd_guard, Result.andThen_ok, verd_dec]
  show (do pure (.bool (!(← Op.equal 33 _ _))) : Sem Value).run Try.prog w = _
  rw [Sem.run_bind, verd_equal, Result.andThen_ok]
  rfl
end
/-- A verdict in its block. -/
def VAt (w : World) (b : Nat) (x : Int × Int × Int) : Prop := w.heap[b]? = some (.cells #[.int .u32 x.1, .int .i64 x.2.1, .int .i64 x.2.2] 33 (0, 0))
theorem VAt.ext {w w' : World} {b : Nat} {x : Int × Int × Int} (h : VAt w b x) (e : Go.Rd.Ext w w') : VAt w' b x := e.heap h
theorem VAt.keep {w w' : World} {b : Nat} {x : Int × Int × Int} {X : Nat → Prop} (h : VAt w b x) (e : Keep X w w') (hb : ¬ X b) : VAt w' b x := e.heap h hb
theorem VAt.rd {w : World} {b : Nat} {x : Int × Int × Int} {Q : Int → Int → Int → Prop} (h : VAt w b x) (hq : Q x.1 x.2.1 x.2.2) :
    ∃ t0 : Int, w.cell? ⟨b, 0, none⟩ = some (.int .u32 t0) ∧ ∃ t1 : Int, w.cell? ((Addr.mk b 0 none).add 1) = some (.int .i64 t1) ∧ ∃ t2 : Int, w.cell? ((Addr.mk b 0 none).add 2) = some (.int .i64 t2) ∧ Q t0 t1 t2 := rd3 h hq
theorem vstore {w : World} {x : Int × Int × Int} {φ : World → Prop} (h : ∀ w', VAt w' w.heap.size x → Go.Rd.Ext w w' → w'.heap.size = w.heap.size + 1 → φ w') :
    letW (w.alloc (.cells #[.int .u32 0, .int .i64 0, .int .i64 0] 33)) fun w1 => storeRow (newA w) 0 [.int .u32 x.1, .int .i64 x.2.1, .int .i64 x.2.2] w1 φ := by
  refine letA fun w1 h1 x1 s1 => storeRow_block h1 (show 0 + 0 + 3 ≤ 3 by decide) rfl fun w2 h2 k2 s2 => ?_
  rw [setFrom_all [.int .u32 0, .int .i64 0, .int .i64 0] [.int .u32 x.1, .int .i64 x.2.1, .int .i64 x.2.2] rfl] at h2
  exact h w2 h2 (x1.fresh k2 fun j hj => by rw [hj]; exact Nat.le_refl _) (by omega)

end Go.Proofs.Ytbchjihecdkfeaa
