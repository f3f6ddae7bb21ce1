/- Printed by a program: arrays of bytes against zeros. -/
import Derived.Test.YtjlbegfbdjhhdaaGDef
import Derived.ChangeKeysEq
namespace Go.Proofs.Ytjlbegfbdjhhdaa
open Go.Rd Go.RowKit
set_option linter.unusedVariables false
set_option linter.unusedSimpArgs false
set_option maxRecDepth 100000

def allZ (f : Nat → Int) (l : List Nat) : Bool := l.all fun i => f i == 0
section
variable {w : World} {f : Nat → Int}
theorem byte_equal {d : Nat} {a b : Int} : (Op.equalIn (d + 1) 5 (.int .u8 a) (.int .u8 b)).run Try.prog w = .ok (a == b) w := by
  have h : Try.prog.underlying 5 = some (.int .u8) := by kernel_rfl
  simp only [Op.equalIn, Sem.run_bind, run_underlying h, Result.andThen_ok]
  simp
theorem item_step {d : Nat} {xs ys : Array Value} {i : Nat} {is : List Nat} {a b : Int} {r : Bool} (ha : (part 5 xs (i * 1)).run Try.prog w = .ok (.int .u8 a) w) (hb : (part 5 ys (i * 1)).run Try.prog w = .ok (.int .u8 b) w)
    (hr : (Op.eqItems (d + 1) 5 1 xs ys is).run Try.prog w = .ok r w) : (Op.eqItems (d + 1) 5 1 xs ys (i :: is)).run Try.prog w = .ok ((a == b) && r) w := by
  simp only [Op.eqItems, Sem.run_bind, ha, hb, byte_equal, Result.andThen_ok]
  cases hab : (a == b)
  · simp
  · simpa using hr
theorem zero16 {x y : Operand} : (eqSem .neq 25 x y (.agg #[.int .u8 (f 0), .int .u8 (f 1), .int .u8 (f 2), .int .u8 (f 3), .int .u8 (f 4), .int .u8 (f 5), .int .u8 (f 6), .int .u8 (f 7), .int .u8 (f 8), .int .u8 (f 9), .int .u8 (f 10), .int .u8 (f 11), .int .u8 (f 12), .int .u8 (f 13), .int .u8 (f 14), .int .u8 (f 15)]) (.agg #[.int .u8 0, .int .u8 0, .int .u8 0, .int .u8 0, .int .u8 0, .int .u8 0, .int .u8 0, .int .u8 0, .int .u8 0, .int .u8 0, .int .u8 0, .int .u8 0, .int .u8 0, .int .u8 0, .int .u8 0, .int .u8 0])).run Try.prog w = .ok (.bool (!allZ f [0, 1, 2, 3, 4, 5, 6, 7, 8, 9, 10, 11, 12, 13, 14, 15])) w := by
  have e : (Op.equal 25 (.agg #[.int .u8 (f 0), .int .u8 (f 1), .int .u8 (f 2), .int .u8 (f 3), .int .u8 (f 4), .int .u8 (f 5), .int .u8 (f 6), .int .u8 (f 7), .int .u8 (f 8), .int .u8 (f 9), .int .u8 (f 10), .int .u8 (f 11), .int .u8 (f 12), .int .u8 (f 13), .int .u8 (f 14), .int .u8 (f 15)]) (.agg #[.int .u8 0, .int .u8 0, .int .u8 0, .int .u8 0, .int .u8 0, .int .u8 0, .int .u8 0, .int .u8 0, .int .u8 0, .int .u8 0, .int .u8 0, .int .u8 0, .int .u8 0, .int .u8 0, .int .u8 0, .int .u8 0])).run Try.prog w = .ok (allZ f [0, 1, 2, 3, 4, 5, 6, 7, 8, 9, 10, 11, 12, 13, 14, 15]) w := by
    show (Op.equalIn (9999 + 1) _ _ _).run Try.prog w = _
    obtain ⟨i, hi, hc⟩ : ∃ i, Try.prog.info? 5 = some i ∧ Try.prog.cellsOf 5 = 1 := ⟨(Try.prog.info? 5).get (by kernel_rfl), by kernel_rfl, by kernel_rfl⟩
    rw [run_equalIn_array (i := i) w 9999 (n := 16) (e := 5) _ _ (by kernel_rfl) hi, hc]
    show (Op.eqItems (9998 + 1) 5 1 _ _ [0, 1, 2, 3, 4, 5, 6, 7, 8, 9, 10, 11, 12, 13, 14, 15]).run Try.prog w = _
    unfold allZ
    simp only [List.all_cons, List.all_nil]
    exact (item_step (by kernel_rfl) (by kernel_rfl) (item_step (by kernel_rfl) (by kernel_rfl) (item_step (by kernel_rfl) (by kernel_rfl) (item_step (by kernel_rfl) (by kernel_rfl) (item_step (by kernel_rfl) (by kernel_rfl) (item_step (by kernel_rfl) (by kernel_rfl) (item_step (by kernel_rfl) (by kernel_rfl) (item_step (by kernel_rfl) (by kernel_rfl) (item_step (by kernel_rfl) (by kernel_rfl) (item_step (by kernel_rfl) (by kernel_rfl) (item_step (by kernel_rfl) (by kernel_rfl) (item_step (by kernel_rfl) (by kernel_rfl) (item_step (by kernel_rfl) (by kernel_rfl) (item_step (by kernel_rfl) (by kernel_rfl) (item_step (by kernel_rfl) (by kernel_rfl) (item_step (by kernel_rfl) (by kernel_rfl) (by simp [Op.eqItems])))))))))))))))))
  have g : (eqGuard .neq 25 x y (.agg #[.int .u8 (f 0), .int .u8 (f 1), .int .u8 (f 2), .int .u8 (f 3), .int .u8 (f 4), .int .u8 (f 5), .int .u8 (f 6), .int .u8 (f 7), .int .u8 (f 8), .int .u8 (f 9), .int .u8 (f 10), .int .u8 (f 11), .int .u8 (f 12), .int .u8 (f 13), .int .u8 (f 14), .int .u8 (f 15)]) (.agg #[.int .u8 0, .int .u8 0, .int .u8 0, .int .u8 0, .int .u8 0, .int .u8 0, .int .u8 0, .int .u8 0, .int .u8 0, .int .u8 0, .int .u8 0, .int .u8 0, .int .u8 0, .int .u8 0, .int .u8 0, .int .u8 0])).run Try.prog w = .ok () w := by kernel_rfl
  rw [eqSem, Sem.run_bind, g, Result.andThen_ok]
  show (do pure (.bool (!(← Op.equal 25 _ _))) : Sem Value).run Try.prog w = _
  rw [Sem.run_bind, e, Result.andThen_ok]
  rfl
theorem zero12 {x y : Operand} : (eqSem .neq 74 x y (.agg #[.int .u8 (f 4), .int .u8 (f 5), .int .u8 (f 6), .int .u8 (f 7), .int .u8 (f 8), .int .u8 (f 9), .int .u8 (f 10), .int .u8 (f 11), .int .u8 (f 12), .int .u8 (f 13), .int .u8 (f 14), .int .u8 (f 15)]) (.agg #[.int .u8 0, .int .u8 0, .int .u8 0, .int .u8 0, .int .u8 0, .int .u8 0, .int .u8 0, .int .u8 0, .int .u8 0, .int .u8 0, .int .u8 0, .int .u8 0])).run Try.prog w = .ok (.bool (!allZ f [4, 5, 6, 7, 8, 9, 10, 11, 12, 13, 14, 15])) w := by
  have e : (Op.equal 74 (.agg #[.int .u8 (f 4), .int .u8 (f 5), .int .u8 (f 6), .int .u8 (f 7), .int .u8 (f 8), .int .u8 (f 9), .int .u8 (f 10), .int .u8 (f 11), .int .u8 (f 12), .int .u8 (f 13), .int .u8 (f 14), .int .u8 (f 15)]) (.agg #[.int .u8 0, .int .u8 0, .int .u8 0, .int .u8 0, .int .u8 0, .int .u8 0, .int .u8 0, .int .u8 0, .int .u8 0, .int .u8 0, .int .u8 0, .int .u8 0])).run Try.prog w = .ok (allZ f [4, 5, 6, 7, 8, 9, 10, 11, 12, 13, 14, 15]) w := by
    show (Op.equalIn (9999 + 1) _ _ _).run Try.prog w = _
    obtain ⟨i, hi, hc⟩ : ∃ i, Try.prog.info? 5 = some i ∧ Try.prog.cellsOf 5 = 1 := ⟨(Try.prog.info? 5).get (by kernel_rfl), by kernel_rfl, by kernel_rfl⟩
    rw [run_equalIn_array (i := i) w 9999 (n := 12) (e := 5) _ _ (by kernel_rfl) hi, hc]
    show (Op.eqItems (9998 + 1) 5 1 _ _ [0, 1, 2, 3, 4, 5, 6, 7, 8, 9, 10, 11]).run Try.prog w = _
    unfold allZ
    simp only [List.all_cons, List.all_nil]
    exact (item_step (by kernel_rfl) (by kernel_rfl) (item_step (by kernel_rfl) (by kernel_rfl) (item_step (by kernel_rfl) (by kernel_rfl) (item_step (by kernel_rfl) (by kernel_rfl) (item_step (by kernel_rfl) (by kernel_rfl) (item_step (by kernel_rfl) (by kernel_rfl) (item_step (by kernel_rfl) (by kernel_rfl) (item_step (by kernel_rfl) (by kernel_rfl) (item_step (by kernel_rfl) (by kernel_rfl) (item_step (by kernel_rfl) (by kernel_rfl) (item_step (by kernel_rfl) (by kernel_rfl) (item_step (by kernel_rfl) (by kernel_rfl) (by simp [Op.eqItems])))))))))))))
  have g : (eqGuard .neq 74 x y (.agg #[.int .u8 (f 4), .int .u8 (f 5), .int .u8 (f 6), .int .u8 (f 7), .int .u8 (f 8), .int .u8 (f 9), .int .u8 (f 10), .int .u8 (f 11), .int .u8 (f 12), .int .u8 (f 13), .int .u8 (f 14), .int .u8 (f 15)]) (.agg #[.int .u8 0, .int .u8 0, .int .u8 0, .int .u8 0, .int .u8 0, .int .u8 0, .int .u8 0, .int .u8 0, .int .u8 0, .int .u8 0, .int .u8 0, .int .u8 0])).run Try.prog w = .ok () w := by kernel_rfl
  rw [eqSem, Sem.run_bind, g, Result.andThen_ok]
  show (do pure (.bool (!(← Op.equal 74 _ _))) : Sem Value).run Try.prog w = _
  rw [Sem.run_bind, e, Result.andThen_ok]
  rfl
end
end Go.Proofs.Ytjlbegfbdjhhdaa
