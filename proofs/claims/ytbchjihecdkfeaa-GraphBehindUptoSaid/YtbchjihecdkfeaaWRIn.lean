/- The document's answer: In. -/
import Derived.Test.YtbchjihecdkfeaaWGet
namespace Go.Proofs.Ytbchjihecdkfeaa
open Go.Rd Go.RowKit
set_option linter.unusedVariables false
set_option linter.unusedSimpArgs false

def inB (n at_ size : Int) : Bool := decide (at_ ≥ 0) && decide (size ≥ 0) && decide (size ≤ n) && decide (at_ ≤ n - size)

theorem in_spec {w : World} {n at_ size : Int} (h0 : 0 ≤ n) (h1 : n ≤ 140737488355328) : Run Try.prog 125 #[.int .i64 n, .int .i64 at_, .int .i64 size] w fun v w' => v = .bool (inB n at_ size) ∧ w' = w := by
  refine ref1_In.ok (ifP_dec (fun h1 => ifP_dec (fun h2 => ifP_dec (fun h3 => ?_) (fun h3 => ?_)) (fun h2 => ?_)) (fun h1 => ?_))
  · rw [wrap_i64 (by omega) (by omega)]
    exact ⟨by simp [inB, h1, h2, h3], rfl⟩
  all_goals
    have : inB n at_ size = false := by simp [inB]; omega
    exact ⟨by rw [this], rfl⟩

theorem fitsB_in {n at_ size : Int} (hs : size = 1 ∨ size = 2 ∨ size = 4) (h0 : 0 ≤ n) : inB n at_ size = fitsB n at_ size := by
  have hb : (size == 1 || size == 2 || size == 4) = true := by rcases hs with h | h | h <;> simp [h]
  simp only [fitsB, hb, Bool.true_and, inB]
  by_cases h1 : at_ ≥ 0
  · by_cases h2 : at_ ≤ n - size
    · have h3 : size ≤ n := by omega
      have h4 : size ≥ 0 := by omega
      simp [h1, h2, h3, h4]
    · simp [h1, h2]
  · simp [h1]

theorem fitsB_not {n at_ size : Int} (h1 : size ≠ 1) (h2 : size ≠ 2) (h4 : size ≠ 4) : fitsB n at_ size = false := by simp [fitsB, h1, h2, h4]

end Go.Proofs.Ytbchjihecdkfeaa
