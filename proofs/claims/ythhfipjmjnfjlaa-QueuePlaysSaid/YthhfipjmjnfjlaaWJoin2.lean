/- Join of two lists, of three, of none. -/
import Derived.Test.YthhfipjmjnfjlaaWJoin
namespace Go.Proofs.Ythhfipjmjnfjlaa
open Go.Rd Go.RowKit
set_option linter.unusedVariables false
set_option linter.unusedSimpArgs false

theorem lit_rd {α : Type} {f : α → Value} {w w1 : World} {xs : List α} {cs : Array Value} {t : TypeId} (h : w1.heap[w.heap.size]? = some (.cells cs t (0, 0))) (hx : cs = (xs.map f).toArray) :
    Rd f w1 (some (newA w)) xs.length xs := Rd.block h (by subst hx; intro i x hi; simp [hi])

theorem join_two {w : World} {p q : Part} {P : Option Addr} (h : Rd Part.v w P 2 [p, q]) (hp : IBytes w p.A p.n p.xs) (hq : IBytes w q.A q.n q.xs) (ht : p.n + q.n ≤ 100000000) :
    Run Try.prog 36 #[.slice P 2 2] w fun v w' => NewBytes w w' v (p.n + q.n) (p.xs ++ q.xs) := by
  refine (join_spec h (by omega) (by simp [hp, hq]) (by simp [total]; omega)).mono ?_
  intro v w' hv
  simpa [total, flat] using hv
theorem join_three {w : World} {p q r : Part} {P : Option Addr} (h : Rd Part.v w P 3 [p, q, r]) (hp : IBytes w p.A p.n p.xs) (hq : IBytes w q.A q.n q.xs) (hr : IBytes w r.A r.n r.xs) (ht : p.n + q.n + r.n ≤ 100000000) :
    Run Try.prog 36 #[.slice P 3 3] w fun v w' => NewBytes w w' v (p.n + (q.n + r.n)) (p.xs ++ (q.xs ++ r.xs)) := by
  refine (join_spec h (by omega) (by simp [hp, hq, hr]) (by simp [total]; omega)).mono ?_
  intro v w' hv
  simpa [total, flat] using hv
theorem join_none {w : World} : Run Try.prog 36 #[.slice none 0 0] w fun v w' => NewBytes w w' v 0 [] :=
  (join_spec (ps := []) Rd.nil (by omega) (by simp) (by simp [total])).mono fun v w' hv => hv
end Go.Proofs.Ythhfipjmjnfjlaa
