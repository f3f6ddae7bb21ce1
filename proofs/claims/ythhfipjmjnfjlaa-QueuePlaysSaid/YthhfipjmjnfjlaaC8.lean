/- The statement over what a queue refuses. -/
import Derived.Test.YthhfipjmjnfjlaaC7
import Derived.Test.YthhfipjmjnfjlaaLow
namespace Go.Proofs.Ythhfipjmjnfjlaa
open Go.Rd Go.RowKit
set_option linter.unusedVariables false
set_option linter.unusedSimpArgs false

theorem Since.put {W w : World} {q : Nat} {F : Nat → Prop} {cl cl' : List Cls} {k e : Int} {ok : Bool} {B : Option Addr} {n bc : Nat} {xs : List Int} {R : Value → World → Prop} (h : Since W w q F cl) (hb : IBytes w B n xs) (hn : n ≤ 140737488351232) (hp : putQ cl k xs = ((ok, e), cl'))
    (hR : ∀ w' F', Since W w' q F' cl' → Keep F w w' → R (.tuple #[.bool ok, .int .i64 e]) w') : Run Try.prog 15 #[.pointer (some ⟨q, 0, none⟩), .int .i64 k, .slice B n bc] w R := by
  refine (qput_spec h.ok hb hn).mono ?_
  rintro v w2 ⟨rfl, s⟩
  rw [hp] at s ⊢
  obtain ⟨F', hS⟩ := h.step s
  exact hR _ _ hS (by obtain ⟨_, _, K, _⟩ := s; exact K)

theorem made {w : World} {c : Int} (h0 : 0 ≤ c) (h1 : c ≤ 100000) :
    ∃ A w', (Instr.makeSlice 35 (.int .i64 c) (.int .i64 c)).run Try.prog w = .ok (.slice A c.toNat c.toNat) w' ∧ IBytes w' A c.toNat (List.replicate c.toNat 0) ∧ Ext w w' := by
  obtain ⟨w', hr, o, x, _⟩ := make_full slBytes rfl (w := w) (c := c) (by omega) (by omega) (by omega)
  refine ⟨_, w', hr, ?_, x⟩
  have e : List.replicate c.toNat (Value.int .u8 0) = (List.replicate c.toNat (0 : Int)).map (Value.int .u8) := by simp
  rw [e] at o
  exact o.rd (by simp)
end Go.Proofs.Ythhfipjmjnfjlaa
