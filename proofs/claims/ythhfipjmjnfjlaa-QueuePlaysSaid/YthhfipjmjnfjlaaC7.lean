/- The call that every program answers that is one. -/
import Derived.Test.YthhfipjmjnfjlaaC6
namespace Go.Proofs.Ythhfipjmjnfjlaa
open Go.Rd Go.RowKit
set_option linter.unusedVariables false
set_option linter.unusedSimpArgs false

def Good (W : World) (v : Value) (w' : World) : Prop := v = .bool true ∧ Fr W w'

theorem lit_bytes {w w1 : World} {xs : List Int} {cs : Array Value} (h : w1.heap[w.heap.size]? = some (.cells cs 5 (0, 0))) (hx : cs = (xs.map (Value.int .u8)).toArray) : OBytes w1 (some (newA w)) xs.length xs :=
  .inr ⟨_, [], rfl, by rw [List.append_nil, ← hx]; exact h, by simp⟩

/-- A queue that was made since 'W', and nothing older was touched. -/
structure Since (W w : World) (q : Nat) (F : Nat → Prop) (cl : List Cls) : Prop where
  ok : QOk w q F cl
  ext : Ext W w
  new : ∀ k, F k → W.heap.size ≤ k
theorem Since.lt {W w : World} {q : Nat} {F : Nat → Prop} {cl : List Cls} (h : Since W w q F cl) : ∀ k, F k → k < w.heap.size := by
  obtain ⟨_, _, _, hq⟩ := h.ok
  exact hq.lt
theorem Since.step {W w w' : World} {q : Nat} {F : Nat → Prop} {cl cl' : List Cls} (h : Since W w q F cl) (s : QStep w q F cl' w') : ∃ F', Since W w' q F' cl' := by
  obtain ⟨F', ok, K, sub⟩ := s
  exact ⟨F', ok, h.ext.fresh K h.new, fun k hk => (sub k hk).elim (h.new k) fun h2 => by have := h.ext.size; omega⟩
theorem Since.more {W w w' : World} {q : Nat} {F : Nat → Prop} {cl : List Cls} (h : Since W w q F cl) (x : Ext w w') : Since W w' q F cl := ⟨h.ok.ext x, h.ext.trans x, h.new⟩

theorem put_gen {W w : World} {q : Nat} {F : Nat → Prop} {cl cl' : List Cls} {k b e : Int} {ok : Bool} {R : Value → World → Prop} (h : Since W w q F cl) (hp : putQ cl k [b] = ((ok, e), cl'))
    (hR : ∀ w' F', Since W w' q F' cl' → R (.tuple #[.bool ok, .int .i64 e]) w') : letW (w.alloc (.cells #[.int .u8 b] 5)) fun w1 => Run Try.prog 15 #[.pointer (some ⟨q, 0, none⟩), .int .i64 k, .slice (some (newA w)) 1 1] w1 R := by
  refine letA fun w1 h1 x1 s1 => ?_
  have i1 : IBytes w1 (some (newA w)) 1 [b] := (lit_bytes (xs := [b]) h1 rfl).rd rfl
  refine (qput_spec (h.more x1).ok i1 (by omega)).mono ?_
  rintro v w2 ⟨rfl, s⟩
  rw [hp] at s ⊢
  obtain ⟨F', hS⟩ := (h.more x1).step s
  exact hR _ _ hS

theorem put_one {W w : World} {q : Nat} {F : Nat → Prop} {cl cl' : List Cls} {k b : Int} {ok : Bool} {R : Value → World → Prop} (h : Since W w q F cl) (hp : putQ cl k [b] = ((ok, 0), cl'))
    (hR : ∀ w' F', Since W w' q F' cl' → R (.tuple #[.bool ok, .int .i64 0]) w') : letW (w.alloc (.cells #[.int .u8 b] 5)) fun w1 => Run Try.prog 15 #[.pointer (some ⟨q, 0, none⟩), .int .i64 k, .slice (some (newA w)) 1 1] w1 R := put_gen h hp hR

theorem awake_spec {w : World} : Run Try.prog 11 #[] w fun v w' => v = .bool true ∧ Ext w w' := by
  refine law21_awake.ok (letA fun w1 h1 x1 s1 => ?_)
  have i1 : IInts w1 (some (newA w)) 2 [1, 2] := by
    have : OInts w1 (some (newA w)) 2 [1, 2] := .inr ⟨_, [], rfl, h1, rfl⟩
    exact this.rd rfl
  refine (qnew_spec i1 (by omega)).mono ?_
  rintro v w2 (⟨_, q, F, rfl, ok2, x2, f2⟩ | ⟨hm, _⟩)
  case inr => exact absurd ⟨by decide, by decide, by simp⟩ hm
  have S2 : Since w w2 q F [⟨1, 0, []⟩, ⟨2, 0, []⟩] := ⟨ok2, x1.trans x2, fun k hk => by have := f2 k hk; have := x1.size; omega⟩
  refine ⟨_, _, rfl, ifP_nne rfl (ifP_f rfl ?_)⟩
  refine put_one (ok := true) (cl' := [⟨1, 0, []⟩, ⟨2, 0, [[1]]⟩]) S2 rfl fun w3 F3 S3 => ⟨_, _, rfl, ?_⟩
  refine put_one (ok := true) (cl' := [⟨1, 0, [[2]]⟩, ⟨2, 0, [[1]]⟩]) S3 rfl fun w4 F4 S4 => ⟨_, _, rfl, ?_⟩
  refine put_one (ok := false) (cl' := [⟨1, 1, [[2]]⟩, ⟨2, 0, [[1]]⟩]) S4 rfl fun w5 F5 S5 => ⟨_, _, rfl, ?_⟩
  refine put_one (ok := true) (cl' := [⟨1, 1, [[2]]⟩, ⟨2, 0, [[1], [4]]⟩]) S5 rfl fun w6 F6 S6 => ⟨_, _, rfl, ?_⟩
  refine (lens_spec S6.ok).mono ?_
  rintro v w7 ⟨A7, c7, rfl, o7, l7, b7, x7⟩
  have S7 := S6.more x7
  refine ⟨A7, _, c7, rfl, (take_spec S7.ok).mono ?_⟩
  rintro v w8 (⟨he, _⟩ | ⟨i, x, cl2, A8, m, c8, F8, hf, rfl, ok8, o8, l8, K8, s8, d8⟩)
  · have := he 0 _ rfl
    cases this
  have hi : i = 0 := by
    obtain ⟨C, fr, hC, hfr, he, _⟩ := hf
    cases i with
    | zero => rfl
    | succ i => have := he 0 _ (by omega) rfl; cases this
  subst hi
  obtain ⟨C, fr, hC, hfr, he, rfl⟩ := hf
  obtain rfl := Option.some.inj hC
  have hfr : [[2]] = x :: fr := hfr
  injection hfr with e1 e2
  subst e1 e2
  have S8 : Since w w8 q F8 [⟨1, 1, []⟩, ⟨2, 0, [[1], [4]]⟩] := ⟨ok8, S7.ext.fresh K8 S7.new, fun k hk => S7.new k (s8 k hk)⟩
  have o7' := o7.keep K8 fun k hk hk2 => by have := S6.lt k hk2; have := b7 k hk; omega
  refine ⟨_, _, _, _, _, rfl, ifP_t rfl (ifP_t rfl (ifP_t rfl (ifP_t rfl (letA fun w9 h9 x9 s9 => ?_))))⟩
  have i9 : IInts w9 (some (newA w8)) 2 [1, 2] := by
    have : OInts w9 (some (newA w8)) 2 [1, 2] := .inr ⟨_, [], rfl, h9, rfl⟩
    exact this.rd rfl
  refine (sameInts_spec ((o7'.ext x9).rd l7) i9 (by decide)).mono ?_
  rintro v w10 ⟨rfl, x10⟩
  refine ⟨_, rfl, ifP_t (by decide) (ifP_t rfl (ifP_eq rfl (letA fun w11 h11 x11 s11 => ?_)))⟩
  have i11 : IBytes w11 (some (newA w10)) 1 [2] := (lit_bytes (xs := [2]) h11 rfl).rd rfl
  refine (sameBytes_spec ((((o8.ext x9).ext x10).ext x11).rd l8) i11 (by rw [← l8]; decide)).mono ?_
  rintro v w12 ⟨rfl, x12⟩
  have S12 := (((S8.more x9).more x10).more x11).more x12
  refine ⟨_, rfl, ifP_t (by decide) ((dropped_spec S12.ok).mono ?_)⟩
  rintro v w13 ⟨A13, c13, rfl, o13, l13, b13, x13⟩
  refine ⟨A13, _, c13, rfl, letA fun w14 h14 x14 s14 => ?_⟩
  have i14 : IWords w14 (some (newA w13)) 2 [1, 0] := by
    have : OWords w14 (some (newA w13)) 2 [1, 0] := .inr ⟨_, [], rfl, h14, rfl⟩
    exact this.rd rfl
  refine (sameWords_spec ((o13.ext x14).rd l13) i14 (by decide)).mono ?_
  rintro v w15 ⟨rfl, x15⟩
  have S15 := ((S12.more x13).more x14).more x15
  refine ⟨_, rfl, ifP_t (by decide) ((drain_spec S15.ok (by decide)).mono ?_)⟩
  rintro v w16 ⟨A16, n16, c16, ps, F16, rfl, f16, ok16, K16, s16, d16⟩
  have hlen := f16.length
  have hn : n16 = 2 := hlen.symm
  subst hn
  exact ⟨A16, _, c16, rfl, rfl, S15.ext.fresh K16 S15.new⟩
end Go.Proofs.Ythhfipjmjnfjlaa
