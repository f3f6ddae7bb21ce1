/- The statement over Join. -/
import Derived.Test.YthedafjbhnibnaaC5
namespace Go.Proofs.Ythedafjbhnibnaa
open Go.Rd Go.RowKit
set_option linter.unusedVariables false
set_option linter.unusedSimpArgs false

theorem lit_rd {α : Type} {f : α → Value} {w w1 : World} {xs : List α} {xc : Array Value} {t : TypeId} (h : w1.heap[w.heap.size]? = some (.cells xc t (0, 0))) (hx : xc = (xs.map f).toArray) :
    Rd f w1 (some (newA w)) xs.length xs := Rd.block h (by subst hx; intro i x hi; simp [hi])

theorem join_two {w : World} {p q : Part} {P : Option Addr} (h : Rd Part.v w P 2 [p, q]) (hp : IBytes w p.A p.n p.xs) (hq : IBytes w q.A q.n q.xs) (ht : p.n + q.n ≤ 100000000) :
    Run Try.prog 19 #[.slice P 2 2] w fun v w' => NewBytes w w' v (p.n + q.n) (p.xs ++ q.xs) := by
  refine (join_spec h (by omega) (by simp [hp, hq]) (by simp [total]; omega)).mono ?_
  intro v w' hv
  simpa [total, flat] using hv
theorem join_three {w : World} {p q r : Part} {P : Option Addr} (h : Rd Part.v w P 3 [p, q, r]) (hp : IBytes w p.A p.n p.xs) (hq : IBytes w q.A q.n q.xs) (hr : IBytes w r.A r.n r.xs) (ht : p.n + q.n + r.n ≤ 100000000) :
    Run Try.prog 19 #[.slice P 3 3] w fun v w' => NewBytes w w' v (p.n + (q.n + r.n)) (p.xs ++ (q.xs ++ r.xs)) := by
  refine (join_spec h (by omega) (by simp [hp, hq, hr]) (by simp [total]; omega)).mono ?_
  intro v w' hv
  simpa [total, flat] using hv
theorem join_none {w : World} : Run Try.prog 19 #[.slice none 0 0] w fun v w' => NewBytes w w' v 0 [] :=
  (join_spec (ps := []) Rd.nil (by omega) (by simp) (by simp [total])).mono fun v w' hv => hv

theorem WordJoins_main {W : World} {A B C : Option Addr} {an ac bn bc cn cc : Nat} {xa xb xc : List Int} (ha : IBytes W A an xa) (hb : IBytes W B bn xb) (hc : IBytes W C cn xc)
    (h1 : an ≤ 1048576) (h2 : bn ≤ 1048576) (h3 : cn ≤ 1048576) :
    Run Try.prog 6 #[.slice A an ac, .slice B bn bc, .slice C cn cc] W (Good W) := by
  have la := ha.len
  have lb := hb.len
  have lc := hc.len
  refine law1_WordJoins.ok ((copyBytes_spec ha (by omega)).mono ?_)
  rintro v w1 ⟨A1, c1, rfl, o1, l1, b1, x1⟩
  have f1 := (Fr.refl W).ext x1
  obtain ⟨A2, c2, w2, r2, o2, _, k2, n2⟩ := append_own slBytes (ty := 22) (n := an) (d := bc) o1 (by simp [la]) (hb.fr f1).cells (m := bn) (by simp [lb]) (cellsBytes _) (by omega) (by omega)
  have f2 := f1.blk k2 b1
  have b2 : ∀ k, blk A2 k → W.heap.size ≤ k := fun k hk => (n2 k hk).elim (b1 k) fun h => by have := f1.size; omega
  obtain ⟨A3, c3, w3, r3, o3, _, k3, n3⟩ := append_own slBytes (ty := 22) (n := an + bn) (d := cc) o2 (by simp [la, lb]) (hc.fr f2).cells (m := cn) (by simp [lc]) (cellsBytes _) (by omega) (by omega)
  have f3 := f2.blk k3 b2
  have o3 : OBytes w3 A3 c3 (xa ++ (xb ++ xc)) := by
    rw [OBytes, List.map_append, List.map_append, ← List.append_assoc]; exact o3
  refine ⟨A1, _, c1, rfl, _, w2, r2, A2, _, c2, rfl, _, w3, r3, A3, _, c3, rfl, (lendBytes_spec (ha.fr f3) (by omega)).mono ?_⟩
  rintro v w4 ⟨A4, c4, rfl, o4, b4, x4⟩
  have f4 := f3.ext x4
  refine ⟨A4, _, c4, rfl, (lendBytes_spec (hb.fr f4) (by omega)).mono ?_⟩
  rintro v w5 ⟨A5, c5, rfl, o5, b5, x5⟩
  have f5 := f4.ext x5
  refine ⟨A5, _, c5, rfl, (lendBytes_spec (hc.fr f5) (by omega)).mono ?_⟩
  rintro v w6 ⟨A6, c6, rfl, o6, b6, x6⟩
  have f6 := f5.ext x6
  refine ⟨A6, _, c6, rfl, letA fun w7 h7 x7 s7 => ?_⟩
  have f7 := f6.ext x7
  have o4' := ((o4.ext x5).ext x6).ext x7
  have o5' := (o5.ext x6).ext x7
  have o6' := o6.ext x7
  have i7 : Rd Part.v w7 (some (newA w6)) 3 [⟨A4, an, c4, xa⟩, ⟨A5, bn, c5, xb⟩, ⟨A6, cn, c6, xc⟩] := lit_rd h7 rfl
  refine (join_three i7 (lent_reads o4' la) (lent_reads o5' lb) (lent_reads o6' lc) (by show an + bn + cn ≤ _; omega)).mono ?_
  rintro v w8 ⟨A8, c8, rfl, o8, l8, b8, x8⟩
  dsimp only at o8 l8
  have f8 := f7.ext x8
  have L3 := o3.lt
  have L4 := o4.lt
  have L5 := o5.lt
  have L6 := o6.lt
  have s4 := x4.size
  have s5 := x5.size
  have s6 := x6.size
  have S3 := f3.size
  have S4 := f4.size
  refine ⟨A8, _, c8, rfl, (keptBytes_spec (o4'.ext x8) (ha.fr f8) (by omega)).mono ?_⟩
  rintro v w9 ⟨rfl, k9⟩
  have f9 := f8.blk k9 fun k hk => by have := b4 k hk; omega
  have o5' := (o5'.ext x8).keep k9 fun k hk hk2 => by have := b5 k hk; have := L4 k hk2; omega
  have o6' := (o6'.ext x8).keep k9 fun k hk hk2 => by have := b6 k hk; have := L4 k hk2; omega
  have o8' := o8.keep k9 fun k hk hk2 => by have := b8 k hk; have := L4 k hk2; omega
  have o3' := (((((o3.ext x4).ext x5).ext x6).ext x7).ext x8).keep k9 fun k hk hk2 => by have := L3 k hk; have := b4 k hk2; omega
  refine ⟨_, rfl, ifP_f rfl ((keptBytes_spec o5' (hb.fr f9) (by omega)).mono ?_)⟩
  rintro v w10 ⟨rfl, k10⟩
  have f10 := f9.blk k10 fun k hk => by have := b5 k hk; omega
  have o6' := o6'.keep k10 fun k hk hk2 => by have := b6 k hk; have := L5 k hk2; omega
  have o8' := o8'.keep k10 fun k hk hk2 => by have := b8 k hk; have := L5 k hk2; omega
  have o3' := o3'.keep k10 fun k hk hk2 => by have := L3 k hk; have := b5 k hk2; omega
  refine ⟨_, rfl, ifP_f rfl ((keptBytes_spec o6' (hc.fr f10) (by omega)).mono ?_)⟩
  rintro v w11 ⟨rfl, k11⟩
  have f11 := f10.blk k11 fun k hk => by have := b6 k hk; omega
  have o8' := o8'.keep k11 fun k hk hk2 => by have := b8 k hk; have := L6 k hk2; omega
  have o3' := o3'.keep k11 fun k hk hk2 => by have := L3 k hk; have := b6 k hk2; omega
  have l3 : (xa ++ (xb ++ xc)).length = an + bn + cn := by simp [la, lb, lc]; omega
  refine ⟨_, rfl, ifP_f rfl ((sameBytes_spec (o8'.rd l8) (o3'.rd l3) (by omega)).mono ?_)⟩
  rintro v w12 ⟨rfl, x12⟩
  have f12 := f11.ext x12
  have o8' := o8'.ext x12
  have o3' := o3'.ext x12
  refine ⟨_, rfl, ifP_f (by simp) ((copyBytes_spec (ha.fr f12) (by omega)).mono ?_)⟩
  rintro v w13 ⟨A13, c13, rfl, o13, l13, b13, x13⟩
  have f13 := f12.ext x13
  refine ⟨A13, _, c13, rfl, (copyBytes_spec (hb.fr f13) (by omega)).mono ?_⟩
  rintro v w14 ⟨A14, c14, rfl, o14, l14, b14, x14⟩
  have f14 := f13.ext x14
  refine ⟨A14, _, c14, rfl, letA fun w15 h15 x15 s15 => ?_⟩
  have f15 := f14.ext x15
  have i15 : Rd Part.v w15 (some (newA w14)) 2 [⟨A13, an, c13, xa⟩, ⟨A14, bn, c14, xb⟩] := lit_rd h15 rfl
  refine (join_two i15 (((o13.ext x14).ext x15).rd l13) ((o14.ext x15).rd l14) (by show an + bn ≤ _; omega)).mono ?_
  rintro v w16 ⟨A16, c16, rfl, o16, l16, b16, x16⟩
  dsimp only at o16 l16
  have f16 := f15.ext x16
  refine ⟨A16, _, c16, rfl, (copyBytes_spec (hc.fr f16) (by omega)).mono ?_⟩
  rintro v w17 ⟨A17, c17, rfl, o17, l17, b17, x17⟩
  have f17 := f16.ext x17
  refine ⟨A17, _, c17, rfl, letA fun w18 h18 x18 s18 => ?_⟩
  have f18 := f17.ext x18
  have i18 : Rd Part.v w18 (some (newA w17)) 2 [⟨A16, an + bn, c16, xa ++ xb⟩, ⟨A17, cn, c17, xc⟩] := lit_rd h18 rfl
  refine (join_two i18 (((o16.ext x17).ext x18).rd l16) ((o17.ext x18).rd l17) (by show an + bn + cn ≤ _; omega)).mono ?_
  rintro v w19 ⟨A19, c19, rfl, o19, l19, b19, x19⟩
  dsimp only at o19 l19
  have f19 := f18.ext x19
  refine ⟨A19, _, c19, rfl, (copyBytes_spec (ha.fr f19) (by omega)).mono ?_⟩
  rintro v w20 ⟨A20, c20, rfl, o20, l20, b20, x20⟩
  have f20 := f19.ext x20
  refine ⟨A20, _, c20, rfl, join_none.mono ?_⟩
  rintro v w21 ⟨A21, c21, rfl, o21, l21, b21, x21⟩
  have f21 := f20.ext x21
  refine ⟨A21, _, c21, rfl, (copyBytes_spec (hb.fr f21) (by omega)).mono ?_⟩
  rintro v w22 ⟨A22, c22, rfl, o22, l22, b22, x22⟩
  have f22 := f21.ext x22
  refine ⟨A22, _, c22, rfl, (copyBytes_spec (hc.fr f22) (by omega)).mono ?_⟩
  rintro v w23 ⟨A23, c23, rfl, o23, l23, b23, x23⟩
  have f23 := f22.ext x23
  refine ⟨A23, _, c23, rfl, letA fun w24 h24 x24 s24 => ?_⟩
  have f24 := f23.ext x24
  have i24 : Rd Part.v w24 (some (newA w23)) 2 [⟨A22, bn, c22, xb⟩, ⟨A23, cn, c23, xc⟩] := lit_rd h24 rfl
  refine (join_two i24 (((o22.ext x23).ext x24).rd l22) ((o23.ext x24).rd l23) (by show bn + cn ≤ _; omega)).mono ?_
  rintro v w25 ⟨A25, c25, rfl, o25, l25, b25, x25⟩
  dsimp only at o25 l25
  have f25 := f24.ext x25
  refine ⟨A25, _, c25, rfl, letA fun w26 h26 x26 s26 => ?_⟩
  have f26 := f25.ext x26
  have x2126 := (((x22.trans x23).trans x24).trans x25).trans x26
  have i26 : Rd Part.v w26 (some (newA w25)) 3 [⟨A20, an, c20, xa⟩, ⟨A21, 0, c21, []⟩, ⟨A25, bn + cn, c25, xb ++ xc⟩] := lit_rd h26 rfl
  refine (join_three i26 (((o20.ext x21).ext x2126).rd l20) ((o21.ext x2126).rd l21) ((o25.ext x26).rd l25) (by show an + 0 + (bn + cn) ≤ _; omega)).mono ?_
  rintro v w27 ⟨A27, c27, rfl, o27, l27, b27, x27⟩
  dsimp only at o27 l27
  have f27 := f26.ext x27
  have x1319 := ((((x13.trans x14).trans x15).trans x16).trans x17).trans (x18.trans x19)
  have x1927 := ((x20.trans x21).trans x2126).trans x27
  have o8' := (o8'.ext x1319).ext x1927
  have o3' := (o3'.ext x1319).ext x1927
  have o19' := o19.ext x1927
  refine ⟨A27, _, c27, rfl, (spoilBytes_spec (n := an + (bn + cn)) o8' (by rw [List.length_map, l8]) (by omega)).mono ?_⟩
  rintro v w28 ⟨rfl, k28⟩
  have L8 := o8.lt
  have s1 : w8.heap.size ≤ w12.heap.size := by have := k9.size; have := k10.size; have := k11.size; have := x12.size; omega
  have s2 : w12.heap.size ≤ w18.heap.size := by have := x13.size; have := x14.size; have := x15.size; have := x16.size; have := x17.size; have := x18.size; omega
  have s3 : w18.heap.size ≤ w26.heap.size := by have := x19.size; have := x20.size; have := x21.size; have := x2126.size; omega
  have f28 := f27.blk k28 fun k hk => by have := b8 k hk; have := f7.size; omega
  have o19' := o19'.keep k28 fun k hk hk2 => by have := b19 k hk; have := L8 k hk2; omega
  have o27' := o27.keep k28 fun k hk hk2 => by have := b27 k hk; have := L8 k hk2; omega
  have o3' := o3'.keep k28 fun k hk hk2 => by have := L3 k hk; have := b8 k hk2; have := x7.size; omega
  refine ⟨rfl, (sameBytes_spec (o19'.rd l19) (o3'.rd l3) (by omega)).mono ?_⟩
  rintro v w29 ⟨rfl, x29⟩
  have f29 := f28.ext x29
  refine ⟨_, rfl, ifP_t (by simp) ((sameBytes_spec ((o27'.ext x29).rd l27) ((o3'.ext x29).rd l3) (by omega)).mono ?_)⟩
  rintro v w30 ⟨rfl, x30⟩
  have f30 := f29.ext x30
  refine ⟨_, rfl, ifP_t (by simp) (join_none.mono ?_)⟩
  rintro v w31 ⟨A31, c31, rfl, o31, l31, b31, x31⟩
  refine ⟨A31, _, c31, rfl, ifP_eq (by simp) (awake_spec.mono ?_)⟩
  rintro v w32 ⟨rfl, x32⟩
  exact ⟨_, rfl, rfl, (f30.ext x31).ext x32⟩
end Go.Proofs.Ythedafjbhnibnaa
