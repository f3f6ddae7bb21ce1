/- The statement ForgeMakes. -/
import Derived.Test.YtjlbegfbdjhhdaaG15
namespace Go.Proofs.Ytjlbegfbdjhhdaa
open Go.Rd Go.RowKit
set_option linter.unusedVariables false
set_option linter.unusedSimpArgs false

theorem make_lent {k : Lnk} {s : Sp} {xs : List Int} {A : Option Addr} {c : Nat} : makeX k (lentS s A c) xs = makeX k s xs := rfl
theorem lent_read {w : World} {A : Option Addr} {n c : Nat} {xs : List Int} (h : OBytes w A c (xs ++ [201, 201, 201])) (hl : xs.length = n) : IBytes w A n xs := by
  have := (h.cells).take n
  rw [← List.map_take, List.take_left' hl] at this
  exact this.rd hl

theorem ForgeMakes_main {W : World} {k : Lnk} {s : Sp} {xs : List Int} (hd : IBytes W s.dA s.dn xs) (hb : s.dn ≤ 140737488351232) (p0 : 0 ≤ s.pr) (p1 : s.pr ≤ 4294967295) : Run Try.prog 3 #[.agg #[.bool k.ac, .bool k.pf, .int .i64 k.mp], s.v] W (Good W) := by
  have hl := hd.len
  have hle : (ysR (makeX k s xs)).length ≤ 65535 := ysR_le
  refine law8_ForgeMakes.ok (letA fun w1 h1 x1 s1 => letA fun w2 h2 x2 s2 => ?_)
  have hk2 : LAt w2 W.heap.size k := x2.heap h1
  have hs2 : SAt w2 w1.heap.size s := h2
  have x02 := x1.trans x2
  refine hk2.rd (hs2.rd ((rmake_spec (hd.ext x02) hb p0 p1).mono ?_))
  intro v w3 hv
  obtain ⟨A3, c3, rfl, o3, b3, x3⟩ := hv.form
  have hs3 := hs2.ext x3
  refine ⟨_, _, _, _, rfl, hs3.rd ((lend_spec (hd.ext (x02.trans x3)) hb).mono ?_)⟩
  rintro v w4 ⟨A4, c4, rfl, o4, b4, x4⟩
  refine ⟨_, _, _, _, _, _, _, _, _, _, _, _, _, _, _, _, _, _, _, _, _, _, _, _, _, _, _, _, _, _, _, _, _, _, _, _, _, _, _, _, _, _, _, _, _, _, rfl, letA fun w5 h5 x5 s5 => SAt.put (s := lentS s A4 c4) h5 fun w6 hs6 k6 => ?_⟩
  have x36 : Ext w3 w6 := (x4.trans x5).fresh k6 fun i hi => by rw [hi]; exact x4.size
  have L4 := o4.lt
  have o6 := (o4.ext x5).keep k6 fun i hi hi2 => by have := L4 i hi; omega
  have hk6 := (hk2.ext x3).ext x36
  refine hk6.rd (hs6.rd ((make_spec (k := k) (s := lentS s A4 c4) (lent_read o6 hl) hb p0 p1).mono ?_))
  intro v w7 hv
  rw [make_lent] at hv
  obtain ⟨A7, c7, rfl, o7, b7, x7⟩ := hv.form
  refine ⟨_, _, _, _, rfl, _, _, _, (hs6.ext x7).at_ 43 rfl, _, _, _, ((hs3.ext x36).ext x7).at_ 43 rfl, (keptBytes_spec (o6.ext x7) (hd.ext (((x02.trans x3).trans x36).trans x7)) (by omega)).mono ?_⟩
  rintro v w8 ⟨rfl, k8⟩
  have z3 := (x02.trans x3).size
  have z36 := x36.size
  have x07 : Ext W w7 := ((x02.trans x3).trans x36).trans x7
  have x08 : Ext W w8 := x07.fresh k8 fun i hi => by have := b4 i hi; omega
  have L3 := o3.lt
  have L7 := o7.lt
  have hk8 : LAt w8 W.heap.size k := k8.heap (hk6.ext x7) (fun hh => by have := b4 _ hh; have := x02.size; have := x3.size; omega)
  have hs8 : SAt w8 w1.heap.size s := k8.heap ((hs3.ext x36).ext x7) (fun hh => by have := b4 _ hh; have := x3.size; omega)
  have o38 := ((o3.ext x36).ext x7).keep k8 fun i hi hi2 => by have := L3 i hi; have := b4 i hi2; omega
  have o78 := o7.keep k8 fun i hi hi2 => by have := b7 i hi; have := L4 i hi2; have := x5.size; have := k6.size; omega
  let S : World → Prop := fun u => LAt u W.heap.size k ∧ SAt u w1.heap.size s
  refine ⟨_, rfl, ifP_f rfl ⟨S, ⟨hk8.ext (Ext.drew w8), hs8.ext (Ext.drew w8)⟩, letD fun w9 _ x9 => LAt.rdS (k := k) (fun u hu => hu.1) (SAt.rdS (s := s) (fun u hu => hu.2) ((lend_spec (hd.ext (x08.trans x9)) hb).mono ?_))⟩⟩
  rintro v w10 ⟨A10, c10, rfl, o10, b10, x10⟩
  have x910 := x9.trans x10
  refine ⟨_, _, _, _, _, _, _, _, _, _, _, _, _, _, _, _, _, _, _, _, _, _, _, _, _, _, _, _, _, _, _, _, _, _, _, _, _, _, _, _, _, _, _, _, _, _, rfl, ⟨hk8.ext x910, hs8.ext x910⟩, (make_spec (k := k) (s := lentS s A10 c10) (lent_read o10 hl) hb p0 p1).mono ?_⟩
  intro v w11 hv
  rw [make_lent] at hv
  obtain ⟨A11, c11, rfl, o11, b11, x11⟩ := hv.form
  have x811 := x910.trans x11
  refine ⟨_, _, _, _, rfl, ifP_nne rfl (ifP_nne rfl ((sameBytes_spec ((o78.ext x811).rd rfl) ((o38.ext x811).rd rfl) (by omega)).mono ?_))⟩
  rintro v w12 ⟨rfl, x12⟩
  have o712 := (o78.ext x811).ext x12
  refine ⟨_, rfl, ifP_f (by simp) ((spoilBytes_spec o712 (by rw [List.length_map]) (by omega)).mono ?_)⟩
  rintro v w13 ⟨rfl, k13⟩
  have x012 := (x08.trans x811).trans x12
  have z8 := k8.size
  have z910 := x910.size
  have x013 : Ext W w13 := x012.fresh k13 fun i hi => by have := b7 i hi; omega
  have o1113 := (o11.ext x12).keep k13 fun i hi hi2 => by have := b11 i hi; have := L7 i hi2; omega
  have o313 := ((o38.ext x811).ext x12).keep k13 fun i hi hi2 => by have := L3 i hi; have := b7 i hi2; omega
  refine ⟨rfl, (sameBytes_spec (o1113.rd rfl) (o313.rd rfl) (by omega)).mono ?_⟩
  rintro v w14 ⟨rfl, x14⟩
  refine ⟨_, rfl, ifP_t (by simp) (gawake_spec.mono ?_)⟩
  rintro v w15 ⟨rfl, x15⟩
  exact ⟨_, rfl, rfl, Fr.of_ext ((x013.trans x14).trans x15)⟩
end Go.Proofs.Ytjlbegfbdjhhdaa
