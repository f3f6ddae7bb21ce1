/- The statements over frames: Look, Links, Packets, Plain. -/
import Derived.Test.YthcpkjfccfgiaaaF5
namespace Go.Proofs.Ythcpkjfccfgiaaa
open Go.Rd Go.RowKit
set_option linter.unusedVariables false
set_option linter.unusedSimpArgs false

/-- The call returns true, and what stood stands. -/
def Good (W : World) (v : Value) (w' : World) : Prop := v = .bool true ∧ Fr W w'

def vwR : Ex Vw → Vw
  | .ok v => v
  | .error _ => vw0
def erR : Ex Vw → Int
  | .ok _ => 0
  | .error e => e
theorem ansR (r : Ex Vw) : ansX r = .tuple #[(vwR r).v, .int .i64 (erR r)] := by cases r <;> rfl

theorem At9.rdS {S : World → Prop} {a : Addr} {v : Vw} (h : ∀ u, S u → At9 u a v) {P : Int → Bool → Bool → Bool → Int → Int → Int → Int → Int → Prop} (hp : P v.p v.m v.b v.e v.s v.a v.n v.x v.l) :
    ∃ t0 : Int, (∀ u : World, S u → u.cell? a = some (.int .u32 t0)) ∧ ∃ t1 : Bool, (∀ u : World, S u → u.cell? (a.add 1) = some (.bool t1)) ∧ ∃ t2 : Bool, (∀ u : World, S u → u.cell? (a.add 2) = some (.bool t2)) ∧ ∃ t3 : Bool, (∀ u : World, S u → u.cell? (a.add 3) = some (.bool t3)) ∧
      ∃ t4 : Int, (∀ u : World, S u → u.cell? (a.add 4) = some (.int .u32 t4)) ∧ ∃ t5 : Int, (∀ u : World, S u → u.cell? (a.add 5) = some (.int .i64 t5)) ∧ ∃ t6 : Int, (∀ u : World, S u → u.cell? (a.add 6) = some (.int .i64 t6)) ∧ ∃ t7 : Int, (∀ u : World, S u → u.cell? (a.add 7) = some (.int .i64 t7)) ∧
      ∃ t8 : Int, (∀ u : World, S u → u.cell? (a.add 8) = some (.int .i64 t8)) ∧ P t0 t1 t2 t3 t4 t5 t6 t7 t8 :=
  ⟨_, fun u hu => (h u hu).p, _, fun u hu => (h u hu).m, _, fun u hu => (h u hu).b, _, fun u hu => (h u hu).e, _, fun u hu => (h u hu).s, _, fun u hu => (h u hu).a, _, fun u hu => (h u hu).n, _, fun u hu => (h u hu).x, _, fun u hu => (h u hu).l, hp⟩

/-- A link in its block. -/
def LAt (w : World) (b : Nat) (k : Lnk) : Prop := w.heap[b]? = some (.cells #[.bool k.ac, .bool k.pf, .int .i64 k.mp] 23 (0, 0))
theorem LAt.rd {w : World} {b : Nat} {k : Lnk} (h : LAt w b k) {P : Bool → Bool → Int → Prop} (hp : P k.ac k.pf k.mp) : ∃ t0 : Bool, w.cell? ⟨b, 0, none⟩ = some (.bool t0) ∧ ∃ t1 : Bool, w.cell? ((Addr.mk b 0 none).add 1) = some (.bool t1) ∧ ∃ t2 : Int, w.cell? ((Addr.mk b 0 none).add 2) = some (.int .i64 t2) ∧ P t0 t1 t2 :=
  ⟨_, (cell_of h).trans rfl, _, by rw [add_mk]; exact (cell_of h).trans rfl, _, by rw [add_mk]; exact (cell_of h).trans rfl, hp⟩
theorem LAt.rdS {S : World → Prop} {b : Nat} {k : Lnk} (h : ∀ u, S u → LAt u b k) {P : Bool → Bool → Int → Prop} (hp : P k.ac k.pf k.mp) :
    ∃ t0 : Bool, (∀ u : World, S u → u.cell? ⟨b, 0, none⟩ = some (.bool t0)) ∧ ∃ t1 : Bool, (∀ u : World, S u → u.cell? ((Addr.mk b 0 none).add 1) = some (.bool t1)) ∧ ∃ t2 : Int, (∀ u : World, S u → u.cell? ((Addr.mk b 0 none).add 2) = some (.int .i64 t2)) ∧ P t0 t1 t2 :=
  ⟨_, fun u hu => (cell_of (h u hu)).trans rfl, _, fun u hu => by rw [add_mk]; exact (cell_of (h u hu)).trans rfl, _, fun u hu => by rw [add_mk]; exact (cell_of (h u hu)).trans rfl, hp⟩
/-- A view in its block. -/
def VAt (w : World) (b : Nat) (v : Vw) : Prop := w.heap[b]? = some (.cells v.row.toArray 27 (0, 0))
theorem VAt.at9 {w : World} {b : Nat} {v : Vw} (h : VAt w b v) : At9 w ⟨b, 0, none⟩ v := At9.block h

section
variable {W : World} {A : Option Addr} {n c : Nat} {xs : List Int}

theorem lent_read {w : World} (h : OBytes w A c (xs ++ [201, 201, 201])) (hl : xs.length = n) : IBytes w A n xs := by
  have := (h.cells).take n
  rw [← List.map_take, List.take_left' hl] at this
  exact this.rd hl
theorem lent_cap {w : World} (h : OBytes w A c (xs ++ [201, 201, 201])) (hl : xs.length = n) : n ≤ c := by
  have : n + 3 ≤ c := h.len (n := n + 3) (by omega) (by simp [hl])
  omega
theorem own_cap {w : World} (h : OBytes w A c xs) (hl : xs.length = n) : n ≤ c := by
  by_cases h0 : 0 < n
  · exact Own.len (n := n) (by omega) h (by rw [List.length_map]; omega)
  · omega
/-- Look of bytes of one's own. -/
theorem look_own {w : World} {k : Lnk} (h : OBytes w A c xs) (hl : xs.length = n) (hx : ∀ x ∈ xs, 0 ≤ x ∧ x ≤ 255) :
    Run Try.prog 12 #[.agg #[.bool k.ac, .bool k.pf, .int .i64 k.mp], .slice A n c] w fun v w' => v = ansX (lookX k xs) ∧ Go.Rd.Ext w w' :=
  look_spec (h.rd hl) hx (own_cap h hl) h.lt

theorem FrameLooks_main {k : Lnk} (h : IBytes W A n xs) (hx : ∀ x ∈ xs, 0 ≤ x ∧ x ≤ 255) (hn : n ≤ 140737488351232) :
    Run Try.prog 3 #[.agg #[.bool k.ac, .bool k.pf, .int .i64 k.mp], .slice A n c] W (Good W) := by
  have hl := h.len
  refine law7_FrameLooks.ok (letA fun w1 h1 x1 s1 => LAt.rd (k := k) h1 ((rlook_spec (k := k) (h.ext x1) hx (by omega)).mono ?_))
  rintro v w2 ⟨rfl, x2⟩
  rw [ansR]
  refine ⟨_, _, _, _, _, _, _, _, _, _, rfl, letA fun w3 h3 x3 s3 => st9 h3 rfl (v := vwR (lookX k xs)) fun w4 h4 k4 => ?_⟩
  have f3 : Fr W w3 := Fr.of_ext ((x1.trans x2).trans x3)
  have z2 := (x1.trans x2).size
  have f4 : Fr W w4 := f3.step k4 fun i hi => by rw [hi]; exact z2
  refine (lendBytes_spec (h.fr f4) (by omega)).mono ?_
  rintro v w5 ⟨A5, c5, rfl, o5, b5, x5⟩
  have z12 := x2.size
  have z34 := k4.size
  have hlk5 : LAt w5 W.heap.size k := x5.heap (k4.heap (x3.heap (x2.heap h1)) (by omega))
  refine ⟨_, _, _, rfl, hlk5.rd ((look_spec (k := k) (lent_read o5 hl) hx (lent_cap o5 hl) o5.lt).mono ?_)⟩
  rintro v w6 ⟨rfl, x6⟩
  rw [ansR]
  refine ⟨_, _, _, _, _, _, _, _, _, _, rfl, letA fun w7 h7 x7 s7 => st9 h7 rfl (v := vwR (lookX k xs)) fun w8 h8 k8 => ?_⟩
  have z5 := x5.size
  have z6 := x6.size
  have z8 := k8.size
  have L5 := o5.lt
  have lk8 : LAt w8 W.heap.size k := k8.heap (x7.heap (x6.heap hlk5)) (by omega)
  have v18 : VAt w8 w2.heap.size (vwR (lookX k xs)) := k8.heap (x7.heap (x6.heap (x5.heap h4))) (by omega)
  have f8 : Fr W w8 := (((f4.ext x5).ext x6).ext x7).step k8 fun i hi => by rw [hi]; omega
  have o8 := ((o5.ext x6).ext x7).keep k8 fun i hi hi2 => by have := L5 i hi; omega
  let S : World → Prop := fun u => LAt u W.heap.size k ∧ VAt u w2.heap.size (vwR (lookX k xs)) ∧ VAt u w6.heap.size (vwR (lookX k xs))
  have sx : ∀ {u u' : World}, S u → Go.Rd.Ext u u' → S u' := fun hs x => ⟨x.heap hs.1, x.heap hs.2.1, x.heap hs.2.2⟩
  refine ⟨S, sx ⟨lk8, v18, h8⟩ (Go.Rd.Ext.drew w8), letD fun w9 _ x9 => ?_⟩
  refine (keptBytes_spec (o8.ext x9) (h.fr (f8.ext x9)) (by omega)).mono ?_
  rintro v w10 ⟨rfl, k10⟩
  have s9 := sx ⟨lk8, v18, h8⟩ x9
  have s10 : S w10 := ⟨k10.heap s9.1 (fun hh => by have := b5 _ hh; omega), k10.heap s9.2.1 (fun hh => by have := b5 _ hh; omega), k10.heap s9.2.2 (fun hh => by have := L5 _ hh; omega)⟩
  have f10 : Fr W w10 := (f8.ext x9).blk k10 fun i hi => by have := b5 i hi; omega
  refine ⟨_, rfl, s10, ifP_t rfl (At9.rdS (fun u hu => hu.2.2.at9) (At9.rdS (fun u hu => hu.2.1.at9) ⟨_, w10, view_eql (vwR (lookX k xs)), _, rfl, s10, ifP_t rfl (ifP_t (by simp) (LAt.rdS (fun u hu => hu.1) (LAt.rdS (fun u hu => hu.1) (fcheck_spec.mono ?_))))⟩))⟩
  rintro v w11 ⟨rfl, x11⟩
  refine ⟨_, rfl, sx s10 x11, rcheck_spec.mono ?_⟩
  rintro v w12 ⟨rfl, x12⟩
  refine ⟨_, rfl, ifP_t (by simp) (awake_spec.mono ?_)⟩
  rintro v w13 ⟨rfl, x13⟩
  exact ⟨_, rfl, rfl, ((f10.ext x11).ext x12).ext x13⟩

theorem FramePackets_main {way : Int} (h : IBytes W A n xs) (hx : ∀ x ∈ xs, 0 ≤ x ∧ x ≤ 255) (hn : n ≤ 140737488351232) :
    Run Try.prog 5 #[.int .i64 way, .slice A n c] W (Good W) := by
  have hl := h.len
  have hp : ((packR way xs).getD []).length ≤ 65536 := by
    unfold packR
    split
    · rename_i hh; simp only [Option.getD, List.length_cons]; omega
    · decide
  refine law7_FramePackets.ok ((rpacket_spec h (by omega)).mono ?_)
  rintro v w1 ⟨A1, c1, rfl, o1, l1, b1, x1⟩
  have f1 := Fr.of_ext x1
  refine ⟨_, _, _, rfl, (lendBytes_spec (h.fr f1) (by omega)).mono ?_⟩
  rintro v w2 ⟨A2, c2, rfl, o2, b2, x2⟩
  have f2 := f1.ext x2
  refine ⟨_, _, _, rfl, (packet_spec (lent_read o2 hl) (by omega)).mono ?_⟩
  rintro v w3 ⟨A3, c3, rfl, o3, l3, b3, x3⟩
  have f3 := f2.ext x3
  refine ⟨_, _, _, rfl, (keptBytes_spec (o2.ext x3) (h.fr f3) (by omega)).mono ?_⟩
  rintro v w4 ⟨rfl, k4⟩
  have L1 := o1.lt
  have L2 := o2.lt
  have L3 := o3.lt
  have f4 := f3.blk k4 fun i hi => by have := b2 i hi; have := f1.size; omega
  have o1 := ((o1.ext x2).ext x3).keep k4 fun i hi hi2 => by have := L1 i hi; have := b2 i hi2; omega
  have o3 := o3.keep k4 fun i hi hi2 => by have := b3 i hi; have := L2 i hi2; omega
  refine ⟨_, rfl, ifP_f rfl ((copyBytes_spec (h.fr f4) (by omega)).mono ?_)⟩
  rintro v w5 ⟨A5, c5, rfl, o5, l5, b5, x5⟩
  refine ⟨_, _, _, rfl, (packet_spec (o5.rd l5) (by omega)).mono ?_⟩
  rintro v w6 ⟨A6, c6, rfl, o6, l6, b6, x6⟩
  have f6 := (f4.ext x5).ext x6
  have o1 := (o1.ext x5).ext x6
  have o3 := (o3.ext x5).ext x6
  refine ⟨_, _, _, rfl, (sameBytes_spec (o3.rd l3) (o1.rd l1) (by omega)).mono ?_⟩
  rintro v w7 ⟨rfl, x7⟩
  refine ⟨_, rfl, ifP_f (by simp) ((spoilBytes_spec (o3.ext x7) (by rw [List.length_map]) (by omega)).mono ?_)⟩
  rintro v w8 ⟨rfl, k8⟩
  have z4 := k4.size
  have z5 := x5.size
  have z2 := x2.size
  have f8 := (f6.ext x7).blk k8 fun i hi => by have := b3 i hi; have := f2.size; omega
  have o6 := (o6.ext x7).keep k8 fun i hi hi2 => by have := b6 i hi; have := L3 i hi2; omega
  have o1 := (o1.ext x7).keep k8 fun i hi hi2 => by have := L1 i hi; have := b3 i hi2; omega
  refine ⟨rfl, (sameBytes_spec (o6.rd l6) (o1.rd l1) (by omega)).mono ?_⟩
  rintro v w9 ⟨rfl, x9⟩
  refine ⟨_, rfl, ifP_t (by simp) (awake_spec.mono ?_)⟩
  rintro v w10 ⟨rfl, x10⟩
  exact ⟨_, rfl, rfl, (f8.ext x9).ext x10⟩
end
end Go.Proofs.Ythcpkjfccfgiaaa
