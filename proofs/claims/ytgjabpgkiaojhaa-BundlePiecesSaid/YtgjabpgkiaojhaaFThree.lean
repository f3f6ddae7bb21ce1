/- Look of one's own copy, in whatever order its parts come (out of F6 and F7, for a seat where the document's Look is not). -/
import Derived.Test.YtgjabpgkiaojhaaFLook3
import Derived.Test.YtgjabpgkiaojhaaM7
namespace Go.Proofs.Ytgjabpgkiaojhaa
open Go.Rd Go.RowKit
set_option linter.unusedVariables false
set_option linter.unusedSimpArgs false

def vwR : Ex Vw → Vw
  | .ok v => v
  | .error _ => vw0
def erV : Ex Vw → Int
  | .ok _ => 0
  | .error e => e
theorem ansV (r : Ex Vw) : ansX r = .tuple #[(vwR r).v, .int .i64 (erV r)] := by cases r <;> rfl

/-- A view in its block. -/
def VAt (w : World) (b : Nat) (v : Vw) : Prop := w.heap[b]? = some (.cells v.row.toArray 54 (0, 0))
theorem VAt.at9 {w : World} {b : Nat} {v : Vw} (h : VAt w b v) : At9 w ⟨b, 0, none⟩ v := At9.block h

section
variable {W : World} {A : Option Addr} {n c : Nat} {xs : List Int}
theorem own_cap3 {w : World} (h : OBytes w A c xs) (hl : xs.length = n) : n ≤ c := by
  by_cases h0 : 0 < n
  · exact Own.len (n := n) (by omega) h (by rw [List.length_map]; omega)
  · omega
/-- Look of bytes of one's own. -/
theorem look_own {w : World} {k : Lnk} (h : OBytes w A c xs) (hl : xs.length = n) (hx : ∀ x ∈ xs, 0 ≤ x ∧ x ≤ 255) :
    Run Try.prog 25 #[.agg #[.bool k.ac, .bool k.pf, .int .i64 k.mp], .slice A n c] w fun v w' => v = ansX (lookX k xs) ∧ Go.Rd.Ext w w' :=
  look_spec (h.rd hl) hx (own_cap3 h hl) h.lt

end
section
variable {k : Lnk} {xs ys : List Int} {S : World → Prop} {J : Addr → Int → World → Prop}

theorem look_one {W w : World} {A : Option Addr} {n c bv : Nat} (hx : ∀ x ∈ xs, 0 ≤ x ∧ x ≤ 255) (ho : OBytes w A c xs) (hl : xs.length = n) (hv : VAt w bv vw0) (hw : W.heap.size ≤ bv) (x : Go.Rd.Ext W w)
    (hJ : ∀ w' b, VAt w' b (vwR (lookX k xs)) → Go.Rd.Ext W w' → J ⟨b, 0, none⟩ (erV (lookX k xs)) w') : Run Try.prog 25 #[.agg #[.bool k.ac, .bool k.pf, .int .i64 k.mp], .slice A n c] w fun v w1 => ∃ t0 : Int, ∃ t1 : Bool, ∃ t2 : Bool, ∃ t3 : Bool, ∃ t4 : Int, ∃ t5 : Int, ∃ t6 : Int, ∃ t7 : Int, ∃ t8 : Int, ∃ e : Int, v = .tuple #[.agg #[.int .u32 t0, .bool t1, .bool t2, .bool t3, .int .u32 t4, .int .i64 t5, .int .i64 t6, .int .i64 t7, .int .i64 t8], .int .i64 e] ∧ storeRow ⟨bv, 0, none⟩ 0 [.int .u32 t0, .bool t1, .bool t2, .bool t3, .int .u32 t4, .int .i64 t5, .int .i64 t6, .int .i64 t7, .int .i64 t8] w1 fun w2 => J ⟨bv, 0, none⟩ e w2 := by
  refine (look_own (k := k) ho hl hx).mono ?_
  rintro v w1 ⟨rfl, x1⟩
  rw [ansV]
  refine ⟨_, _, _, _, _, _, _, _, _, _, rfl, st9 (x1.heap hv) rfl (v := vwR (lookX k xs)) fun w2 h2 k2 => hJ w2 bv h2 ((x.trans x1).fresh k2 fun i hi => by rw [hi]; exact hw)⟩
theorem look_two {W w : World} {A : Option Addr} {n c : Nat} (hS : ∀ u u', S u → Go.Rd.Ext u u' → S u') (s0 : S w) (hx : ∀ x ∈ xs, 0 ≤ x ∧ x ≤ 255) (ho : OBytes w A c xs) (hl : xs.length = n) (x : Go.Rd.Ext W w)
    (hJ : ∀ w' b, VAt w' b (vwR (lookX k xs)) → Go.Rd.Ext W w' → J ⟨b, 0, none⟩ (erV (lookX k xs)) w') : (Run Try.prog 25 #[.agg #[.bool k.ac, .bool k.pf, .int .i64 k.mp], .slice A n c] w fun v w1 => ∃ t0 : Int, ∃ t1 : Bool, ∃ t2 : Bool, ∃ t3 : Bool, ∃ t4 : Int, ∃ t5 : Int, ∃ t6 : Int, ∃ t7 : Int, ∃ t8 : Int, ∃ e : Int, v = .tuple #[.agg #[.int .u32 t0, .bool t1, .bool t2, .bool t3, .int .u32 t4, .int .i64 t5, .int .i64 t6, .int .i64 t7, .int .i64 t8], .int .i64 e] ∧ letW (w1.alloc (.cells #[.int .u32 0, .bool false, .bool false, .bool false, .int .u32 0, .int .i64 0, .int .i64 0, .int .i64 0, .int .i64 0] 54)) fun w2 => storeRow (newA w1) 0 [.int .u32 t0, .bool t1, .bool t2, .bool t3, .int .u32 t4, .int .i64 t5, .int .i64 t6, .int .i64 t7, .int .i64 t8] w2 fun w3 => J (newA w1) e w3) ∧ (letW (w.alloc (.cells #[.int .u32 0, .bool false, .bool false, .bool false, .int .u32 0, .int .i64 0, .int .i64 0, .int .i64 0, .int .i64 0] 54)) fun w4 => S w4 ∧ Run Try.prog 25 #[.agg #[.bool k.ac, .bool k.pf, .int .i64 k.mp], .slice A n c] w4 fun v w1 => ∃ t0 : Int, ∃ t1 : Bool, ∃ t2 : Bool, ∃ t3 : Bool, ∃ t4 : Int, ∃ t5 : Int, ∃ t6 : Int, ∃ t7 : Int, ∃ t8 : Int, ∃ e : Int, v = .tuple #[.agg #[.int .u32 t0, .bool t1, .bool t2, .bool t3, .int .u32 t4, .int .i64 t5, .int .i64 t6, .int .i64 t7, .int .i64 t8], .int .i64 e] ∧ storeRow (newA w) 0 [.int .u32 t0, .bool t1, .bool t2, .bool t3, .int .u32 t4, .int .i64 t5, .int .i64 t6, .int .i64 t7, .int .i64 t8] w1 fun w2 => J (newA w) e w2) := by
  refine ⟨?_, letA fun w4 h4 x4 s4 => ⟨hS _ _ s0 x4, look_one hx (ho.ext x4) hl h4 x.size (x.trans x4) hJ⟩⟩
  refine (look_own (k := k) ho hl hx).mono ?_
  rintro v w1 ⟨rfl, x1⟩
  rw [ansV]
  refine ⟨_, _, _, _, _, _, _, _, _, _, rfl, letA fun w2 h2 x2 s2 => st9 h2 rfl (v := vwR (lookX k xs)) fun w3 h3 k3 => hJ w3 _ h3 (((x.trans x1).trans x2).fresh k3 fun i hi => by rw [hi]; have := (x.trans x1).size; omega)⟩
theorem look_three {w : World} {A : Option Addr} {n c : Nat} (hS : ∀ u u', S u → Go.Rd.Ext u u' → S u') (s0 : S w) (hx : ∀ x ∈ xs, 0 ≤ x ∧ x ≤ 255) (hb : IBytes w A n xs) (hn : n ≤ 140737488351232)
    (hJ : ∀ w' b, VAt w' b (vwR (lookX k xs)) → Go.Rd.Ext w w' → J ⟨b, 0, none⟩ (erV (lookX k xs)) w') : (Run Try.prog 14 #[.slice A n c] w fun v0 w0 => ∃ (A2 : Option Addr) (n2 c2 : Nat), v0 = .slice A2 n2 c2 ∧ S w0 ∧ (Run Try.prog 25 #[.agg #[.bool k.ac, .bool k.pf, .int .i64 k.mp], .slice A2 n2 c2] w0 fun v w1 => ∃ t0 : Int, ∃ t1 : Bool, ∃ t2 : Bool, ∃ t3 : Bool, ∃ t4 : Int, ∃ t5 : Int, ∃ t6 : Int, ∃ t7 : Int, ∃ t8 : Int, ∃ e : Int, v = .tuple #[.agg #[.int .u32 t0, .bool t1, .bool t2, .bool t3, .int .u32 t4, .int .i64 t5, .int .i64 t6, .int .i64 t7, .int .i64 t8], .int .i64 e] ∧ letW (w1.alloc (.cells #[.int .u32 0, .bool false, .bool false, .bool false, .int .u32 0, .int .i64 0, .int .i64 0, .int .i64 0, .int .i64 0] 54)) fun w2 => storeRow (newA w1) 0 [.int .u32 t0, .bool t1, .bool t2, .bool t3, .int .u32 t4, .int .i64 t5, .int .i64 t6, .int .i64 t7, .int .i64 t8] w2 fun w3 => J (newA w1) e w3) ∧ (letW (w0.alloc (.cells #[.int .u32 0, .bool false, .bool false, .bool false, .int .u32 0, .int .i64 0, .int .i64 0, .int .i64 0, .int .i64 0] 54)) fun w4 => S w4 ∧ Run Try.prog 25 #[.agg #[.bool k.ac, .bool k.pf, .int .i64 k.mp], .slice A2 n2 c2] w4 fun v w1 => ∃ t0 : Int, ∃ t1 : Bool, ∃ t2 : Bool, ∃ t3 : Bool, ∃ t4 : Int, ∃ t5 : Int, ∃ t6 : Int, ∃ t7 : Int, ∃ t8 : Int, ∃ e : Int, v = .tuple #[.agg #[.int .u32 t0, .bool t1, .bool t2, .bool t3, .int .u32 t4, .int .i64 t5, .int .i64 t6, .int .i64 t7, .int .i64 t8], .int .i64 e] ∧ storeRow (newA w0) 0 [.int .u32 t0, .bool t1, .bool t2, .bool t3, .int .u32 t4, .int .i64 t5, .int .i64 t6, .int .i64 t7, .int .i64 t8] w1 fun w2 => J (newA w0) e w2)) ∧ (letW (w.alloc (.cells #[.int .u32 0, .bool false, .bool false, .bool false, .int .u32 0, .int .i64 0, .int .i64 0, .int .i64 0, .int .i64 0] 54)) fun w5 => S w5 ∧ Run Try.prog 14 #[.slice A n c] w5 fun v0 w0 => ∃ (A2 : Option Addr) (n2 c2 : Nat), v0 = .slice A2 n2 c2 ∧ S w0 ∧ Run Try.prog 25 #[.agg #[.bool k.ac, .bool k.pf, .int .i64 k.mp], .slice A2 n2 c2] w0 fun v w1 => ∃ t0 : Int, ∃ t1 : Bool, ∃ t2 : Bool, ∃ t3 : Bool, ∃ t4 : Int, ∃ t5 : Int, ∃ t6 : Int, ∃ t7 : Int, ∃ t8 : Int, ∃ e : Int, v = .tuple #[.agg #[.int .u32 t0, .bool t1, .bool t2, .bool t3, .int .u32 t4, .int .i64 t5, .int .i64 t6, .int .i64 t7, .int .i64 t8], .int .i64 e] ∧ storeRow (newA w) 0 [.int .u32 t0, .bool t1, .bool t2, .bool t3, .int .u32 t4, .int .i64 t5, .int .i64 t6, .int .i64 t7, .int .i64 t8] w1 fun w2 => J (newA w) e w2) := by
  refine ⟨(copyBytes_spec hb (by omega)).mono ?_, letA fun w5 h5 x5 s5 => ⟨hS _ _ s0 x5, (copyBytes_spec (hb.ext x5) (by omega)).mono ?_⟩⟩
  · rintro v w1 ⟨A2, c2, rfl, o2, l2, b2, x2⟩
    exact ⟨_, _, _, rfl, hS _ _ s0 x2, look_two hS (hS _ _ s0 x2) hx o2 l2 x2 hJ⟩
  · rintro v w1 ⟨A2, c2, rfl, o2, l2, b2, x2⟩
    exact ⟨_, _, _, rfl, hS _ _ s0 (x5.trans x2), look_one hx o2 l2 (x2.heap h5) (Nat.le_refl _) (x5.trans x2) hJ⟩
end
end Go.Proofs.Ytgjabpgkiaojhaa
