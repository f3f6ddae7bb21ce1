/- Frames: what the walk over a frame tells; its memory. -/
import Derived.Test.YtgjabpgkiaojhaaHBytes
import Derived.Test.YtgjabpgkiaojhaaM7
import Derived.Test.YtgjabpgkiaojhaaNumG
namespace Go.Proofs.Ytgjabpgkiaojhaa
open Go.Rd Go.RowKit
set_option linter.unusedVariables false
set_option linter.unusedSimpArgs false

/-! ## What it is -/

/-- A link: may address and protocol be short; its pieces. -/
structure Lnk where
  ac : Bool
  pf : Bool
  mp : Int
def Lnk.v (k : Lnk) : Value := .agg #[.bool k.ac, .bool k.pf, .int .i64 k.mp]
/-- Where a frame's parts lie. -/
structure Vw where
  p : Int
  m : Bool
  b : Bool
  e : Bool
  s : Int
  a : Int
  n : Int
  x : Int
  l : Int
deriving DecidableEq
def Vw.row (v : Vw) : List Value := [.int .u32 v.p, .bool v.m, .bool v.b, .bool v.e, .int .u32 v.s, .int .i64 v.a, .int .i64 v.n, .int .i64 v.x, .int .i64 v.l]
def Vw.v (v : Vw) : Value := .agg #[.int .u32 v.p, .bool v.m, .bool v.b, .bool v.e, .int .u32 v.s, .int .i64 v.a, .int .i64 v.n, .int .i64 v.x, .int .i64 v.l]
def vw0 : Vw := ⟨0, false, false, false, 0, 0, 0, 0, 0⟩

abbrev Ex (α : Type) := Except Int α
/-- Behind address and control. -/
def plainX (k : Lnk) (xs : List Int) : Ex Int :=
  if 2 ≤ xs.length ∧ xs.getD 0 0 = 255 ∧ xs.getD 1 0 = 3 then .ok 2 else if k.ac = true then .ok 0 else if xs.length < 2 then .error 72 else .error 73
/-- The protocol, and the place behind its field. -/
def protoX (k : Lnk) (xs : List Int) (a : Int) : Ex (Int × Int) :=
  if (xs.length : Int) ≤ a then .error 72 else
  if xs.getD a.toNat 0 % 2 = 1 then (if k.pf = true then .ok (xs.getD a.toNat 0, a + 1) else .error 74) else
  if (xs.length : Int) ≤ a + 1 then .error 72 else
  if xs.getD (a + 1).toNat 0 % 2 = 1 then .ok (256 * xs.getD a.toNat 0 + xs.getD (a + 1).toNat 0, a + 2) else .error 74

def pieceSize (k : Lnk) : Nat := if k.mp = 2 then 4 else 2
def topBit (k : Lnk) : Int := if k.mp = 2 then 2147483648 else 32768
def midBit (k : Lnk) : Int := if k.mp = 2 then 1073741824 else 16384
def seqMask (k : Lnk) : Int := if k.mp = 2 then 16777215 else 4095
/-- A piece's header: first, last, number, the place behind. -/
def headX (k : Lnk) (xs : List Int) (a : Int) : Ex (Bool × Bool × Int × Int) :=
  if (xs.length : Int) < a + pieceSize k then .error 72 else
  let h := getV xs a (pieceSize k)
  if andNotI .u32 h (orI .u32 (orI .u32 (topBit k) (midBit k)) (seqMask k)) = 0 then .ok (andI .u32 h (topBit k) != 0, andI .u32 h (midBit k) != 0, andI .u32 h (seqMask k), a + pieceSize k) else .error 75
/-- The header of IP. -/
def ipX (v : Vw) (xs : List Int) : Ex Vw :=
  let a := v.a
  if v.p = 87 then
    if (xs.length : Int) < a + 40 then .error 72 else if xs.getD a.toNat 0 / 16 = 6 then .ok { v with n := 6, x := xs.getD (a + 6).toNat 0, l := a + 40 } else .error 76
  else
    if (xs.length : Int) < a + 20 then .error 72 else if ¬ (xs.getD a.toNat 0 / 16 = 4 ∧ 5 ≤ xs.getD a.toNat 0 % 16) then .error 76 else
    if (xs.length : Int) < a + 4 * (xs.getD a.toNat 0 % 16) then .error 72 else
    if xs.getD (a + 6).toNat 0 % 32 = 0 ∧ xs.getD (a + 7).toNat 0 = 0 then .ok { v with n := 4, x := xs.getD (a + 9).toNat 0, l := a + 4 * (xs.getD a.toNat 0 % 16) } else .ok { v with n := 4, x := xs.getD (a + 9).toNat 0 }
/-- Up to a piece's header. -/
def pieceX (k : Lnk) (xs : List Int) : Ex Vw :=
  match plainX k xs with
  | .error e => .error e
  | .ok a => match protoX k xs a with
    | .error e => .error e
    | .ok (p, a) => if k.mp = 0 ∨ p ≠ 61 then .ok { vw0 with p := p, a := a } else
      match headX k xs a with
      | .error e => .error e
      | .ok (b, e, s, a) => .ok { vw0 with p := p, m := true, b := b, e := e, s := s, a := a }
/-- The protocol that a first piece says. -/
def innerX (k : Lnk) (xs : List Int) (v : Vw) : Ex Vw :=
  if v.m = true then (if v.b = true then (match protoX k xs v.a with | .error e => .error e | .ok (p, a) => .ok { v with p := p, a := a }) else .ok v) else .ok v
/-- The net's part. -/
def netX (xs : List Int) (v : Vw) : Ex Vw :=
  if v.m = true ∧ v.b = false then .ok v else if v.p = 33 ∨ v.p = 87 then ipX v xs else .ok v
def linkOk (k : Lnk) : Bool := decide (k.mp = 0 ∨ k.mp = 1 ∨ k.mp = 2)
def lookX (k : Lnk) (xs : List Int) : Ex Vw :=
  if linkOk k = false then .error 70 else if 65535 < xs.length then .error 71 else
  match pieceX k xs with
  | .error e => .error e
  | .ok v => match innerX k xs v with
    | .error e => .error e
    | .ok v => netX xs v
/-- An answer with an error. -/
def ansX : Ex Vw → Value
  | .error e => .tuple #[vw0.v, .int .i64 e]
  | .ok v => .tuple #[v.v, .int .i64 0]

/-! ## Nine cells -/

structure At9 (w : World) (q : Addr) (v : Vw) : Prop where
  p : w.cell? q = some (.int .u32 v.p)
  m : w.cell? (q.add 1) = some (.bool v.m)
  b : w.cell? (q.add 2) = some (.bool v.b)
  e : w.cell? (q.add 3) = some (.bool v.e)
  s : w.cell? (q.add 4) = some (.int .u32 v.s)
  a : w.cell? (q.add 5) = some (.int .i64 v.a)
  n : w.cell? (q.add 6) = some (.int .i64 v.n)
  x : w.cell? (q.add 7) = some (.int .i64 v.x)
  l : w.cell? (q.add 8) = some (.int .i64 v.l)
theorem At9.block {w : World} {b : Nat} {v : Vw} {t : TypeId} (h : w.heap[b]? = some (.cells v.row.toArray t (0, 0))) : At9 w ⟨b, 0, none⟩ v :=
  ⟨(cell_of h).trans rfl, by rw [add_mk]; exact (cell_of h).trans rfl, by rw [add_mk]; exact (cell_of h).trans rfl, by rw [add_mk]; exact (cell_of h).trans rfl, by rw [add_mk]; exact (cell_of h).trans rfl,
    by rw [add_mk]; exact (cell_of h).trans rfl, by rw [add_mk]; exact (cell_of h).trans rfl, by rw [add_mk]; exact (cell_of h).trans rfl, by rw [add_mk]; exact (cell_of h).trans rfl⟩
theorem At9.ext {w w' : World} {a : Addr} {v : Vw} (h : At9 w a v) (x : Ext w w') : At9 w' a v := ⟨x.cell h.p, x.cell h.m, x.cell h.b, x.cell h.e, x.cell h.s, x.cell h.a, x.cell h.n, x.cell h.x, x.cell h.l⟩
/-- The nine are read. -/
theorem At9.rd {w : World} {a : Addr} {v : Vw} (h : At9 w a v) {P : Int → Bool → Bool → Bool → Int → Int → Int → Int → Int → Prop} (hp : P v.p v.m v.b v.e v.s v.a v.n v.x v.l) :
    ∃ t0 : Int, w.cell? a = some (.int .u32 t0) ∧ ∃ t1 : Bool, w.cell? (a.add 1) = some (.bool t1) ∧ ∃ t2 : Bool, w.cell? (a.add 2) = some (.bool t2) ∧ ∃ t3 : Bool, w.cell? (a.add 3) = some (.bool t3) ∧
      ∃ t4 : Int, w.cell? (a.add 4) = some (.int .u32 t4) ∧ ∃ t5 : Int, w.cell? (a.add 5) = some (.int .i64 t5) ∧ ∃ t6 : Int, w.cell? (a.add 6) = some (.int .i64 t6) ∧ ∃ t7 : Int, w.cell? (a.add 7) = some (.int .i64 t7) ∧
      ∃ t8 : Int, w.cell? (a.add 8) = some (.int .i64 t8) ∧ P t0 t1 t2 t3 t4 t5 t6 t7 t8 :=
  ⟨_, h.p, _, h.m, _, h.b, _, h.e, _, h.s, _, h.a, _, h.n, _, h.x, _, h.l, hp⟩
/-- The nine are written over. -/
theorem st9 {w : World} {b : Nat} {cs : Array Value} {t : TypeId} (h : w.heap[b]? = some (.cells cs t (0, 0))) (hs : cs.size = 9) {v : Vw} {φ : World → Prop}
    (hφ : ∀ w', w'.heap[b]? = some (.cells v.row.toArray t (0, 0)) → Keep (· = b) w w' → φ w') : storeRow ⟨b, 0, none⟩ 0 v.row w φ := by
  refine storeRow_block h (by rw [hs]; exact Nat.le_refl 9) rfl fun w' hw hk _ => hφ w' ?_ hk
  rw [hw]
  obtain ⟨l⟩ := cs
  have hl : l.length = 9 := hs
  rw [setFrom_all l v.row (by rw [hl]; rfl)]
/-- The nine are written over, and told. -/
theorem tell9 {w : World} {b : Nat} {cs : Array Value} {t : TypeId} (h : w.heap[b]? = some (.cells cs t (0, 0))) (hs : cs.size = 9) {v : Vw} {P : Int → Bool → Bool → Bool → Int → Int → Int → Int → Int → World → Prop}
    (hφ : ∀ w', Keep (· = b) w w' → P v.p v.m v.b v.e v.s v.a v.n v.x v.l w') :
    storeRow ⟨b, 0, none⟩ 0 v.row w fun w' => ∃ t0 : Int, w'.cell? ⟨b, 0, none⟩ = some (.int .u32 t0) ∧ ∃ t1 : Bool, w'.cell? ((Addr.mk b 0 none).add 1) = some (.bool t1) ∧ ∃ t2 : Bool, w'.cell? ((Addr.mk b 0 none).add 2) = some (.bool t2) ∧ ∃ t3 : Bool, w'.cell? ((Addr.mk b 0 none).add 3) = some (.bool t3) ∧
      ∃ t4 : Int, w'.cell? ((Addr.mk b 0 none).add 4) = some (.int .u32 t4) ∧ ∃ t5 : Int, w'.cell? ((Addr.mk b 0 none).add 5) = some (.int .i64 t5) ∧ ∃ t6 : Int, w'.cell? ((Addr.mk b 0 none).add 6) = some (.int .i64 t6) ∧ ∃ t7 : Int, w'.cell? ((Addr.mk b 0 none).add 7) = some (.int .i64 t7) ∧
      ∃ t8 : Int, w'.cell? ((Addr.mk b 0 none).add 8) = some (.int .i64 t8) ∧ P t0 t1 t2 t3 t4 t5 t6 t7 t8 w' :=
  st9 h hs fun w' hw hk => (At9.block hw).rd (hφ w' hk)

/-- One cell is written. -/
theorem cell_put {w : World} {b i : Nat} {cs : Array Value} {t : TypeId} {a : Addr} {v : Value} {φ : World → Prop} (h : w.heap[b]? = some (.cells cs t (0, 0))) (hi : i < cs.size) (ha : a = ⟨b, i, none⟩)
    (hφ : ∀ w', w'.heap[b]? = some (.cells (cs.setIfInBounds i v) t (0, 0)) → Keep (· = b) w w' → φ w') : (∃ u, w.cell? a = some u) ∧ w.frozen? a = false ∧ letW (w.setCell a v) φ := by
  subst ha
  exact ⟨st_cell h hi, frozen_of h, letS h fun w' h' k' _ => hφ w' h' k'⟩

/-! ## Bytes at a place -/

theorem IBytes.get {w : World} {A : Option Addr} {n : Nat} {xs : List Int} (h : IBytes w A n xs) {j : Int} (h0 : 0 ≤ j) (h1 : j < n) : ∃ p, A = some p ∧ w.cell? (p.add (Int.toNat j * 1)) = some (.int .u8 (xs.getD j.toNat 0)) := by
  obtain ⟨a, ha, hc⟩ := Rd.at h (i := j.toNat) (by omega)
  refine ⟨a, ha, ?_⟩
  rw [hc, List.getD_eq_getElem?_getD, List.getElem?_eq_getElem (by rw [h.len]; omega)]
  rfl
theorem getD_byte {xs : List Int} (h : ∀ x ∈ xs, 0 ≤ x ∧ x ≤ 255) (j : Nat) : 0 ≤ xs.getD j 0 ∧ xs.getD j 0 ≤ 255 := by
  rw [List.getD_eq_getElem?_getD]
  cases hj : xs[j]? with
  | none => exact ⟨by decide, by decide⟩
  | some y => exact h y (List.mem_of_getElem? hj)
theorem getV_one {xs : List Int} (h : ∀ x ∈ xs, 0 ≤ x ∧ x ≤ 255) {a : Int} (h0 : 0 ≤ a) (h1 : a < xs.length) : getV xs a 1 = xs.getD a.toNat 0 := by
  obtain ⟨i, rfl⟩ := Int.eq_ofNat_of_zero_le h0
  have hi : i < xs.length := by omega
  have e : xs.drop i = [xs.getD i 0] ++ xs.drop (i + 1) := by
    rw [List.drop_eq_getElem_cons hi, List.getD_eq_getElem?_getD, List.getElem?_eq_getElem hi]; rfl
  rw [getV_at e rfl, be_one (getD_byte h i)]
  rfl
theorem getV_two {xs : List Int} (h : ∀ x ∈ xs, 0 ≤ x ∧ x ≤ 255) {a : Int} (h0 : 0 ≤ a) (h1 : a + 1 < xs.length) : getV xs a 2 = 256 * xs.getD a.toNat 0 + xs.getD (a + 1).toNat 0 := by
  obtain ⟨i, rfl⟩ := Int.eq_ofNat_of_zero_le h0
  have hi : i < xs.length := by omega
  have hj : i + 1 < xs.length := by omega
  have e : xs.drop i = [xs.getD i 0, xs.getD (i + 1) 0] ++ xs.drop (i + 2) := by
    rw [List.drop_eq_getElem_cons hi, List.drop_eq_getElem_cons hj, List.getD_eq_getElem?_getD, List.getD_eq_getElem?_getD, List.getElem?_eq_getElem hi, List.getElem?_eq_getElem hj]; rfl
  rw [getV_at e rfl, be_two (getD_byte h i) (getD_byte h _)]
  rfl
theorem fdiv16 {x : Int} (h : 0 ≤ x) : Int.fdiv x (2 ^ 4) = x / 16 := Int.fdiv_eq_ediv_of_nonneg x (by decide)
theorem and8 (k : Nat) (hk : k ≤ 8) {x : Int} (h0 : 0 ≤ x) (h1 : x ≤ 255) : andI .u8 x ((2 ^ k : Nat) - 1 : Nat) = x % ((2 ^ k : Nat) : Int) := by
  obtain ⟨n, rfl⟩ := Int.eq_ofNat_of_zero_le h0
  have hp : 0 < 2 ^ k := Nat.pow_pos (by omega)
  have h2 : 2 ^ k ≤ 2 ^ 8 := Nat.pow_le_pow_right (by omega) hk
  unfold andI
  have e : (BitVec.ofInt IntKind.u8.bits (n : Int) &&& BitVec.ofInt IntKind.u8.bits (((2 ^ k : Nat) - 1 : Nat) : Int)).toNat = n % 2 ^ k := by
    rw [BitVec.toNat_and, toNat_ofInt, toNat_ofInt, ← Int.natCast_emod, ← Int.natCast_emod, Int.toNat_natCast, Int.toNat_natCast]
    have hb : 2 ^ IntKind.u8.bits = 256 := rfl
    rw [Nat.mod_eq_of_lt (by omega), Nat.mod_eq_of_lt (by omega), Nat.and_two_pow_sub_one_eq_mod]
  have hlt : n % 2 ^ k < 2 ^ k := Nat.mod_lt _ hp
  rw [e, wrap_u8 (by omega) (by omega)]
  exact Int.natCast_emod n (2 ^ k)

/-! ## Ranges -/

theorem protocol_range {k : Lnk} {xs : List Int} (hx : ∀ x ∈ xs, 0 ≤ x ∧ x ≤ 255) {a : Int} {s : Int × Int} (h0 : 0 ≤ a) (h : protoX k xs a = .ok s) : a < s.2 ∧ s.2 ≤ xs.length ∧ 0 ≤ s.1 ∧ s.1 ≤ 65535 := by
  have g0 := getD_byte hx a.toNat
  have g1 := getD_byte hx (a + 1).toNat
  unfold protoX at h
  split at h
  · cases h
  · split at h
    · split at h
      · cases h; simp only; omega
      · cases h
    · split at h
      · cases h
      · split at h
        · cases h; simp only; omega
        · cases h
theorem head_range {k : Lnk} {xs : List Int} {a : Int} {s : Bool × Bool × Int × Int} (h : headX k xs a = .ok s) : a < s.2.2.2 ∧ s.2.2.2 ≤ xs.length := by
  have : 2 ≤ pieceSize k ∧ pieceSize k ≤ 4 := by unfold pieceSize; split <;> omega
  unfold headX at h
  split at h
  · cases h
  · simp only at h
    split at h
    · cases h; simp only; omega
    · cases h

/-- The bits of a header. -/
theorem bits2 : IntKind.u32.wrap (1 * 2 ^ (min (Int.toNat (IntKind.i64.wrap ((IntKind.i64.wrap (8 * 2)) - 1))) (IntKind.bits .u32))) = 32768 := by decide
theorem bits4 : IntKind.u32.wrap (1 * 2 ^ (min (Int.toNat (IntKind.i64.wrap ((IntKind.i64.wrap (8 * 4)) - 1))) (IntKind.bits .u32))) = 2147483648 := by decide
theorem half2 : Int.fdiv 32768 (2 ^ 1) = 16384 := by decide
theorem half4 : Int.fdiv 2147483648 (2 ^ 1) = 1073741824 := by decide

end Go.Proofs.Ytgjabpgkiaojhaa
