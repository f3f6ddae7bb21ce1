/- Package vm: what instructions do, in plain words; the words of a run in a block. -/
import Derived.Test.YtbchjihecdkfeaaCK3
import Derived.Test.YtbchjihecdkfeaaWRGet
import Derived.Test.YtbchjihecdkfeaaRByX
import Derived.Test.YtbchjihecdkfeaaFDefV
namespace Go.Proofs.Ytbchjihecdkfeaa
open Go.Rd Go.RowKit
set_option linter.unusedVariables false
set_option linter.unusedSimpArgs false

/-! ## Words -/

def U (x : Int) : Prop := 0 ≤ x ∧ x ≤ 4294967295
theorem U.wrap (x : Int) : U (IntKind.u32.wrap x) := by rw [wrap_u32_mod]; unfold U; omega
theorem U.orI (x y : Int) : U (orI .u32 x y) := U.wrap _
theorem U.andI (x y : Int) : U (andI .u32 x y) := U.wrap _
theorem U.xorI (x y : Int) : U (xorI .u32 x y) := U.wrap _
theorem be_U : ∀ (xs : List Int) (v : Int), U v → U (be v xs)
  | [], v, h => h
  | b :: xs, v, h => be_U xs _ (U.orI _ _)
theorem getV_U (xs : List Int) (a s : Int) : U (getV xs a s) := be_U _ 0 ⟨by decide, by decide⟩

def wd (ws : List Int) (i : Nat) : Int := ws.getD i 0
structure Wok (ws : List Int) : Prop where
  len : ws.length = 18
  u : ∀ x ∈ ws, U x
theorem Wok.wd {ws : List Int} (h : Wok ws) (i : Nat) : U (wd ws i) := by
  unfold Go.Proofs.Ytbchjihecdkfeaa.wd
  rw [List.getD_eq_getElem?_getD]
  cases hi : ws[i]? with
  | none => exact ⟨by decide, by decide⟩
  | some y => exact h.u y (List.mem_of_getElem? hi)
theorem Wok.set {ws : List Int} (h : Wok ws) (i : Nat) {v : Int} (hv : U v) : Wok (ws.set i v) := by
  refine ⟨by rw [List.length_set]; exact h.len, fun x hx => ?_⟩
  rcases List.mem_or_eq_of_mem_set hx with h1 | h1
  · exact h.u x h1
  · rw [h1]; exact hv
def ws0 : List Int := List.replicate 18 0
theorem ws0_ok : Wok ws0 := ⟨rfl, fun x hx => by have := List.eq_of_mem_replicate hx; subst this; exact ⟨by decide, by decide⟩⟩

/-! ## One instruction -/

def loadX (pkt : List Int) (a s : Int) : Option Int := if fitsB pkt.length a s = true then some (getV pkt a s) else none
def opOf (c : Int) : Int := andNotI .u16 c 8
def aluX (c a b : Int) : Option Int :=
  if opOf c = 4 then some (IntKind.u32.wrap (a + b)) else if opOf c = 20 then some (IntKind.u32.wrap (a - b)) else if opOf c = 36 then some (IntKind.u32.wrap (a * b)) else
  if opOf c = 68 then some (orI .u32 a b) else if opOf c = 84 then some (andI .u32 a b) else if opOf c = 164 then some (xorI .u32 a b) else
  if opOf c = 100 then some (IntKind.u32.wrap (a * 2 ^ (min (Int.toNat b) (IntKind.bits .u32)))) else if opOf c = 116 then some (Int.fdiv a (2 ^ (min (Int.toNat b) (IntKind.bits .u32)))) else
  if b = 0 then none else if opOf c = 52 then some (IntKind.u32.wrap (Int.tdiv a b)) else some (Int.tmod a b)
theorem aluX_U {c a b v : Int} (ha : U a) (hb : U b) (h : aluX c a b = some v) : U v := by
  unfold U at ha hb
  unfold aluX at h
  split at h
  · obtain rfl := Option.some.inj h; exact U.wrap _
  · split at h
    · obtain rfl := Option.some.inj h; exact U.wrap _
    · split at h
      · obtain rfl := Option.some.inj h; exact U.wrap _
      · split at h
        · obtain rfl := Option.some.inj h; exact U.orI _ _
        · split at h
          · obtain rfl := Option.some.inj h; exact U.andI _ _
          · split at h
            · obtain rfl := Option.some.inj h; exact U.xorI _ _
            · split at h
              · obtain rfl := Option.some.inj h; exact U.wrap _
              · split at h
                · obtain rfl := Option.some.inj h
                  have hp : (0 : Int) < 2 ^ (min (Int.toNat b) (IntKind.bits .u32)) := Int.pow_pos (by decide)
                  rw [Int.fdiv_eq_ediv_of_nonneg a (Int.le_of_lt hp)]
                  have h1 := Int.ediv_nonneg ha.1 (Int.le_of_lt hp)
                  have h2 := Int.ediv_le_self (2 ^ (min (Int.toNat b) (IntKind.bits .u32))) ha.1
                  exact ⟨h1, by omega⟩
                · split at h
                  · cases h
                  · split at h
                    · obtain rfl := Option.some.inj h; exact U.wrap _
                    · obtain rfl := Option.some.inj h
                      rename_i hb0 _
                      rw [Int.tmod_eq_emod_of_nonneg ha.1]
                      have h1 := Int.emod_nonneg a hb0
                      have h2 := Int.emod_lt_of_pos a (show 0 < b by omega)
                      exact ⟨h1, by omega⟩
/-- The right side. -/
def rightX (i : Ins) (ws : List Int) : Int := if andI .u16 i.c 8 ≠ 0 then wd ws 1 else i.k
def ldA (ws : List Int) : Option Int → Int × List Int
  | some v => (0, ws.set 0 v)
  | none => (1, ws)
/-- What an instruction that goes straight on does: its fault, and the words. -/
def stepX (pkt : List Int) (i : Ins) (ws : List Int) : Int × List Int :=
  if i.c = 0 then (0, ws.set 0 i.k) else if i.c = 32 then ldA ws (loadX pkt i.k 4) else if i.c = 40 then ldA ws (loadX pkt i.k 2) else if i.c = 48 then ldA ws (loadX pkt i.k 1) else
  if i.c = 64 then ldA ws (loadX pkt (wd ws 1 + i.k) 4) else if i.c = 72 then ldA ws (loadX pkt (wd ws 1 + i.k) 2) else if i.c = 80 then ldA ws (loadX pkt (wd ws 1 + i.k) 1) else
  if i.c = 96 then (0, ws.set 0 (wd ws (2 + i.k.toNat))) else if i.c = 128 then (0, ws.set 0 pkt.length) else if i.c = 1 then (0, ws.set 1 i.k) else if i.c = 97 then (0, ws.set 1 (wd ws (2 + i.k.toNat))) else
  if i.c = 129 then (0, ws.set 1 pkt.length) else if i.c = 177 then (match loadX pkt i.k 1 with | some v => (0, ws.set 1 (IntKind.u32.wrap (4 * andI .u32 v 15))) | none => (1, ws)) else
  if i.c = 2 then (0, ws.set (2 + i.k.toNat) (wd ws 0)) else if i.c = 3 then (0, ws.set (2 + i.k.toNat) (wd ws 1)) else if i.c = 132 then (0, ws.set 0 (IntKind.u32.wrap (0 - wd ws 0))) else
  if i.c = 7 then (0, ws.set 1 (wd ws 0)) else if i.c = 135 then (0, ws.set 0 (wd ws 1)) else
  match aluX i.c (wd ws 0) (rightX i ws) with | some v => (0, ws.set 0 v) | none => (2, ws)
/-- A jump's question. -/
def askX (c a b : Int) : Bool := if opOf c = 21 then a == b else if opOf c = 37 then decide (a > b) else if opOf c = 53 then decide (a ≥ b) else andI .u32 a b != 0
/-- One instruction: the end with a value and a fault, or the next place. -/
def nextX (pkt : List Int) (i : Ins) (a : Nat) (ws : List Int) : (Int × Int) ⊕ (Nat × List Int) :=
  if classOf i.c = 6 then .inl (if i.c = 22 then wd ws 0 else i.k, 0)
  else if classOf i.c = 5 then .inr (if i.c = 5 then a + 1 + i.k.toNat else if askX i.c (wd ws 0) (rightX i ws) = true then a + 1 + i.t.toNat else a + 1 + i.f.toNat, ws)
  else if (stepX pkt i ws).1 ≠ 0 then .inl (0, (stepX pkt i ws).1) else .inr (a + 1, (stepX pkt i ws).2)
/-- A run: what it tells, its fault; the places. -/
def runX (xs : List Ins) (pkt : List Int) : Nat → Nat → List Int → (Int × Int) × List Nat
  | 0, _, _ => ((0, 0), [])
  | n + 1, a, ws => match xs[a]? with
    | none => ((0, 0), [])
    | some i => match nextX pkt i a ws with
      | .inl r => (r, [a])
      | .inr (a', ws') => ((runX xs pkt n a' ws').1, a :: (runX xs pkt n a' ws').2)
def codeV (xs : List Ins) (pkt : List Int) : Int := if (checkV xs).2 ≠ 0 then 50 else if 65536 < pkt.length then 51 else 0
def runV (xs : List Ins) (pkt : List Int) : (Int × Int) × List Nat := runX xs pkt xs.length 0 ws0

theorem stepX_ok {pkt : List Int} {i : Ins} {ws : List Int} (hi : i.ok) (hw : Wok ws) (hp : pkt.length ≤ 65536) : Wok (stepX pkt i ws).2 := by
  have hk : U i.k := hi.2.2.2
  have hl : U (pkt.length : Int) := ⟨by omega, by omega⟩
  have la : ∀ a s, Wok (ldA ws (loadX pkt a s)).2 := by
    intro a s
    unfold loadX
    split
    · exact hw.set 0 (getV_U _ _ _)
    · exact hw
  unfold stepX
  by_cases h : i.c = 0
  · rw [if_pos h]
    exact hw.set 0 hk
  rw [if_neg h]
  clear h
  by_cases h : i.c = 32
  · rw [if_pos h]
    exact la _ _
  rw [if_neg h]
  clear h
  by_cases h : i.c = 40
  · rw [if_pos h]
    exact la _ _
  rw [if_neg h]
  clear h
  by_cases h : i.c = 48
  · rw [if_pos h]
    exact la _ _
  rw [if_neg h]
  clear h
  by_cases h : i.c = 64
  · rw [if_pos h]
    exact la _ _
  rw [if_neg h]
  clear h
  by_cases h : i.c = 72
  · rw [if_pos h]
    exact la _ _
  rw [if_neg h]
  clear h
  by_cases h : i.c = 80
  · rw [if_pos h]
    exact la _ _
  rw [if_neg h]
  clear h
  by_cases h : i.c = 96
  · rw [if_pos h]
    exact hw.set 0 (hw.wd _)
  rw [if_neg h]
  clear h
  by_cases h : i.c = 128
  · rw [if_pos h]
    exact hw.set 0 hl
  rw [if_neg h]
  clear h
  by_cases h : i.c = 1
  · rw [if_pos h]
    exact hw.set 1 hk
  rw [if_neg h]
  clear h
  by_cases h : i.c = 97
  · rw [if_pos h]
    exact hw.set 1 (hw.wd _)
  rw [if_neg h]
  clear h
  by_cases h : i.c = 129
  · rw [if_pos h]
    exact hw.set 1 hl
  rw [if_neg h]
  clear h
  by_cases h : i.c = 177
  · rw [if_pos h]
    cases loadX pkt i.k 1 with
    | some v => exact hw.set 1 (U.wrap _)
    | none => exact hw
  rw [if_neg h]
  clear h
  by_cases h : i.c = 2
  · rw [if_pos h]
    exact hw.set _ (hw.wd _)
  rw [if_neg h]
  clear h
  by_cases h : i.c = 3
  · rw [if_pos h]
    exact hw.set _ (hw.wd _)
  rw [if_neg h]
  clear h
  by_cases h : i.c = 132
  · rw [if_pos h]
    exact hw.set 0 (U.wrap _)
  rw [if_neg h]
  clear h
  by_cases h : i.c = 7
  · rw [if_pos h]
    exact hw.set 1 (hw.wd _)
  rw [if_neg h]
  clear h
  by_cases h : i.c = 135
  · rw [if_pos h]
    exact hw.set 0 (hw.wd _)
  rw [if_neg h]
  clear h
  have hr : U (rightX i ws) := by
    unfold rightX
    split
    · exact hw.wd _
    · exact hk
  cases h : aluX i.c (wd ws 0) (rightX i ws) with
  | some v => exact hw.set 0 (aluX_U (hw.wd 0) hr h)
  | none => exact hw

/-! ## The block of a run -/

theorem words_get {ws : List Int} {tl : List Value} {i : Nat} (hl : ws.length = 18) (hi : i < 18) : (ws.map (Value.int .u32) ++ tl)[i]? = some (.int .u32 (wd ws i)) := by
  rw [List.getElem?_append_left (by rw [List.length_map]; omega), List.getElem?_map, wd, List.getD_eq_getElem?_getD, List.getElem?_eq_getElem (by omega)]
  rfl
theorem words_set {ws : List Int} {tl : List Value} {i : Nat} {v : Int} (hl : ws.length = 18) (hi : i < 18) : (ws.map (Value.int .u32) ++ tl).toArray.setIfInBounds i (.int .u32 v) = ((ws.set i v).map (Value.int .u32) ++ tl).toArray := by
  rw [List.setIfInBounds_toArray, List.set_append_left _ _ (by rw [List.length_map]; omega), ← List.map_set]
theorem tail_set {ws : List Int} {tl : List Value} {i : Nat} {v : Value} (hl : ws.length = 18) : (ws.map (Value.int .u32) ++ tl).toArray.setIfInBounds (18 + i) v = (ws.map (Value.int .u32) ++ tl.set i v).toArray := by
  rw [List.setIfInBounds_toArray, List.set_append_right _ _ (by rw [List.length_map]; omega), List.length_map, hl, Nat.add_sub_cancel_left]
/-- The words in a block, with something behind. -/
structure WsAt (w : World) (b : Nat) (ws : List Int) (tl : List Value) (t : TypeId) : Prop where
  cell : w.heap[b]? = some (.cells (ws.map (Value.int .u32) ++ tl).toArray t (0, 0))
  ok : Wok ws
section
variable {w w' : World} {b : Nat} {ws : List Int} {tl : List Value} {t : TypeId}
theorem WsAt.ext (h : WsAt w b ws tl t) (x : Go.Rd.Ext w w') : WsAt w' b ws tl t := ⟨x.heap h.cell, h.ok⟩
theorem WsAt.keep {X : Nat → Prop} (h : WsAt w b ws tl t) (k : Keep X w w') (hb : ¬ X b) : WsAt w' b ws tl t := ⟨k.heap h.cell hb, h.ok⟩
theorem WsAt.size (h : WsAt w b ws tl t) : (ws.map (Value.int .u32) ++ tl).toArray.size = 18 + tl.length := by simp [h.ok.len]
theorem WsAt.get (h : WsAt w b ws tl t) {i : Nat} (hi : i < 18) {a : Addr} (ha : a = ⟨b, i, none⟩) : w.cell? a = some (.int .u32 (wd ws i)) := by
  subst ha
  rw [cell_of h.cell, List.getElem?_toArray]
  exact words_get h.ok.len hi
theorem WsAt.tail (h : WsAt w b ws tl t) {i : Nat} {v : Value} (hv : tl[i]? = some v) {a : Addr} (ha : a = ⟨b, 18 + i, none⟩) : w.cell? a = some v := by
  subst ha
  rw [cell_of h.cell, List.getElem?_toArray, List.getElem?_append_right (by rw [List.length_map, h.ok.len]; omega), List.length_map, h.ok.len, Nat.add_sub_cancel_left]
  exact hv
theorem WsAt.put (h : WsAt w b ws tl t) {i : Nat} (hi : i < 18) {v : Int} (hv : U v) {a : Addr} (ha : a = ⟨b, i, none⟩) {φ : World → Prop} (hφ : ∀ w', WsAt w' b (ws.set i v) tl t → Keep (· = b) w w' → φ w') :
    (∃ x, w.cell? a = some x) ∧ w.frozen? a = false ∧ letW (w.setCell a (.int .u32 v)) φ :=
  cell_put h.cell (by rw [h.size]; omega) ha fun w' h' k' => hφ w' ⟨by rw [h', words_set h.ok.len hi], h.ok.set i hv⟩ k'
theorem WsAt.putT (h : WsAt w b ws tl t) {i : Nat} (hi : i < tl.length) {v : Value} {a : Addr} (ha : a = ⟨b, 18 + i, none⟩) {φ : World → Prop} (hφ : ∀ w', WsAt w' b ws (tl.set i v) t → Keep (· = b) w w' → φ w') :
    (∃ x, w.cell? a = some x) ∧ w.frozen? a = false ∧ letW (w.setCell a v) φ :=
  cell_put h.cell (by rw [h.size]; omega) ha fun w' h' k' => hφ w' ⟨by rw [h', tail_set h.ok.len], h.ok⟩ k'
end
/-- An instruction in its block. -/
def IAt (w : World) (b : Nat) (i : Ins) : Prop := w.heap[b]? = some (.cells i.v.toArray 47 (0, 0))
section
variable {w w' : World} {b : Nat} {i : Ins} {S : World → Prop}
theorem IAt.ext (h : IAt w b i) (x : Go.Rd.Ext w w') : IAt w' b i := x.heap h
theorem IAt.c0 (h : IAt w b i) : w.cell? ⟨b, 0, none⟩ = some (.int .u16 i.c) := (cell_of h).trans rfl
theorem IAt.c1 (h : IAt w b i) : w.cell? ((Addr.mk b 0 none).add 1) = some (.int .u8 i.t) := by rw [add_mk]; exact (cell_of h).trans rfl
theorem IAt.c2 (h : IAt w b i) : w.cell? ((Addr.mk b 0 none).add 2) = some (.int .u8 i.f) := by rw [add_mk]; exact (cell_of h).trans rfl
theorem IAt.c3 (h : IAt w b i) : w.cell? ((Addr.mk b 0 none).add 3) = some (.int .u32 i.k) := by rw [add_mk]; exact (cell_of h).trans rfl
theorem IAt.rd (h : IAt w b i) {P : Int → Int → Int → Int → Prop} (hp : P i.c i.t i.f i.k) : ∃ t0 : Int, w.cell? ⟨b, 0, none⟩ = some (.int .u16 t0) ∧ ∃ t1 : Int, w.cell? ((Addr.mk b 0 none).add 1) = some (.int .u8 t1) ∧ ∃ t2 : Int, w.cell? ((Addr.mk b 0 none).add 2) = some (.int .u8 t2) ∧ ∃ t3 : Int, w.cell? ((Addr.mk b 0 none).add 3) = some (.int .u32 t3) ∧ P t0 t1 t2 t3 :=
  ⟨_, h.c0, _, h.c1, _, h.c2, _, h.c3, hp⟩
theorem IAt.rdS (h : ∀ u, S u → IAt u b i) {P : Int → Int → Int → Int → Prop} (hp : P i.c i.t i.f i.k) : ∃ t0 : Int, (∀ u : World, S u → u.cell? ⟨b, 0, none⟩ = some (.int .u16 t0)) ∧ ∃ t1 : Int, (∀ u : World, S u → u.cell? ((Addr.mk b 0 none).add 1) = some (.int .u8 t1)) ∧ ∃ t2 : Int, (∀ u : World, S u → u.cell? ((Addr.mk b 0 none).add 2) = some (.int .u8 t2)) ∧ ∃ t3 : Int, (∀ u : World, S u → u.cell? ((Addr.mk b 0 none).add 3) = some (.int .u32 t3)) ∧ P t0 t1 t2 t3 :=
  ⟨_, fun u hu => (h u hu).c0, _, fun u hu => (h u hu).c1, _, fun u hu => (h u hu).c2, _, fun u hu => (h u hu).c3, hp⟩
end
end Go.Proofs.Ytbchjihecdkfeaa

namespace Go.Proofs.Ytbchjihecdkfeaa
open Go.Rd Go.RowKit
set_option linter.unusedVariables false
set_option linter.unusedSimpArgs false

def tlR (P : Option Addr) (pn pc : Nat) (f : Int) (rs : List Value) : List Value := .slice P pn pc :: .int .i64 f :: rs
abbrev RAtG (w : World) (b : Nat) (ws : List Int) (P : Option Addr) (pn pc : Nat) (f : Int) (rs : List Value) (ty : TypeId) : Prop := WsAt w b ws (tlR P pn pc f rs) ty
/-- An instruction was carried out. -/
def DidG (w : World) (b : Nat) (r : Int × List Int) (P : Option Addr) (pn pc : Nat) (rs : List Value) (ty : TypeId) (u : Value) (w' : World) : Prop := u = .tuple #[] ∧ RAtG w' b r.2 P pn pc r.1 rs ty ∧ Keep (· = b) w w'
section
variable {w w1 w2 : World} {b : Nat} {ws : List Int} {P : Option Addr} {pn pc : Nat} {rs : List Value} {ty : TypeId} {pkt : List Int} {i : Ins}
theorem DidG.of {r : Int × List Int} (x : Go.Rd.Ext w w1) {ws' : List Int} {f : Int} (hr : r = (f, ws')) (h : RAtG w2 b ws' P pn pc f rs ty) (k : Keep (· = b) w1 w2) : DidG w b r P pn pc rs ty (.tuple #[]) w2 := by
  subst hr
  exact ⟨rfl, h, (Keep.ext x).trans' k⟩
theorem mload_spec (h : RAtG w b ws P pn pc 0 rs ty) (hp : IBytes w P pn pkt) (hc : pn ≤ pc) (hn : pn ≤ 65536) {at_ s : Int} (h0 : 0 ≤ at_) (h1 : at_ ≤ 8589934592) :
    Run Try.prog 117 #[.pointer (some ⟨b, 0, none⟩), .int .u64 at_, .int .i64 s] w fun u w' => (match loadX pkt at_ s with | some x => u = .tuple #[.int .u32 x, .bool true] ∧ w' = w | none => u = .tuple #[.int .u32 0, .bool false] ∧ RAtG w' b ws P pn pc 1 rs ty ∧ Keep (· = b) w w') := by
  have hl := hp.len
  have cp : w.cell? ((Addr.mk b 0 none).add 18) = some (.slice P pn pc) := by rw [add_mk]; exact h.tail (i := 0) rfl rfl
  have no : loadX pkt at_ s = none → machine_Machine_load.J0 (fun u w' => (match loadX pkt at_ s with | some x => u = .tuple #[.int .u32 x, .bool true] ∧ w' = w | none => u = .tuple #[.int .u32 0, .bool false] ∧ RAtG w' b ws P pn pc 1 rs ty ∧ Keep (· = b) w w')) (some ⟨b, 0, none⟩) 0 false w := by
    intro hno
    refine ifP_t rfl ⟨_, rfl, h.putT (i := 1) (show 1 < rs.length + 1 + 1 by omega) (by rw [add_mk]) fun w1 h1 k1 => ?_⟩
    unfold machine_Machine_load.J1
    rw [hno]
    exact ⟨rfl, h1, k1⟩
  refine machine_Machine_load.ok ⟨_, rfl, _, _, _, cp, ifP_decide.2 ⟨fun hlt => ⟨_, rfl, _, _, _, cp, ?_⟩, fun hlt => no ?_⟩⟩
  · rw [wrap_u64 (by omega) (by omega)] at hlt
    rw [wrap_i64 (by omega) (by omega)]
    refine (get_spec hp hc (by omega)).mono ?_
    rintro u w1 ⟨rfl, rfl⟩
    by_cases hf : fitsB pn at_ s = true
    · rw [if_pos hf]
      refine ⟨_, _, rfl, ifP_f rfl ?_⟩
      unfold machine_Machine_load.J1
      rw [loadX, hl, if_pos hf]
      exact ⟨rfl, rfl⟩
    · rw [if_neg hf]
      exact ⟨_, _, rfl, no (by rw [loadX, hl, if_neg hf])⟩
  · rw [wrap_u64 (by omega) (by omega)] at hlt
    rw [loadX, hl, if_neg]
    intro hf
    obtain ⟨h2, h3, h4⟩ := fitsB_iff.1 hf
    omega
theorem minto_spec (h : RAtG w b ws P pn pc 0 rs ty) (hp : IBytes w P pn pkt) (hc : pn ≤ pc) (hn : pn ≤ 65536) {at_ s : Int} (h0 : 0 ≤ at_) (h1 : at_ ≤ 8589934592) :
    Run Try.prog 116 #[.pointer (some ⟨b, 0, none⟩), .int .u64 at_, .int .i64 s] w (DidG w b (ldA ws (loadX pkt at_ s)) P pn pc rs ty) := by
  refine machine_Machine_into.ok ((mload_spec h hp hc hn h0 h1).mono ?_)
  intro u w1 hu
  have hU : ∀ x, loadX pkt at_ s = some x → U x := fun x hx => by
    unfold loadX at hx
    split at hx
    · obtain rfl := Option.some.inj hx; exact getV_U _ _ _
    · cases hx
  cases hx : loadX pkt at_ s with
  | some x =>
    rw [hx] at hu
    obtain ⟨rfl, rfl⟩ := hu
    exact ⟨_, _, rfl, ifP_t rfl ⟨_, rfl, h.put (i := 0) (by decide) (hU x hx) rfl fun w2 h2 k2 => ⟨rfl, h2, k2⟩⟩⟩
  | none =>
    rw [hx] at hu
    obtain ⟨rfl, h2, k2⟩ := hu
    exact ⟨_, _, rfl, ifP_f rfl ⟨rfl, h2, k2⟩⟩

abbrev ArgM (b : Nat) (i : Ins) : Array Value := #[.pointer (some ⟨b, 0, none⟩), .agg #[.int .u16 i.c, .int .u8 i.t, .int .u8 i.f, .int .u32 i.k]]
/-- What a method of the machine meets. -/
structure RnG (w : World) (b : Nat) (ws : List Int) (P : Option Addr) (pn pc : Nat) (rs : List Value) (ty : TypeId) (pkt : List Int) (i : Ins) : Prop where
  h : RAtG w b ws P pn pc 0 rs ty
  hp : IBytes w P pn pkt
  hc : pn ≤ pc
  hn : pn ≤ 65536
  hi : i.ok
theorem at2' {k : Int} : ((Addr.mk b 0 none).add 2).add (Int.toNat k * 1) = ⟨b, 2 + k.toNat, none⟩ := by
  rw [add_mk, add_mk, Nat.zero_add, Nat.mul_one]
theorem into_did {s at_ : Int} (h : RAtG w b ws P pn pc 0 rs ty) (hp : IBytes w P pn pkt) (hc : pn ≤ pc) (hn : pn ≤ 65536) (x : Go.Rd.Ext w w1) (h0 : 0 ≤ at_) (h1 : at_ ≤ 8589934592) (hr : stepX pkt i ws = ldA ws (loadX pkt at_ s)) {R : Value → World → Prop} (hR : ∀ w2, DidG w b (stepX pkt i ws) P pn pc rs ty (.tuple #[]) w2 → R (.tuple #[]) w2) :
    Run Try.prog 116 #[.pointer (some ⟨b, 0, none⟩), .int .u64 at_, .int .i64 s] w1 fun v w_3 => v = (.tuple #[]) ∧ R (.tuple #[]) w_3 := by
  refine (minto_spec (h.ext x) (hp.ext x) hc hn h0 h1).mono ?_
  rintro u w2 ⟨rfl, h2, k2⟩
  refine ⟨rfl, hR w2 ?_⟩
  rw [hr]
  exact ⟨rfl, h2, (Keep.ext x).trans' k2⟩
theorem ind_sum (h : RAtG w b ws P pn pc 0 rs ty) (hi : i.ok) : IntKind.u64.wrap (IntKind.u64.wrap (wd ws 1) + IntKind.u64.wrap i.k) = wd ws 1 + i.k ∧ 0 ≤ wd ws 1 + i.k ∧ wd ws 1 + i.k ≤ 8589934592 := by
  have k0 : U i.k := hi.2.2.2
  have x0 := h.ok.wd 1
  unfold U at k0 x0
  rw [wrap_u64 (x := wd ws 1) (by omega) (by omega), wrap_u64 (x := i.k) (by omega) (by omega), wrap_u64 (by omega) (by omega)]
  omega
theorem ldImm_spec (r : RnG w b ws P pn pc rs ty pkt i) (hcode : i.c = 0) : Run Try.prog 78 (ArgM b i) w (DidG w b (stepX pkt i ws) P pn pc rs ty) := by
  obtain ⟨h, hp, hc, hn, hi⟩ := r
  refine machine_Machine_ldImm.ok (letA fun w1 h1 x1 s1 => ⟨_, IAt.c3 h1, _, rfl, (h.ext x1).put (i := 0) (by decide) hi.2.2.2 rfl fun w2 h2 k2 => DidG.of x1 (by unfold stepX; rw [if_pos hcode]) h2 k2⟩)
theorem ldxImm_spec (r : RnG w b ws P pn pc rs ty pkt i) (hcode : i.c = 1) : Run Try.prog 87 (ArgM b i) w (DidG w b (stepX pkt i ws) P pn pc rs ty) := by
  obtain ⟨h, hp, hc, hn, hi⟩ := r
  refine machine_Machine_ldxImm.ok (letA fun w1 h1 x1 s1 => ⟨_, IAt.c3 h1, _, rfl, (h.ext x1).put (i := 1) (by decide) hi.2.2.2 (by rw [add_mk]) fun w2 h2 k2 => DidG.of x1 (by unfold stepX; simp only [hcode]; rfl) h2 k2⟩)
theorem neg_spec (r : RnG w b ws P pn pc rs ty pkt i) (hcode : i.c = 132) : Run Try.prog 93 (ArgM b i) w (DidG w b (stepX pkt i ws) P pn pc rs ty) := by
  obtain ⟨h, hp, hc, hn, hi⟩ := r
  refine machine_Machine_neg.ok (letA fun w1 h1 x1 s1 => ⟨_, rfl, _, (h.ext x1).get (i := 0) (by decide) rfl, _, rfl, (h.ext x1).put (i := 0) (by decide) (U.wrap _) rfl fun w2 h2 k2 => DidG.of x1 (by unfold stepX; simp only [hcode]; rfl) h2 k2⟩)
theorem tax_spec (r : RnG w b ws P pn pc rs ty pkt i) (hcode : i.c = 7) : Run Try.prog 94 (ArgM b i) w (DidG w b (stepX pkt i ws) P pn pc rs ty) := by
  obtain ⟨h, hp, hc, hn, hi⟩ := r
  refine machine_Machine_tax.ok (letA fun w1 h1 x1 s1 => ⟨_, rfl, _, (h.ext x1).get (i := 0) (by decide) rfl, _, rfl, (h.ext x1).put (i := 1) (by decide) (h.ok.wd 0) (by rw [add_mk]) fun w2 h2 k2 => DidG.of x1 (by unfold stepX; simp only [hcode]; rfl) h2 k2⟩)
theorem txa_spec (r : RnG w b ws P pn pc rs ty pkt i) (hcode : i.c = 135) : Run Try.prog 95 (ArgM b i) w (DidG w b (stepX pkt i ws) P pn pc rs ty) := by
  obtain ⟨h, hp, hc, hn, hi⟩ := r
  refine machine_Machine_txa.ok (letA fun w1 h1 x1 s1 => ⟨_, rfl, _, (h.ext x1).get (i := 1) (by decide) (by rw [add_mk]), _, rfl, (h.ext x1).put (i := 0) (by decide) (h.ok.wd 1) rfl fun w2 h2 k2 => DidG.of x1 (by unfold stepX; simp only [hcode]; rfl) h2 k2⟩)
theorem ldMem_spec (r : RnG w b ws P pn pc rs ty pkt i) (hcode : i.c = 96) (hk : i.k < 16) : Run Try.prog 85 (ArgM b i) w (DidG w b (stepX pkt i ws) P pn pc rs ty) := by
  obtain ⟨h, hp, hc, hn, hi⟩ := r
  have k0 : U i.k := hi.2.2.2
  refine machine_Machine_ldMem.ok (letA fun w1 h1 x1 s1 => ⟨fun u => RAtG u b ws P pn pc 0 rs ty ∧ IAt u w.heap.size i, ⟨(h.ext x1).ext (Go.Rd.Ext.drew w1), IAt.ext h1 (Go.Rd.Ext.drew w1)⟩, letD fun w2 _ x2 => ⟨_, fun u hu => hu.2.c3, _, rfl, k0.1, hk, _, fun u hu => hu.1.get (i := 2 + i.k.toNat) (by have := k0.1; omega) at2', _, rfl, ((h.ext x1).ext x2).put (i := 0) (by decide) (h.ok.wd _) rfl fun w3 h3 k3 => DidG.of (x1.trans x2) (by unfold stepX; simp only [hcode]; rfl) h3 k3⟩⟩)
theorem ldxMem_spec (r : RnG w b ws P pn pc rs ty pkt i) (hcode : i.c = 97) (hk : i.k < 16) : Run Try.prog 88 (ArgM b i) w (DidG w b (stepX pkt i ws) P pn pc rs ty) := by
  obtain ⟨h, hp, hc, hn, hi⟩ := r
  have k0 : U i.k := hi.2.2.2
  refine machine_Machine_ldxMem.ok (letA fun w1 h1 x1 s1 => ⟨fun u => RAtG u b ws P pn pc 0 rs ty ∧ IAt u w.heap.size i, ⟨(h.ext x1).ext (Go.Rd.Ext.drew w1), IAt.ext h1 (Go.Rd.Ext.drew w1)⟩, letD fun w2 _ x2 => ⟨_, fun u hu => hu.2.c3, _, rfl, k0.1, hk, _, fun u hu => hu.1.get (i := 2 + i.k.toNat) (by have := k0.1; omega) at2', _, rfl, ((h.ext x1).ext x2).put (i := 1) (by decide) (h.ok.wd _) (by rw [add_mk]) fun w3 h3 k3 => DidG.of (x1.trans x2) (by unfold stepX; simp only [hcode]; rfl) h3 k3⟩⟩)
theorem st_spec (r : RnG w b ws P pn pc rs ty pkt i) (hcode : i.c = 2) (hk : i.k < 16) : Run Try.prog 91 (ArgM b i) w (DidG w b (stepX pkt i ws) P pn pc rs ty) := by
  obtain ⟨h, hp, hc, hn, hi⟩ := r
  have k0 : U i.k := hi.2.2.2
  refine machine_Machine_st.ok (letA fun w1 h1 x1 s1 => ⟨fun u => RAtG u b ws P pn pc 0 rs ty ∧ IAt u w.heap.size i, ⟨(h.ext x1).ext (Go.Rd.Ext.drew w1), IAt.ext h1 (Go.Rd.Ext.drew w1)⟩, letD fun w2 _ x2 => ⟨_, fun u hu => hu.2.c3, _, rfl, _, fun u hu => hu.1.get (i := 0) (by decide) rfl, _, rfl, k0.1, hk, ((h.ext x1).ext x2).put (i := 2 + i.k.toNat) (by have := k0.1; omega) (h.ok.wd _) at2' fun w3 h3 k3 => DidG.of (x1.trans x2) (by unfold stepX; simp only [hcode]; rfl) h3 k3⟩⟩)
theorem stx_spec (r : RnG w b ws P pn pc rs ty pkt i) (hcode : i.c = 3) (hk : i.k < 16) : Run Try.prog 92 (ArgM b i) w (DidG w b (stepX pkt i ws) P pn pc rs ty) := by
  obtain ⟨h, hp, hc, hn, hi⟩ := r
  have k0 : U i.k := hi.2.2.2
  refine machine_Machine_stx.ok (letA fun w1 h1 x1 s1 => ⟨fun u => RAtG u b ws P pn pc 0 rs ty ∧ IAt u w.heap.size i, ⟨(h.ext x1).ext (Go.Rd.Ext.drew w1), IAt.ext h1 (Go.Rd.Ext.drew w1)⟩, letD fun w2 _ x2 => ⟨_, fun u hu => hu.2.c3, _, rfl, _, fun u hu => hu.1.get (i := 1) (by decide) (by rw [add_mk]), _, rfl, k0.1, hk, ((h.ext x1).ext x2).put (i := 2 + i.k.toNat) (by have := k0.1; omega) (h.ok.wd _) at2' fun w3 h3 k3 => DidG.of (x1.trans x2) (by unfold stepX; simp only [hcode]; rfl) h3 k3⟩⟩)
theorem ldLen_spec (r : RnG w b ws P pn pc rs ty pkt i) (hcode : i.c = 128) : Run Try.prog 86 (ArgM b i) w (DidG w b (stepX pkt i ws) P pn pc rs ty) := by
  obtain ⟨h, hp, hc, hn, hi⟩ := r
  have hl := hp.len
  have ew : IntKind.u32.wrap ((pn : Nat) : Int) = (pkt.length : Int) := by rw [hl]; exact wrap_u32 (by omega) (by omega)
  refine machine_Machine_ldLen.ok (letA fun w1 h1 x1 s1 => ?_)
  have cp : w1.cell? ((Addr.mk b 0 none).add 18) = some (.slice P pn pc) := by rw [add_mk]; exact (h.ext x1).tail (i := 0) rfl rfl
  rw [← hl] at cp
  first
    | (refine ⟨_, rfl, _, _, _, cp, _, rfl, ?_⟩
       rw [hl, ew]
       exact (h.ext x1).put (i := 0) (by decide) ⟨by omega, by omega⟩ rfl fun w2 h2 k2 => DidG.of x1 (by unfold stepX; simp only [hcode]; rfl) h2 k2)
theorem ldxLen_spec (r : RnG w b ws P pn pc rs ty pkt i) (hcode : i.c = 129) : Run Try.prog 89 (ArgM b i) w (DidG w b (stepX pkt i ws) P pn pc rs ty) := by
  obtain ⟨h, hp, hc, hn, hi⟩ := r
  have hl := hp.len
  have ew : IntKind.u32.wrap ((pn : Nat) : Int) = (pkt.length : Int) := by rw [hl]; exact wrap_u32 (by omega) (by omega)
  refine machine_Machine_ldxLen.ok (letA fun w1 h1 x1 s1 => ?_)
  have cp : w1.cell? ((Addr.mk b 0 none).add 18) = some (.slice P pn pc) := by rw [add_mk]; exact (h.ext x1).tail (i := 0) rfl rfl
  rw [← hl] at cp
  refine ⟨_, rfl, _, _, _, cp, _, rfl, ?_⟩
  rw [hl, ew]
  exact (h.ext x1).put (i := 1) (by decide) ⟨by omega, by omega⟩ (by rw [add_mk]) fun w2 h2 k2 => DidG.of x1 (by unfold stepX; simp only [hcode]; rfl) h2 k2
theorem ldAbsW_spec (r : RnG w b ws P pn pc rs ty pkt i) (hcode : i.c = 32) : Run Try.prog 79 (ArgM b i) w (DidG w b (stepX pkt i ws) P pn pc rs ty) := by
  obtain ⟨h, hp, hc, hn, hi⟩ := r
  have k0 : U i.k := hi.2.2.2
  refine machine_Machine_ldAbsW.ok (letA fun w1 h1 x1 s1 => ⟨_, IAt.c3 h1, ?_⟩)
  rw [wrap_u64 k0.1 (by have := k0.2; omega)]
  exact into_did h hp hc hn x1 k0.1 (by have := k0.2; omega) (by unfold stepX; simp only [hcode]; rfl) fun _ h => h
theorem ldAbsH_spec (r : RnG w b ws P pn pc rs ty pkt i) (hcode : i.c = 40) : Run Try.prog 80 (ArgM b i) w (DidG w b (stepX pkt i ws) P pn pc rs ty) := by
  obtain ⟨h, hp, hc, hn, hi⟩ := r
  have k0 : U i.k := hi.2.2.2
  refine machine_Machine_ldAbsH.ok (letA fun w1 h1 x1 s1 => ⟨_, IAt.c3 h1, ?_⟩)
  rw [wrap_u64 k0.1 (by have := k0.2; omega)]
  exact into_did h hp hc hn x1 k0.1 (by have := k0.2; omega) (by unfold stepX; simp only [hcode]; rfl) fun _ h => h
theorem ldAbsB_spec (r : RnG w b ws P pn pc rs ty pkt i) (hcode : i.c = 48) : Run Try.prog 81 (ArgM b i) w (DidG w b (stepX pkt i ws) P pn pc rs ty) := by
  obtain ⟨h, hp, hc, hn, hi⟩ := r
  have k0 : U i.k := hi.2.2.2
  refine machine_Machine_ldAbsB.ok (letA fun w1 h1 x1 s1 => ⟨_, IAt.c3 h1, ?_⟩)
  rw [wrap_u64 k0.1 (by have := k0.2; omega)]
  exact into_did h hp hc hn x1 k0.1 (by have := k0.2; omega) (by unfold stepX; simp only [hcode]; rfl) fun _ h => h
theorem ldIndW_spec (r : RnG w b ws P pn pc rs ty pkt i) (hcode : i.c = 64) : Run Try.prog 82 (ArgM b i) w (DidG w b (stepX pkt i ws) P pn pc rs ty) := by
  obtain ⟨h, hp, hc, hn, hi⟩ := r
  obtain ⟨s1, s2, s3⟩ := ind_sum h hi
  refine machine_Machine_ldIndW.ok (letA fun w1 h1 x1 _ => ⟨fun u => RAtG u b ws P pn pc 0 rs ty ∧ IAt u w.heap.size i, ⟨(h.ext x1).ext (Go.Rd.Ext.drew w1), IAt.ext h1 (Go.Rd.Ext.drew w1)⟩, letD fun w2 _ x2 => ⟨_, rfl, _, fun u hu => hu.1.get (i := 1) (by decide) (by rw [add_mk]), _, fun u hu => hu.2.c3, ?_⟩⟩)
  rw [s1]
  exact into_did h hp hc hn (x1.trans x2) s2 s3 (by unfold stepX; simp only [hcode]; rfl) fun _ h => h
theorem ldIndH_spec (r : RnG w b ws P pn pc rs ty pkt i) (hcode : i.c = 72) : Run Try.prog 83 (ArgM b i) w (DidG w b (stepX pkt i ws) P pn pc rs ty) := by
  obtain ⟨h, hp, hc, hn, hi⟩ := r
  obtain ⟨s1, s2, s3⟩ := ind_sum h hi
  refine machine_Machine_ldIndH.ok (letA fun w1 h1 x1 _ => ⟨fun u => RAtG u b ws P pn pc 0 rs ty ∧ IAt u w.heap.size i, ⟨(h.ext x1).ext (Go.Rd.Ext.drew w1), IAt.ext h1 (Go.Rd.Ext.drew w1)⟩, letD fun w2 _ x2 => ⟨_, rfl, _, fun u hu => hu.1.get (i := 1) (by decide) (by rw [add_mk]), _, fun u hu => hu.2.c3, ?_⟩⟩)
  rw [s1]
  exact into_did h hp hc hn (x1.trans x2) s2 s3 (by unfold stepX; simp only [hcode]; rfl) fun _ h => h
theorem ldIndB_spec (r : RnG w b ws P pn pc rs ty pkt i) (hcode : i.c = 80) : Run Try.prog 84 (ArgM b i) w (DidG w b (stepX pkt i ws) P pn pc rs ty) := by
  obtain ⟨h, hp, hc, hn, hi⟩ := r
  obtain ⟨s1, s2, s3⟩ := ind_sum h hi
  refine machine_Machine_ldIndB.ok (letA fun w1 h1 x1 _ => ⟨fun u => RAtG u b ws P pn pc 0 rs ty ∧ IAt u w.heap.size i, ⟨(h.ext x1).ext (Go.Rd.Ext.drew w1), IAt.ext h1 (Go.Rd.Ext.drew w1)⟩, letD fun w2 _ x2 => ⟨_, rfl, _, fun u hu => hu.1.get (i := 1) (by decide) (by rw [add_mk]), _, fun u hu => hu.2.c3, ?_⟩⟩)
  rw [s1]
  exact into_did h hp hc hn (x1.trans x2) s2 s3 (by unfold stepX; simp only [hcode]; rfl) fun _ h => h
theorem ldxMsh_spec (r : RnG w b ws P pn pc rs ty pkt i) (hcode : i.c = 177) : Run Try.prog 90 (ArgM b i) w (DidG w b (stepX pkt i ws) P pn pc rs ty) := by
  obtain ⟨h, hp, hc, hn, hi⟩ := r
  have k0 : U i.k := hi.2.2.2
  have es : stepX pkt i ws = (match loadX pkt i.k 1 with | some v => (0, ws.set 1 (IntKind.u32.wrap (4 * andI .u32 v 15))) | none => (1, ws)) := by unfold stepX; simp only [hcode]; rfl
  refine machine_Machine_ldxMsh.ok (letA fun w1 h1 x1 s1 => ⟨_, IAt.c3 h1, ?_⟩)
  rw [wrap_u64 k0.1 (by have := k0.2; omega)]
  refine (mload_spec (h.ext x1) (hp.ext x1) hc hn k0.1 (by have := k0.2; omega)).mono ?_
  intro u w2 hu
  cases hx : loadX pkt i.k 1 with
  | some x =>
    rw [hx] at hu es
    obtain ⟨rfl, rfl⟩ := hu
    exact ⟨_, _, rfl, ifP_t rfl ⟨_, rfl, (h.ext x1).put (i := 1) (by decide) (U.wrap _) (by rw [add_mk]) fun w3 h3 k3 => DidG.of x1 es h3 k3⟩⟩
  | none =>
    rw [hx] at hu es
    obtain ⟨rfl, h2, k2⟩ := hu
    exact ⟨_, _, rfl, ifP_f rfl (DidG.of x1 es h2 k2)⟩
end
end Go.Proofs.Ytbchjihecdkfeaa

namespace Go.Proofs.Ytbchjihecdkfeaa
open Go.Rd Go.RowKit
set_option linter.unusedVariables false
set_option linter.unusedSimpArgs false
set_option maxRecDepth 100000

section
variable {w w1 w2 : World} {b : Nat} {ws : List Int} {P : Option Addr} {pn pc : Nat} {rs : List Value} {ty : TypeId} {pkt : List Int} {i : Ins} {tl : List Value}
theorem right_spec (h : WsAt w b ws tl ty) : Run Try.prog 119 (ArgM b i) w fun u w' => u = .int .u32 (rightX i ws) ∧ Go.Rd.Ext w w' := by
  refine machine_Words_Right.ok (letA fun w1 h1 x1 s1 => ⟨_, IAt.c0 h1, ifP_bne.2 ⟨fun h8 => ⟨_, rfl, _, (h.ext x1).get (i := 1) (by decide) (by rw [add_mk]), ?_, x1⟩, fun h8 => ⟨_, IAt.c3 h1, ?_, x1⟩⟩⟩)
  · rw [rightX, if_pos h8]
  · rw [rightX, if_neg (fun h => h h8)]
theorem reckon_spec {c x y : Int} (hy : 0 ≤ y) : Run Try.prog 118 #[.int .u16 c, .int .u32 x, .int .u32 y] w fun u w' => u = (match aluX c x y with | some z => .tuple #[.int .u32 z, .bool true] | none => .tuple #[.int .u32 0, .bool false]) ∧ w' = w := by
  refine machine_Reckon.ok (ifP_beq.2 ⟨fun h => ⟨?_, rfl⟩, fun h1 => ifP_beq.2 ⟨fun h => ⟨?_, rfl⟩, fun h2 => ifP_beq.2 ⟨fun h => ⟨?_, rfl⟩, fun h3 => ifP_beq.2 ⟨fun h => ⟨?_, rfl⟩, fun h4 => ifP_beq.2 ⟨fun h => ⟨?_, rfl⟩, fun h5 => ifP_beq.2 ⟨fun h => ⟨?_, rfl⟩, fun h6 => ifP_beq.2 ⟨fun h => ⟨hy, ?_, rfl⟩, fun h7 => ifP_beq.2 ⟨fun h => ⟨hy, ?_, rfl⟩, fun h8 => ifP_beq.2 ⟨fun h => ⟨?_, rfl⟩, fun h9 => ifP_beq.2 ⟨fun h => ⟨h9, ?_, rfl⟩, fun h10 => ⟨h9, ?_, rfl⟩⟩⟩⟩⟩⟩⟩⟩⟩⟩⟩)
  · rw [aluX, if_pos (show opOf c = 4 from h)]
  · rw [aluX, if_neg (show ¬ opOf c = 4 from h1), if_pos (show opOf c = 20 from h)]
  · rw [aluX, if_neg (show ¬ opOf c = 4 from h1), if_neg (show ¬ opOf c = 20 from h2), if_pos (show opOf c = 36 from h)]
  · rw [aluX, if_neg (show ¬ opOf c = 4 from h1), if_neg (show ¬ opOf c = 20 from h2), if_neg (show ¬ opOf c = 36 from h3), if_pos (show opOf c = 68 from h)]
  · rw [aluX, if_neg (show ¬ opOf c = 4 from h1), if_neg (show ¬ opOf c = 20 from h2), if_neg (show ¬ opOf c = 36 from h3), if_neg (show ¬ opOf c = 68 from h4), if_pos (show opOf c = 84 from h)]
  · rw [aluX, if_neg (show ¬ opOf c = 4 from h1), if_neg (show ¬ opOf c = 20 from h2), if_neg (show ¬ opOf c = 36 from h3), if_neg (show ¬ opOf c = 68 from h4), if_neg (show ¬ opOf c = 84 from h5), if_pos (show opOf c = 164 from h)]
  · rw [aluX, if_neg (show ¬ opOf c = 4 from h1), if_neg (show ¬ opOf c = 20 from h2), if_neg (show ¬ opOf c = 36 from h3), if_neg (show ¬ opOf c = 68 from h4), if_neg (show ¬ opOf c = 84 from h5), if_neg (show ¬ opOf c = 164 from h6), if_pos (show opOf c = 100 from h)]
  · rw [aluX, if_neg (show ¬ opOf c = 4 from h1), if_neg (show ¬ opOf c = 20 from h2), if_neg (show ¬ opOf c = 36 from h3), if_neg (show ¬ opOf c = 68 from h4), if_neg (show ¬ opOf c = 84 from h5), if_neg (show ¬ opOf c = 164 from h6), if_neg (show ¬ opOf c = 100 from h7), if_pos (show opOf c = 116 from h)]
  · rw [aluX, if_neg (show ¬ opOf c = 4 from h1), if_neg (show ¬ opOf c = 20 from h2), if_neg (show ¬ opOf c = 36 from h3), if_neg (show ¬ opOf c = 68 from h4), if_neg (show ¬ opOf c = 84 from h5), if_neg (show ¬ opOf c = 164 from h6), if_neg (show ¬ opOf c = 100 from h7), if_neg (show ¬ opOf c = 116 from h8), if_pos h]
  · rw [aluX, if_neg (show ¬ opOf c = 4 from h1), if_neg (show ¬ opOf c = 20 from h2), if_neg (show ¬ opOf c = 36 from h3), if_neg (show ¬ opOf c = 68 from h4), if_neg (show ¬ opOf c = 84 from h5), if_neg (show ¬ opOf c = 164 from h6), if_neg (show ¬ opOf c = 100 from h7), if_neg (show ¬ opOf c = 116 from h8), if_neg h9, if_pos (show opOf c = 52 from h)]
  · rw [aluX, if_neg (show ¬ opOf c = 4 from h1), if_neg (show ¬ opOf c = 20 from h2), if_neg (show ¬ opOf c = 36 from h3), if_neg (show ¬ opOf c = 68 from h4), if_neg (show ¬ opOf c = 84 from h5), if_neg (show ¬ opOf c = 164 from h6), if_neg (show ¬ opOf c = 100 from h7), if_neg (show ¬ opOf c = 116 from h8), if_neg h9, if_neg (show ¬ opOf c = 52 from h10)]
theorem rightX_U (hw : Wok ws) (hi : i.ok) : U (rightX i ws) := by
  unfold rightX
  split
  · exact hw.wd _
  · exact hi.2.2.2
theorem malu_spec (r : RnG w b ws P pn pc rs ty pkt i) (hs : stepX pkt i ws = (match aluX i.c (wd ws 0) (rightX i ws) with | some v => (0, ws.set 0 v) | none => (2, ws))) : Run Try.prog 96 (ArgM b i) w (DidG w b (stepX pkt i ws) P pn pc rs ty) := by
  obtain ⟨h, hp, hc, hn, hi⟩ := r
  have hr := rightX_U h.ok hi
  refine machine_Machine_alu.ok (letA fun w1 h1 x1 s1 => ⟨fun u => RAtG u b ws P pn pc 0 rs ty ∧ IAt u w.heap.size i, ⟨(h.ext x1).ext (Go.Rd.Ext.drew w1), IAt.ext h1 (Go.Rd.Ext.drew w1)⟩, letD fun w2 _ x2 => ⟨_, fun u hu => hu.2.c0, _, rfl, _, fun u hu => hu.1.get (i := 0) (by decide) rfl, _, rfl, IAt.rdS (fun u hu => hu.2) ((right_spec (i := i) ((h.ext x1).ext x2)).mono ?_)⟩⟩)
  rintro u w3 ⟨rfl, x3⟩
  have x13 := x2.trans x3
  refine ⟨_, rfl, ⟨(h.ext x1).ext x13, IAt.ext h1 x13⟩, (reckon_spec hr.1).mono ?_⟩
  rintro u w4 ⟨hu, rfl⟩
  have h3 := (h.ext x1).ext x13
  cases hx : aluX i.c (wd ws 0) (rightX i ws) with
  | some z =>
    rw [hx] at hu hs
    subst hu
    exact ⟨_, _, rfl, ifP_f rfl ⟨_, rfl, h3.put (i := 0) (by decide) (aluX_U (h.ok.wd 0) hr hx) rfl fun w5 h5 k5 => DidG.of (x1.trans x13) hs h5 k5⟩⟩
  | none =>
    rw [hx] at hu hs
    subst hu
    exact ⟨_, _, rfl, ifP_t rfl ⟨_, rfl, h3.putT (i := 1) (show 1 < rs.length + 1 + 1 by omega) (by rw [add_mk]) fun w5 h5 k5 => DidG.of (x1.trans x13) hs h5 k5⟩⟩
theorem holds_spec {c x y : Int} : Run Try.prog 120 #[.int .u16 c, .int .u32 x, .int .u32 y] w fun u w' => u = .bool (askX c x y) ∧ w' = w := by
  refine machine_Holds.ok (ifP_beq.2 ⟨fun h => ⟨?_, rfl⟩, fun h1 => ifP_beq.2 ⟨fun h => ⟨?_, rfl⟩, fun h2 => ifP_beq.2 ⟨fun h => ⟨?_, rfl⟩, fun h3 => ⟨?_, rfl⟩⟩⟩⟩)
  · rw [askX, if_pos (show opOf c = 21 from h)]
  · rw [askX, if_neg (show ¬ opOf c = 21 from h1), if_pos (show opOf c = 37 from h)]
  · rw [askX, if_neg (show ¬ opOf c = 21 from h1), if_neg (show ¬ opOf c = 37 from h2), if_pos (show opOf c = 53 from h)]
  · rw [askX, if_neg (show ¬ opOf c = 21 from h1), if_neg (show ¬ opOf c = 37 from h2), if_neg (show ¬ opOf c = 53 from h3)]
theorem asks_spec (h : WsAt w b ws tl ty) : Run Try.prog 98 (ArgM b i) w fun u w' => u = .bool (askX i.c (wd ws 0) (rightX i ws)) ∧ Go.Rd.Ext w w' := by
  refine machine_Words_Asks.ok (letA fun w1 h1 x1 s1 => ⟨fun u => WsAt u b ws tl ty ∧ IAt u w.heap.size i, ⟨(h.ext x1).ext (Go.Rd.Ext.drew w1), IAt.ext h1 (Go.Rd.Ext.drew w1)⟩, letD fun w2 _ x2 => ⟨_, fun u hu => hu.2.c0, _, rfl, _, fun u hu => hu.1.get (i := 0) (by decide) rfl, IAt.rdS (fun u hu => hu.2) ((right_spec (i := i) ((h.ext x1).ext x2)).mono ?_)⟩⟩)
  rintro u w3 ⟨rfl, x3⟩
  have x13 := x2.trans x3
  refine ⟨_, rfl, ⟨(h.ext x1).ext x13, IAt.ext h1 x13⟩, holds_spec.mono ?_⟩
  rintro u w4 ⟨rfl, rfl⟩
  exact ⟨_, rfl, rfl, x1.trans x13⟩
theorem back_spec (h : WsAt w b ws tl ty) : Run Try.prog 97 (ArgM b i) w fun u w' => u = .int .u32 (if i.c = 22 then wd ws 0 else i.k) ∧ Go.Rd.Ext w w' := by
  refine machine_Words_Back.ok (letA fun w1 h1 x1 s1 => ⟨_, IAt.c0 h1, ifP_beq.2 ⟨fun h22 => ⟨_, rfl, _, (h.ext x1).get (i := 0) (by decide) rfl, ?_, x1⟩, fun h22 => ⟨_, IAt.c3 h1, ?_, x1⟩⟩⟩)
  · rw [if_pos h22]
  · rw [if_neg h22]
/-- Where a jump goes. -/
def goalX (i : Ins) (a : Nat) (ws : List Int) : Nat := if i.c = 5 then a + 1 + i.k.toNat else if askX i.c (wd ws 0) (rightX i ws) = true then a + 1 + i.t.toNat else a + 1 + i.f.toNat
end

/-! ## The table -/

abbrev fnV (g : FuncId) : Value := .func (.func g) #[] #[]
def tab0 : Array Value := #[.func (.func 78) #[] #[], .func (.func 87) #[] #[], .func (.func 91) #[] #[], .func (.func 92) #[] #[], .nilFunc, .nilFunc, .nilFunc, .func (.func 94) #[] #[], .nilFunc, .nilFunc, .nilFunc, .nilFunc, .nilFunc, .nilFunc, .nilFunc, .nilFunc, .nilFunc, .nilFunc, .nilFunc, .nilFunc, .nilFunc, .nilFunc, .nilFunc, .nilFunc, .nilFunc, .nilFunc, .nilFunc, .nilFunc, .nilFunc, .nilFunc, .nilFunc, .nilFunc, .func (.func 79) #[] #[], .nilFunc, .nilFunc, .nilFunc, .nilFunc, .nilFunc, .nilFunc, .nilFunc, .func (.func 80) #[] #[], .nilFunc, .nilFunc, .nilFunc, .nilFunc, .nilFunc, .nilFunc, .nilFunc, .func (.func 81) #[] #[], .nilFunc, .nilFunc, .nilFunc, .nilFunc, .nilFunc, .nilFunc, .nilFunc, .nilFunc, .nilFunc, .nilFunc, .nilFunc, .nilFunc, .nilFunc, .nilFunc, .nilFunc, .func (.func 82) #[] #[], .nilFunc, .nilFunc, .nilFunc, .nilFunc, .nilFunc, .nilFunc, .nilFunc, .func (.func 83) #[] #[], .nilFunc, .nilFunc, .nilFunc, .nilFunc, .nilFunc, .nilFunc, .nilFunc, .func (.func 84) #[] #[], .nilFunc, .nilFunc, .nilFunc, .nilFunc, .nilFunc, .nilFunc, .nilFunc, .nilFunc, .nilFunc, .nilFunc, .nilFunc, .nilFunc, .nilFunc, .nilFunc, .nilFunc, .func (.func 85) #[] #[], .func (.func 88) #[] #[], .nilFunc, .nilFunc, .nilFunc, .nilFunc, .nilFunc, .nilFunc, .nilFunc, .nilFunc, .nilFunc, .nilFunc, .nilFunc, .nilFunc, .nilFunc, .nilFunc, .nilFunc, .nilFunc, .nilFunc, .nilFunc, .nilFunc, .nilFunc, .nilFunc, .nilFunc, .nilFunc, .nilFunc, .nilFunc, .nilFunc, .nilFunc, .nilFunc, .nilFunc, .nilFunc, .func (.func 86) #[] #[], .func (.func 89) #[] #[], .nilFunc, .nilFunc, .func (.func 93) #[] #[], .nilFunc, .nilFunc, .func (.func 95) #[] #[], .nilFunc, .nilFunc, .nilFunc, .nilFunc, .nilFunc, .nilFunc, .nilFunc, .nilFunc, .nilFunc, .nilFunc, .nilFunc, .nilFunc, .nilFunc, .nilFunc, .nilFunc, .nilFunc, .nilFunc, .nilFunc, .nilFunc, .nilFunc, .nilFunc, .nilFunc, .nilFunc, .nilFunc, .nilFunc, .nilFunc, .nilFunc, .nilFunc, .nilFunc, .nilFunc, .nilFunc, .nilFunc, .nilFunc, .nilFunc, .nilFunc, .nilFunc, .nilFunc, .nilFunc, .nilFunc, .nilFunc, .nilFunc, .func (.func 90) #[] #[], .nilFunc, .nilFunc, .nilFunc, .nilFunc, .nilFunc, .nilFunc, .nilFunc, .nilFunc, .nilFunc, .nilFunc, .nilFunc, .nilFunc, .nilFunc, .nilFunc, .nilFunc, .nilFunc, .nilFunc, .nilFunc, .nilFunc, .nilFunc, .nilFunc, .nilFunc, .nilFunc, .nilFunc, .nilFunc, .nilFunc, .nilFunc, .nilFunc, .nilFunc, .nilFunc, .nilFunc, .nilFunc, .nilFunc, .nilFunc, .nilFunc, .nilFunc, .nilFunc, .nilFunc, .nilFunc, .nilFunc, .nilFunc, .nilFunc, .nilFunc, .nilFunc, .nilFunc, .nilFunc, .nilFunc, .nilFunc, .nilFunc, .nilFunc, .nilFunc, .nilFunc, .nilFunc, .nilFunc, .nilFunc, .nilFunc, .nilFunc, .nilFunc, .nilFunc, .nilFunc, .nilFunc, .nilFunc, .nilFunc, .nilFunc, .nilFunc, .nilFunc, .nilFunc, .nilFunc, .nilFunc, .nilFunc, .nilFunc, .nilFunc, .nilFunc, .nilFunc, .nilFunc, .nilFunc, .nilFunc, .nilFunc]
def opsL : List Int := [4, 20, 36, 52, 68, 84, 100, 116, 148, 164]
def tabStep (t : Array Value) (c : Int) : Array Value := (t.setIfInBounds c.toNat (fnV 96)).setIfInBounds (orI .u16 c 8).toNat (fnV 96)
def tabN (n : Nat) : Array Value := (opsL.take n).foldl tabStep tab0
theorem tabN_succ {n : Nat} {c : Int} (h : opsL[n]? = some c) : tabN (n + 1) = tabStep (tabN n) c := by
  rw [tabN, List.take_add_one, h, List.foldl_append]
  rfl
theorem tabStep_size {t : Array Value} {c : Int} : (tabStep t c).size = t.size := by simp [tabStep]
theorem tabN_size : ∀ n, (tabN n).size = 256 := by
  intro n
  have : ∀ (l : List Int) (t : Array Value), (l.foldl tabStep t).size = t.size := by
    intro l
    induction l with
    | nil => intro t; rfl
    | cons c l ih => intro t; rw [List.foldl_cons, ih, tabStep_size]
  rw [tabN, this]
  rfl
theorem table_loop {W : World} {D C : Nat} (hD : W.heap.size ≤ D) (hDC : D ≠ C) {ty tc : TypeId} {R : Value → World → Prop} (hR : ∀ w, w.heap[D]? = some (.cells (tabN 10) ty (0, 0)) → Go.Rd.Ext W w → R (.pointer (some ⟨D, 0, none⟩)) w) : ∀ (d i : Nat), 10 - i = d → i ≤ 10 → ∀ w, Go.Rd.Ext W w → w.heap[D]? = some (.cells (tabN i) ty (0, 0)) → w.heap[C]? = some (.cells (opsL.map (Value.int .u16)).toArray tc (0, 0)) →
    machine_Table.L0 R ⟨D, 0, none⟩ (some ⟨C, 0, none⟩) 10 10 ((10 : Nat) : Int) i w := by
  intro d
  induction d with
  | zero =>
    intro i hd hi w x h hc
    obtain rfl : i = 10 := by omega
    exact machine_Table.L0_step (ifP_no (by omega) (hR w h x))
  | succ d ih =>
    intro i hd hi w x h hc
    have hci : opsL[i]? = some (opsL[i]'(by show i < 10; omega)) := List.getElem?_eq_getElem _
    have hmem : opsL[i]'(by show i < 10; omega) ∈ opsL := List.getElem_mem _
    generalize opsL[i]'(by show i < 10; omega) = c at hci hmem
    have hr : (0 ≤ c ∧ c < 256) ∧ (0 ≤ orI .u16 c 8 ∧ orI .u16 c 8 < 256) := by
      simp only [opsL, List.mem_cons, List.not_mem_nil, or_false] at hmem
      rcases hmem with rfl | rfl | rfl | rfl | rfl | rfl | rfl | rfl | rfl | rfl <;> decide
    obtain ⟨⟨c0, c1⟩, c2, c3⟩ := hr
    refine machine_Table.L0_step (ifP_yes (by omega) ⟨by omega, by omega, _, rfl, c, ?_, letD fun w2 _ x2 => ⟨_, rfl, c0, c1, _, rfl, cell_put (x2.heap h) (i := c.toNat) (by rw [tabN_size]; omega) (by rw [add_mk, Nat.zero_add, Nat.mul_one]) fun w3 h3 k3 => ⟨c2, c3, cell_put h3 (i := (orI .u16 c 8).toNat) (by rw [Array.size_setIfInBounds, tabN_size]; omega) (by rw [add_mk, Nat.zero_add, Nat.mul_one]) fun w4 h4 k4 => ?_⟩⟩⟩)
    · rw [Int.toNat_natCast, Nat.mul_one, add_mk, Nat.zero_add]
      exact (cell_of hc).trans (by rw [List.getElem?_toArray, List.getElem?_map, hci]; rfl)
    · have hw : IntKind.i64.wrap ((i : Int) + 1) = ((i + 1 : Nat) : Int) := wrap_i64 (by omega) (by omega)
      unfold machine_Table.J0
      rw [hw]
      refine ih (i + 1) (by omega) (by omega) w4 (((x.trans x2).fresh k3 fun j hj => by rw [hj]; exact hD).fresh k4 fun j hj => by rw [hj]; exact hD) ?_ (k4.heap (k3.heap (x2.heap hc) fun hj => hDC hj.symm) fun hj => hDC hj.symm)
      rw [tabN_succ hci]
      exact h4
theorem table_spec {w : World} : Run Try.prog 49 #[] w fun u w' => ∃ D ty, u = .pointer (some ⟨D, 0, none⟩) ∧ w.heap.size ≤ D ∧ w'.heap[D]? = some (.cells (tabN 10) ty (0, 0)) ∧ Go.Rd.Ext w w' := by
  refine machine_Table.ok (letA fun w1 h1 x1 s1 => letA fun w2 h2 x2 s2 => ?_)
  have h2 : w2.heap[w1.heap.size]? = some (.cells (opsL.map (Value.int .u16)).toArray _ (0, 0)) := h2
  exact table_loop (W := w) (D := w.heap.size) (C := w1.heap.size) (Nat.le_refl _) (by omega) (fun w' h x => ⟨_, _, rfl, Nat.le_refl _, h, x⟩) 10 0 rfl (by omega) w2 (x1.trans x2) (x2.heap h1) h2
end Go.Proofs.Ytbchjihecdkfeaa

namespace Go.Proofs.Ytbchjihecdkfeaa
open Go.Rd Go.RowKit
set_option linter.unusedVariables false
set_option linter.unusedSimpArgs false
set_option maxRecDepth 100000

section
variable {w : World} {b : Nat} {ws : List Int} {P : Option Addr} {pn pc : Nat} {rs : List Value} {ty : TypeId} {pkt : List Int} {i : Ins}
theorem fault_zero (hf : faultOf i = 0) : isKnown i.c = true ∧ (i.c ∈ wordsL → i.k < 16) := by
  unfold faultOf at hf
  split at hf
  · rename_i h
    refine ⟨h, fun hw => ?_⟩
    by_cases h16 : 16 ≤ i.k
    · rw [if_pos ⟨hw, h16⟩] at hf; cases hf
    · omega
  · cases hf
theorem straightG (r : RnG w b ws P pn pc rs ty pkt i) (hf : faultOf i = 0) (h5 : classOf i.c ≠ 5) (h6 : classOf i.c ≠ 6) : ∃ g, (tabN 10)[i.c.toNat]? = some (fnV g) ∧ (0 ≤ i.c ∧ i.c < 256) ∧ okCall Try.prog g = true ∧ Run Try.prog g (ArgM b i) w (DidG w b (stepX pkt i ws) P pn pc rs ty) := by
  obtain ⟨hk, hw⟩ := fault_zero hf
  have hk := of_decide_eq_true hk
  rcases List.mem_append.1 hk with hk | hk
  · simp only [knownL, List.mem_cons, List.not_mem_nil, or_false] at hk
    rcases hk with hc | hc | hc | hc | hc | hc | hc | hc | hc | hc | hc | hc | hc | hc | hc | hc | hc | hc | hc | hc
    · exact ⟨78, by rw [hc]; kernel_rfl, by rw [hc]; decide, by kernel_rfl, ldImm_spec r hc⟩
    · exact ⟨87, by rw [hc]; kernel_rfl, by rw [hc]; decide, by kernel_rfl, ldxImm_spec r hc⟩
    · exact ⟨91, by rw [hc]; kernel_rfl, by rw [hc]; decide, by kernel_rfl, st_spec r hc (hw (by rw [hc]; decide))⟩
    · exact ⟨92, by rw [hc]; kernel_rfl, by rw [hc]; decide, by kernel_rfl, stx_spec r hc (hw (by rw [hc]; decide))⟩
    · exact absurd (show classOf i.c = 5 by rw [hc]; rfl) h5
    · exact absurd (show classOf i.c = 6 by rw [hc]; rfl) h6
    · exact ⟨94, by rw [hc]; kernel_rfl, by rw [hc]; decide, by kernel_rfl, tax_spec r hc⟩
    · exact absurd (show classOf i.c = 6 by rw [hc]; rfl) h6
    · exact ⟨79, by rw [hc]; kernel_rfl, by rw [hc]; decide, by kernel_rfl, ldAbsW_spec r hc⟩
    · exact ⟨80, by rw [hc]; kernel_rfl, by rw [hc]; decide, by kernel_rfl, ldAbsH_spec r hc⟩
    · exact ⟨81, by rw [hc]; kernel_rfl, by rw [hc]; decide, by kernel_rfl, ldAbsB_spec r hc⟩
    · exact ⟨82, by rw [hc]; kernel_rfl, by rw [hc]; decide, by kernel_rfl, ldIndW_spec r hc⟩
    · exact ⟨83, by rw [hc]; kernel_rfl, by rw [hc]; decide, by kernel_rfl, ldIndH_spec r hc⟩
    · exact ⟨84, by rw [hc]; kernel_rfl, by rw [hc]; decide, by kernel_rfl, ldIndB_spec r hc⟩
    · exact ⟨85, by rw [hc]; kernel_rfl, by rw [hc]; decide, by kernel_rfl, ldMem_spec r hc (hw (by rw [hc]; decide))⟩
    · exact ⟨88, by rw [hc]; kernel_rfl, by rw [hc]; decide, by kernel_rfl, ldxMem_spec r hc (hw (by rw [hc]; decide))⟩
    · exact ⟨86, by rw [hc]; kernel_rfl, by rw [hc]; decide, by kernel_rfl, ldLen_spec r hc⟩
    · exact ⟨89, by rw [hc]; kernel_rfl, by rw [hc]; decide, by kernel_rfl, ldxLen_spec r hc⟩
    · exact ⟨95, by rw [hc]; kernel_rfl, by rw [hc]; decide, by kernel_rfl, txa_spec r hc⟩
    · exact ⟨90, by rw [hc]; kernel_rfl, by rw [hc]; decide, by kernel_rfl, ldxMsh_spec r hc⟩
  · rcases List.mem_append.1 hk with hk | hk
    · simp only [aluL, List.mem_cons, List.not_mem_nil, or_false] at hk
      rcases hk with hc | hc | hc | hc | hc | hc | hc | hc | hc | hc | hc | hc | hc | hc | hc | hc | hc | hc | hc | hc | hc
      · exact ⟨96, by rw [hc]; kernel_rfl, by rw [hc]; decide, by kernel_rfl, malu_spec r (by unfold stepX; simp only [hc]; rfl)⟩
      · exact ⟨96, by rw [hc]; kernel_rfl, by rw [hc]; decide, by kernel_rfl, malu_spec r (by unfold stepX; simp only [hc]; rfl)⟩
      · exact ⟨96, by rw [hc]; kernel_rfl, by rw [hc]; decide, by kernel_rfl, malu_spec r (by unfold stepX; simp only [hc]; rfl)⟩
      · exact ⟨96, by rw [hc]; kernel_rfl, by rw [hc]; decide, by kernel_rfl, malu_spec r (by unfold stepX; simp only [hc]; rfl)⟩
      · exact ⟨96, by rw [hc]; kernel_rfl, by rw [hc]; decide, by kernel_rfl, malu_spec r (by unfold stepX; simp only [hc]; rfl)⟩
      · exact ⟨96, by rw [hc]; kernel_rfl, by rw [hc]; decide, by kernel_rfl, malu_spec r (by unfold stepX; simp only [hc]; rfl)⟩
      · exact ⟨96, by rw [hc]; kernel_rfl, by rw [hc]; decide, by kernel_rfl, malu_spec r (by unfold stepX; simp only [hc]; rfl)⟩
      · exact ⟨96, by rw [hc]; kernel_rfl, by rw [hc]; decide, by kernel_rfl, malu_spec r (by unfold stepX; simp only [hc]; rfl)⟩
      · exact ⟨96, by rw [hc]; kernel_rfl, by rw [hc]; decide, by kernel_rfl, malu_spec r (by unfold stepX; simp only [hc]; rfl)⟩
      · exact ⟨96, by rw [hc]; kernel_rfl, by rw [hc]; decide, by kernel_rfl, malu_spec r (by unfold stepX; simp only [hc]; rfl)⟩
      · exact ⟨96, by rw [hc]; kernel_rfl, by rw [hc]; decide, by kernel_rfl, malu_spec r (by unfold stepX; simp only [hc]; rfl)⟩
      · exact ⟨96, by rw [hc]; kernel_rfl, by rw [hc]; decide, by kernel_rfl, malu_spec r (by unfold stepX; simp only [hc]; rfl)⟩
      · exact ⟨96, by rw [hc]; kernel_rfl, by rw [hc]; decide, by kernel_rfl, malu_spec r (by unfold stepX; simp only [hc]; rfl)⟩
      · exact ⟨96, by rw [hc]; kernel_rfl, by rw [hc]; decide, by kernel_rfl, malu_spec r (by unfold stepX; simp only [hc]; rfl)⟩
      · exact ⟨96, by rw [hc]; kernel_rfl, by rw [hc]; decide, by kernel_rfl, malu_spec r (by unfold stepX; simp only [hc]; rfl)⟩
      · exact ⟨96, by rw [hc]; kernel_rfl, by rw [hc]; decide, by kernel_rfl, malu_spec r (by unfold stepX; simp only [hc]; rfl)⟩
      · exact ⟨93, by rw [hc]; kernel_rfl, by rw [hc]; decide, by kernel_rfl, neg_spec r hc⟩
      · exact ⟨96, by rw [hc]; kernel_rfl, by rw [hc]; decide, by kernel_rfl, malu_spec r (by unfold stepX; simp only [hc]; rfl)⟩
      · exact ⟨96, by rw [hc]; kernel_rfl, by rw [hc]; decide, by kernel_rfl, malu_spec r (by unfold stepX; simp only [hc]; rfl)⟩
      · exact ⟨96, by rw [hc]; kernel_rfl, by rw [hc]; decide, by kernel_rfl, malu_spec r (by unfold stepX; simp only [hc]; rfl)⟩
      · exact ⟨96, by rw [hc]; kernel_rfl, by rw [hc]; decide, by kernel_rfl, malu_spec r (by unfold stepX; simp only [hc]; rfl)⟩
    · simp only [testL, List.mem_cons, List.not_mem_nil, or_false] at hk
      rcases hk with hc | hc | hc | hc | hc | hc | hc | hc
      · exact absurd (show classOf i.c = 5 by rw [hc]; rfl) h5
      · exact absurd (show classOf i.c = 5 by rw [hc]; rfl) h5
      · exact absurd (show classOf i.c = 5 by rw [hc]; rfl) h5
      · exact absurd (show classOf i.c = 5 by rw [hc]; rfl) h5
      · exact absurd (show classOf i.c = 5 by rw [hc]; rfl) h5
      · exact absurd (show classOf i.c = 5 by rw [hc]; rfl) h5
      · exact absurd (show classOf i.c = 5 by rw [hc]; rfl) h5
      · exact absurd (show classOf i.c = 5 by rw [hc]; rfl) h5
end
end Go.Proofs.Ytbchjihecdkfeaa

namespace Go.Proofs.Ytbchjihecdkfeaa
open Go.Rd Go.RowKit
set_option linter.unusedVariables false
set_option linter.unusedSimpArgs false
set_option maxRecDepth 100000

theorem Taken.goalX {xs : List Ins} (T : Taken xs) {a : Nat} {i : Ins} (hi : xs[a]? = some i) (hok : i.ok) (h5 : classOf i.c = 5) (ws : List Int) : a < goalX i a ws ∧ goalX i a ws < xs.length := by
  have := T.goal hi h5
  obtain ⟨_, ⟨t0, t1⟩, ⟨f0, f1⟩, k0, k1⟩ := hok
  unfold Go.Proofs.Ytbchjihecdkfeaa.goalX
  split at this
  · rename_i hc
    rw [if_pos hc]
    omega
  · rename_i hc
    rw [if_neg hc]
    split <;> omega
theorem nextX_jump {pkt : List Int} {i : Ins} {a : Nat} {ws : List Int} (h : classOf i.c = 5) : nextX pkt i a ws = .inr (goalX i a ws, ws) := by
  rw [nextX, if_neg (by rw [h]; decide), if_pos h]
  rfl
theorem nextX_ret {pkt : List Int} {i : Ins} {a : Nat} {ws : List Int} (h : classOf i.c = 6) : nextX pkt i a ws = .inl (if i.c = 22 then wd ws 0 else i.k, 0) := by
  rw [nextX, if_pos h]
theorem nextX_fault {pkt : List Int} {i : Ins} {a : Nat} {ws : List Int} (h5 : classOf i.c ≠ 5) (h6 : classOf i.c ≠ 6) (hf : (stepX pkt i ws).1 ≠ 0) : nextX pkt i a ws = .inl (0, (stepX pkt i ws).1) := by
  rw [nextX, if_neg h6, if_neg h5, if_pos hf]
theorem nextX_step {pkt : List Int} {i : Ins} {a : Nat} {ws : List Int} (h5 : classOf i.c ≠ 5) (h6 : classOf i.c ≠ 6) (hf : (stepX pkt i ws).1 = 0) : nextX pkt i a ws = .inr (a + 1, (stepX pkt i ws).2) := by
  rw [nextX, if_neg h6, if_neg h5, if_neg (by rw [hf]; decide)]
theorem nextX_gt {pkt : List Int} {i : Ins} {a : Nat} {ws : List Int} {r : Nat × List Int} (h : nextX pkt i a ws = .inr r) : a < r.1 := by
  by_cases h6 : classOf i.c = 6
  · rw [nextX_ret h6] at h; cases h
  by_cases h5 : classOf i.c = 5
  · rw [nextX_jump h5] at h
    obtain rfl := Sum.inr.inj h
    show a < Go.Proofs.Ytbchjihecdkfeaa.goalX i a ws
    unfold Go.Proofs.Ytbchjihecdkfeaa.goalX
    split
    · omega
    · split <;> omega
  by_cases hf : (stepX pkt i ws).1 = 0
  · rw [nextX_step h5 h6 hf] at h
    obtain rfl := Sum.inr.inj h
    exact Nat.lt_succ_self a
  · rw [nextX_fault h5 h6 hf] at h; cases h
/-- The fuel does not tell, if there is enough of it. -/
theorem runX_fuel {xs : List Ins} {pkt : List Int} : ∀ (f f' p : Nat) (ws : List Int), xs.length - p ≤ f → xs.length - p ≤ f' → runX xs pkt f p ws = runX xs pkt f' p ws := by
  have none_ : ∀ (f p : Nat) (ws : List Int), xs.length ≤ p → runX xs pkt f p ws = ((0, 0), []) := by
    intro f p ws h
    cases f with
    | zero => rfl
    | succ f => rw [runX, List.getElem?_eq_none h]
  intro f
  induction f with
  | zero => intro f' p ws h1 h2; rw [none_ 0 p ws (by omega), none_ f' p ws (by omega)]
  | succ f ih =>
    intro f' p ws h1 h2
    by_cases hp : xs.length ≤ p
    · rw [none_ _ p ws hp, none_ _ p ws hp]
    obtain ⟨g, rfl⟩ : ∃ g, f' = g + 1 := ⟨f' - 1, by omega⟩
    rw [runX, runX]
    cases hi : xs[p]? with
    | none => rfl
    | some i =>
      cases hn : nextX pkt i p ws with
      | inl r => simp only [hn]
      | inr r =>
        have := nextX_gt hn
        simp only [hn]
        rw [ih g r.1 r.2 (by omega) (by omega)]
theorem runX_at {xs : List Ins} {pkt : List Int} {n a : Nat} {ws : List Int} {i : Ins} (hn : xs.length = n) (hi : xs[a]? = some i) : runX xs pkt (n - a) a ws = (match nextX pkt i a ws with | .inl r => (r, [a]) | .inr (a', ws') => ((runX xs pkt (n - a') a' ws').1, a :: (runX xs pkt (n - a') a' ws').2)) := by
  have ha := (List.getElem?_eq_some_iff.1 hi).1
  obtain ⟨m, hm⟩ : ∃ m, n - a = m + 1 := ⟨n - a - 1, by omega⟩
  rw [hm, runX, hi]
  cases hx : nextX pkt i a ws with
  | inl r => simp only [hx]
  | inr r =>
    have := nextX_gt hx
    simp only [hx]
    rw [runX_fuel m (n - r.1) r.1 r.2 (by omega) (by omega)]
end Go.Proofs.Ytbchjihecdkfeaa
