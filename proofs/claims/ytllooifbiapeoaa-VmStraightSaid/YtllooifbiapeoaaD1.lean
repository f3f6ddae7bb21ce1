/- Package vm: what instructions do, in plain words; the words of a run in a block. -/
import Derived.Test.YtllooifbiapeoaaCK3
import Derived.Test.YtllooifbiapeoaaWRGet
import Derived.Test.YtllooifbiapeoaaRByX
import Derived.Test.YtllooifbiapeoaaFDefV
namespace Go.Proofs.Ytllooifbiapeoaa
open Go.Rd Go.RowKit
set_option linter.unusedVariables false
set_option linter.unusedSimpArgs false

/-! ## Words -/

def U (x : Int) : Prop := 0 ≤ x ∧ x ≤ 4294967295
theorem U.wrap (x : Int) : U (IntKind.u32.wrap x) := by rw [wrap_u32_mod]; unfold U; omega
theorem U.orI (x y : Int) : U (orI .u32 x y) := U.wrap _
theorem U.andI (x y : Int) : U (andI .u32 x y) := U.wrap _
theorem U.xorI (x y : Int) : U (xorI .u32 x y) := U.wrap _
theorem be_U : ∀ (xs : List Int) (v : Int), U v → U (be v xs)
  | [], v, h => h
  | b :: xs, v, h => be_U xs _ (U.orI _ _)
theorem getV_U (xs : List Int) (a s : Int) : U (getV xs a s) := be_U _ 0 ⟨by decide, by decide⟩

def wd (ws : List Int) (i : Nat) : Int := ws.getD i 0
structure Wok (ws : List Int) : Prop where
  len : ws.length = 18
  u : ∀ x ∈ ws, U x
theorem Wok.wd {ws : List Int} (h : Wok ws) (i : Nat) : U (wd ws i) := by
  unfold Go.Proofs.Ytllooifbiapeoaa.wd
  rw [List.getD_eq_getElem?_getD]
  cases hi : ws[i]? with
  | none => exact ⟨by decide, by decide⟩
  | some y => exact h.u y (List.mem_of_getElem? hi)
theorem Wok.set {ws : List Int} (h : Wok ws) (i : Nat) {v : Int} (hv : U v) : Wok (ws.set i v) := by
  refine ⟨by rw [List.length_set]; exact h.len, fun x hx => ?_⟩
  rcases List.mem_or_eq_of_mem_set hx with h1 | h1
  · exact h.u x h1
  · rw [h1]; exact hv
def ws0 : List Int := List.replicate 18 0
theorem ws0_ok : Wok ws0 := ⟨rfl, fun x hx => by have := List.eq_of_mem_replicate hx; subst this; exact ⟨by decide, by decide⟩⟩

/-! ## One instruction -/

def loadX (pkt : List Int) (a s : Int) : Option Int := if fitsB pkt.length a s = true then some (getV pkt a s) else none
def opOf (c : Int) : Int := andNotI .u16 c 8
def aluX (c a b : Int) : Option Int :=
  if opOf c = 4 then some (IntKind.u32.wrap (a + b)) else if opOf c = 20 then some (IntKind.u32.wrap (a - b)) else if opOf c = 36 then some (IntKind.u32.wrap (a * b)) else
  if opOf c = 68 then some (orI .u32 a b) else if opOf c = 84 then some (andI .u32 a b) else if opOf c = 164 then some (xorI .u32 a b) else
  if opOf c = 100 then some (IntKind.u32.wrap (a * 2 ^ (min (Int.toNat b) (IntKind.bits .u32)))) else if opOf c = 116 then some (Int.fdiv a (2 ^ (min (Int.toNat b) (IntKind.bits .u32)))) else
  if b = 0 then none else if opOf c = 52 then some (IntKind.u32.wrap (Int.tdiv a b)) else some (Int.tmod a b)
theorem aluX_U {c a b v : Int} (ha : U a) (hb : U b) (h : aluX c a b = some v) : U v := by
  unfold U at ha hb
  unfold aluX at h
  split at h
  · obtain rfl := Option.some.inj h; exact U.wrap _
  · split at h
    · obtain rfl := Option.some.inj h; exact U.wrap _
    · split at h
      · obtain rfl := Option.some.inj h; exact U.wrap _
      · split at h
        · obtain rfl := Option.some.inj h; exact U.orI _ _
        · split at h
          · obtain rfl := Option.some.inj h; exact U.andI _ _
          · split at h
            · obtain rfl := Option.some.inj h; exact U.xorI _ _
            · split at h
              · obtain rfl := Option.some.inj h; exact U.wrap _
              · split at h
                · obtain rfl := Option.some.inj h
                  have hp : (0 : Int) < 2 ^ (min (Int.toNat b) (IntKind.bits .u32)) := Int.pow_pos (by decide)
                  rw [Int.fdiv_eq_ediv_of_nonneg a (Int.le_of_lt hp)]
                  have h1 := Int.ediv_nonneg ha.1 (Int.le_of_lt hp)
                  have h2 := Int.ediv_le_self (2 ^ (min (Int.toNat b) (IntKind.bits .u32))) ha.1
                  exact ⟨h1, by omega⟩
                · split at h
                  · cases h
                  · split at h
                    · obtain rfl := Option.some.inj h; exact U.wrap _
                    · obtain rfl := Option.some.inj h
                      rename_i hb0 _
                      rw [Int.tmod_eq_emod_of_nonneg ha.1]
                      have h1 := Int.emod_nonneg a hb0
                      have h2 := Int.emod_lt_of_pos a (show 0 < b by omega)
                      exact ⟨h1, by omega⟩
/-- The right side. -/
def rightX (i : Ins) (ws : List Int) : Int := if andI .u16 i.c 8 ≠ 0 then wd ws 1 else i.k
def ldA (ws : List Int) : Option Int → Int × List Int
  | some v => (0, ws.set 0 v)
  | none => (1, ws)
/-- What an instruction that goes straight on does: its fault, and the words. -/
def stepX (pkt : List Int) (i : Ins) (ws : List Int) : Int × List Int :=
  if i.c = 0 then (0, ws.set 0 i.k) else if i.c = 32 then ldA ws (loadX pkt i.k 4) else if i.c = 40 then ldA ws (loadX pkt i.k 2) else if i.c = 48 then ldA ws (loadX pkt i.k 1) else
  if i.c = 64 then ldA ws (loadX pkt (wd ws 1 + i.k) 4) else if i.c = 72 then ldA ws (loadX pkt (wd ws 1 + i.k) 2) else if i.c = 80 then ldA ws (loadX pkt (wd ws 1 + i.k) 1) else
  if i.c = 96 then (0, ws.set 0 (wd ws (2 + i.k.toNat))) else if i.c = 128 then (0, ws.set 0 pkt.length) else if i.c = 1 then (0, ws.set 1 i.k) else if i.c = 97 then (0, ws.set 1 (wd ws (2 + i.k.toNat))) else
  if i.c = 129 then (0, ws.set 1 pkt.length) else if i.c = 177 then (match loadX pkt i.k 1 with | some v => (0, ws.set 1 (IntKind.u32.wrap (4 * andI .u32 v 15))) | none => (1, ws)) else
  if i.c = 2 then (0, ws.set (2 + i.k.toNat) (wd ws 0)) else if i.c = 3 then (0, ws.set (2 + i.k.toNat) (wd ws 1)) else if i.c = 132 then (0, ws.set 0 (IntKind.u32.wrap (0 - wd ws 0))) else
  if i.c = 7 then (0, ws.set 1 (wd ws 0)) else if i.c = 135 then (0, ws.set 0 (wd ws 1)) else
  match aluX i.c (wd ws 0) (rightX i ws) with | some v => (0, ws.set 0 v) | none => (2, ws)
/-- A jump's question. -/
def askX (c a b : Int) : Bool := if opOf c = 21 then a == b else if opOf c = 37 then decide (a > b) else if opOf c = 53 then decide (a ≥ b) else andI .u32 a b != 0
/-- One instruction: the end with a value and a fault, or the next place. -/
def nextX (pkt : List Int) (i : Ins) (a : Nat) (ws : List Int) : (Int × Int) ⊕ (Nat × List Int) :=
  if classOf i.c = 6 then .inl (if i.c = 22 then wd ws 0 else i.k, 0)
  else if classOf i.c = 5 then .inr (if i.c = 5 then a + 1 + i.k.toNat else if askX i.c (wd ws 0) (rightX i ws) = true then a + 1 + i.t.toNat else a + 1 + i.f.toNat, ws)
  else if (stepX pkt i ws).1 ≠ 0 then .inl (0, (stepX pkt i ws).1) else .inr (a + 1, (stepX pkt i ws).2)
/-- A run: what it tells, its fault; the places. -/
def runX (xs : List Ins) (pkt : List Int) : Nat → Nat → List Int → (Int × Int) × List Nat
  | 0, _, _ => ((0, 0), [])
  | n + 1, a, ws => match xs[a]? with
    | none => ((0, 0), [])
    | some i => match nextX pkt i a ws with
      | .inl r => (r, [a])
      | .inr (a', ws') => ((runX xs pkt n a' ws').1, a :: (runX xs pkt n a' ws').2)
def codeV (xs : List Ins) (pkt : List Int) : Int := if (checkV xs).2 ≠ 0 then 50 else if 65536 < pkt.length then 51 else 0
def runV (xs : List Ins) (pkt : List Int) : (Int × Int) × List Nat := runX xs pkt xs.length 0 ws0

theorem stepX_ok {pkt : List Int} {i : Ins} {ws : List Int} (hi : i.ok) (hw : Wok ws) (hp : pkt.length ≤ 65536) : Wok (stepX pkt i ws).2 := by
  have hk : U i.k := hi.2.2.2
  have hl : U (pkt.length : Int) := ⟨by omega, by omega⟩
  have la : ∀ a s, Wok (ldA ws (loadX pkt a s)).2 := by
    intro a s
    unfold loadX
    split
    · exact hw.set 0 (getV_U _ _ _)
    · exact hw
  unfold stepX
  by_cases h : i.c = 0
  · rw [if_pos h]
    exact hw.set 0 hk
  rw [if_neg h]
  clear h
  by_cases h : i.c = 32
  · rw [if_pos h]
    exact la _ _
  rw [if_neg h]
  clear h
  by_cases h : i.c = 40
  · rw [if_pos h]
    exact la _ _
  rw [if_neg h]
  clear h
  by_cases h : i.c = 48
  · rw [if_pos h]
    exact la _ _
  rw [if_neg h]
  clear h
  by_cases h : i.c = 64
  · rw [if_pos h]
    exact la _ _
  rw [if_neg h]
  clear h
  by_cases h : i.c = 72
  · rw [if_pos h]
    exact la _ _
  rw [if_neg h]
  clear h
  by_cases h : i.c = 80
  · rw [if_pos h]
    exact la _ _
  rw [if_neg h]
  clear h
  by_cases h : i.c = 96
  · rw [if_pos h]
    exact hw.set 0 (hw.wd _)
  rw [if_neg h]
  clear h
  by_cases h : i.c = 128
  · rw [if_pos h]
    exact hw.set 0 hl
  rw [if_neg h]
  clear h
  by_cases h : i.c = 1
  · rw [if_pos h]
    exact hw.set 1 hk
  rw [if_neg h]
  clear h
  by_cases h : i.c = 97
  · rw [if_pos h]
    exact hw.set 1 (hw.wd _)
  rw [if_neg h]
  clear h
  by_cases h : i.c = 129
  · rw [if_pos h]
    exact hw.set 1 hl
  rw [if_neg h]
  clear h
  by_cases h : i.c = 177
  · rw [if_pos h]
    cases loadX pkt i.k 1 with
    | some v => exact hw.set 1 (U.wrap _)
    | none => exact hw
  rw [if_neg h]
  clear h
  by_cases h : i.c = 2
  · rw [if_pos h]
    exact hw.set _ (hw.wd _)
  rw [if_neg h]
  clear h
  by_cases h : i.c = 3
  · rw [if_pos h]
    exact hw.set _ (hw.wd _)
  rw [if_neg h]
  clear h
  by_cases h : i.c = 132
  · rw [if_pos h]
    exact hw.set 0 (U.wrap _)
  rw [if_neg h]
  clear h
  by_cases h : i.c = 7
  · rw [if_pos h]
    exact hw.set 1 (hw.wd _)
  rw [if_neg h]
  clear h
  by_cases h : i.c = 135
  · rw [if_pos h]
    exact hw.set 0 (hw.wd _)
  rw [if_neg h]
  clear h
  have hr : U (rightX i ws) := by
    unfold rightX
    split
    · exact hw.wd _
    · exact hk
  cases h : aluX i.c (wd ws 0) (rightX i ws) with
  | some v => exact hw.set 0 (aluX_U (hw.wd 0) hr h)
  | none => exact hw

/-! ## The block of a run -/

theorem words_get {ws : List Int} {tl : List Value} {i : Nat} (hl : ws.length = 18) (hi : i < 18) : (ws.map (Value.int .u32) ++ tl)[i]? = some (.int .u32 (wd ws i)) := by
  rw [List.getElem?_append_left (by rw [List.length_map]; omega), List.getElem?_map, wd, List.getD_eq_getElem?_getD, List.getElem?_eq_getElem (by omega)]
  rfl
theorem words_set {ws : List Int} {tl : List Value} {i : Nat} {v : Int} (hl : ws.length = 18) (hi : i < 18) : (ws.map (Value.int .u32) ++ tl).toArray.setIfInBounds i (.int .u32 v) = ((ws.set i v).map (Value.int .u32) ++ tl).toArray := by
  rw [List.setIfInBounds_toArray, List.set_append_left _ _ (by rw [List.length_map]; omega), ← List.map_set]
theorem tail_set {ws : List Int} {tl : List Value} {i : Nat} {v : Value} (hl : ws.length = 18) : (ws.map (Value.int .u32) ++ tl).toArray.setIfInBounds (18 + i) v = (ws.map (Value.int .u32) ++ tl.set i v).toArray := by
  rw [List.setIfInBounds_toArray, List.set_append_right _ _ (by rw [List.length_map]; omega), List.length_map, hl, Nat.add_sub_cancel_left]
/-- The words in a block, with something behind. -/
structure WsAt (w : World) (b : Nat) (ws : List Int) (tl : List Value) (t : TypeId) : Prop where
  cell : w.heap[b]? = some (.cells (ws.map (Value.int .u32) ++ tl).toArray t (0, 0))
  ok : Wok ws
section
variable {w w' : World} {b : Nat} {ws : List Int} {tl : List Value} {t : TypeId}
theorem WsAt.ext (h : WsAt w b ws tl t) (x : Go.Rd.Ext w w') : WsAt w' b ws tl t := ⟨x.heap h.cell, h.ok⟩
theorem WsAt.keep {X : Nat → Prop} (h : WsAt w b ws tl t) (k : Keep X w w') (hb : ¬ X b) : WsAt w' b ws tl t := ⟨k.heap h.cell hb, h.ok⟩
theorem WsAt.size (h : WsAt w b ws tl t) : (ws.map (Value.int .u32) ++ tl).toArray.size = 18 + tl.length := by simp [h.ok.len]
theorem WsAt.get (h : WsAt w b ws tl t) {i : Nat} (hi : i < 18) {a : Addr} (ha : a = ⟨b, i, none⟩) : w.cell? a = some (.int .u32 (wd ws i)) := by
  subst ha
  rw [cell_of h.cell, List.getElem?_toArray]
  exact words_get h.ok.len hi
theorem WsAt.tail (h : WsAt w b ws tl t) {i : Nat} {v : Value} (hv : tl[i]? = some v) {a : Addr} (ha : a = ⟨b, 18 + i, none⟩) : w.cell? a = some v := by
  subst ha
  rw [cell_of h.cell, List.getElem?_toArray, List.getElem?_append_right (by rw [List.length_map, h.ok.len]; omega), List.length_map, h.ok.len, Nat.add_sub_cancel_left]
  exact hv
theorem WsAt.put (h : WsAt w b ws tl t) {i : Nat} (hi : i < 18) {v : Int} (hv : U v) {a : Addr} (ha : a = ⟨b, i, none⟩) {φ : World → Prop} (hφ : ∀ w', WsAt w' b (ws.set i v) tl t → Keep (· = b) w w' → φ w') :
    (∃ x, w.cell? a = some x) ∧ w.frozen? a = false ∧ letW (w.setCell a (.int .u32 v)) φ :=
  cell_put h.cell (by rw [h.size]; omega) ha fun w' h' k' => hφ w' ⟨by rw [h', words_set h.ok.len hi], h.ok.set i hv⟩ k'
theorem WsAt.putT (h : WsAt w b ws tl t) {i : Nat} (hi : i < tl.length) {v : Value} {a : Addr} (ha : a = ⟨b, 18 + i, none⟩) {φ : World → Prop} (hφ : ∀ w', WsAt w' b ws (tl.set i v) t → Keep (· = b) w w' → φ w') :
    (∃ x, w.cell? a = some x) ∧ w.frozen? a = false ∧ letW (w.setCell a v) φ :=
  cell_put h.cell (by rw [h.size]; omega) ha fun w' h' k' => hφ w' ⟨by rw [h', tail_set h.ok.len], h.ok⟩ k'
end
/-- An instruction in its block. -/
def IAt (w : World) (b : Nat) (i : Ins) : Prop := w.heap[b]? = some (.cells i.v.toArray 45 (0, 0))
section
variable {w w' : World} {b : Nat} {i : Ins} {S : World → Prop}
theorem IAt.ext (h : IAt w b i) (x : Go.Rd.Ext w w') : IAt w' b i := x.heap h
theorem IAt.c0 (h : IAt w b i) : w.cell? ⟨b, 0, none⟩ = some (.int .u16 i.c) := (cell_of h).trans rfl
theorem IAt.c1 (h : IAt w b i) : w.cell? ((Addr.mk b 0 none).add 1) = some (.int .u8 i.t) := by rw [add_mk]; exact (cell_of h).trans rfl
theorem IAt.c2 (h : IAt w b i) : w.cell? ((Addr.mk b 0 none).add 2) = some (.int .u8 i.f) := by rw [add_mk]; exact (cell_of h).trans rfl
theorem IAt.c3 (h : IAt w b i) : w.cell? ((Addr.mk b 0 none).add 3) = some (.int .u32 i.k) := by rw [add_mk]; exact (cell_of h).trans rfl
theorem IAt.rd (h : IAt w b i) {P : Int → Int → Int → Int → Prop} (hp : P i.c i.t i.f i.k) : ∃ t0 : Int, w.cell? ⟨b, 0, none⟩ = some (.int .u16 t0) ∧ ∃ t1 : Int, w.cell? ((Addr.mk b 0 none).add 1) = some (.int .u8 t1) ∧ ∃ t2 : Int, w.cell? ((Addr.mk b 0 none).add 2) = some (.int .u8 t2) ∧ ∃ t3 : Int, w.cell? ((Addr.mk b 0 none).add 3) = some (.int .u32 t3) ∧ P t0 t1 t2 t3 :=
  ⟨_, h.c0, _, h.c1, _, h.c2, _, h.c3, hp⟩
theorem IAt.rdS (h : ∀ u, S u → IAt u b i) {P : Int → Int → Int → Int → Prop} (hp : P i.c i.t i.f i.k) : ∃ t0 : Int, (∀ u : World, S u → u.cell? ⟨b, 0, none⟩ = some (.int .u16 t0)) ∧ ∃ t1 : Int, (∀ u : World, S u → u.cell? ((Addr.mk b 0 none).add 1) = some (.int .u8 t1)) ∧ ∃ t2 : Int, (∀ u : World, S u → u.cell? ((Addr.mk b 0 none).add 2) = some (.int .u8 t2)) ∧ ∃ t3 : Int, (∀ u : World, S u → u.cell? ((Addr.mk b 0 none).add 3) = some (.int .u32 t3)) ∧ P t0 t1 t2 t3 :=
  ⟨_, fun u hu => (h u hu).c0, _, fun u hu => (h u hu).c1, _, fun u hu => (h u hu).c2, _, fun u hu => (h u hu).c3, hp⟩
end
end Go.Proofs.Ytllooifbiapeoaa
