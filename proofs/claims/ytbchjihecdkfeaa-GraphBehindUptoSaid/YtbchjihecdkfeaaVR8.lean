/- The document's machine: what it reads, reckons, asks; a step. -/
import Derived.Test.YtbchjihecdkfeaaVP4
namespace Go.Proofs.Ytbchjihecdkfeaa
open Go.Rd Go.RowKit
set_option linter.unusedVariables false
set_option linter.unusedSimpArgs false
set_option maxRecDepth 100000

section
variable {w : World} {A P : Option Addr} {n c pn pc : Nat} {xs : List Ins} {pkt : List Int}
theorem rread_spec (hp : IBytes w P pn pkt) (hn : pn ≤ 65536) {at_ s : Int} (h0 : 0 ≤ at_) (h1 : at_ ≤ 8589934592) (hs : s = 1 ∨ s = 2 ∨ s = 4) :
    Run Try.prog 74 #[.slice P pn pc, .int .u64 at_, .int .i64 s] w fun u w' => u = (match loadX pkt at_ s with | some x => .tuple #[.int .u32 x, .int .i64 0] | none => .tuple #[.int .u32 0, .int .i64 1]) ∧ w' = w := by
  have hl := hp.len
  have no : ¬ fitsB pn at_ s = true → (Value.tuple #[.int .u32 0, .int .i64 1] = (match loadX pkt at_ s with | some x => .tuple #[.int .u32 x, .int .i64 0] | none => .tuple #[.int .u32 0, .int .i64 1]) ∧ w = w) := by
    intro hf
    rw [loadX, hl, if_neg hf]
    exact ⟨rfl, rfl⟩
  refine ref5_read.ok (ifP_decide.2 ⟨fun hlt => no ?_, fun hlt => ?_⟩)
  · rw [wrap_u64 (by omega) (by omega)] at hlt
    intro hf
    obtain ⟨h2, h3, h4⟩ := fitsB_iff.1 hf
    omega
  · rw [wrap_i64 (by omega) (by omega)]
    refine (rget_spec hp (by omega)).mono ?_
    rintro u w1 ⟨rfl, rfl⟩
    by_cases hf : fitsB pn at_ s = true
    · rw [if_pos hf]
      refine ⟨_, _, rfl, ifP_f rfl ?_⟩
      rw [loadX, hl, if_pos hf]
      exact ⟨rfl, rfl⟩
    · rw [if_neg hf]
      exact ⟨_, _, rfl, ifP_t rfl (no hf)⟩
def sizeX (c : Int) : Int := if c = 32 ∨ c = 64 then 4 else if c = 40 ∨ c = 72 then 2 else 1
theorem rsize_spec {c : Int} : Run Try.prog 75 #[.int .u16 c] w fun u w' => u = .int .i64 (sizeX c) ∧ w' = w := by
  refine ref5_size.ok (ifP_beq.2 ⟨fun h => ifP_t (by simpa using h) ⟨?_, rfl⟩, fun h => ?_⟩)
  · rw [sizeX, if_pos (.inl h)]
  · refine ifP_of (fun h64 => ⟨?_, rfl⟩) fun h64 => ifP_beq.2 ⟨fun h40 => ifP_t (by simpa using h40) ⟨?_, rfl⟩, fun h40 => ifP_of (fun h72 => ⟨?_, rfl⟩) fun h72 => ⟨?_, rfl⟩⟩
    · rw [sizeX, if_pos (.inr (by simpa using h64))]
    · rw [sizeX, if_neg (by subst h40; decide), if_pos (.inl h40)]
    · have e : c = 72 := by simpa using h72
      rw [sizeX, if_neg (by subst e; decide), if_pos (.inr e)]
    · rw [sizeX, if_neg (fun hh => hh.elim h (by simpa using h64)), if_neg (fun hh => hh.elim h40 (by simpa using h72))]
theorem rshift_spec {a b : Int} (ha : U a) (hb : U b) {left : Bool} : Run Try.prog 115 #[.int .u32 a, .int .u32 b, .bool left] w fun u w' => u = .int .u32 (if left = true then IntKind.u32.wrap (a * 2 ^ (min (Int.toNat b) (IntKind.bits .u32))) else Int.fdiv a (2 ^ (min (Int.toNat b) (IntKind.bits .u32)))) ∧ w' = w := by
  unfold U at ha hb
  refine ref5_Shift.ok (ifP_decide.2 ⟨fun h => ⟨?_, rfl⟩, fun h => ifP_of (fun hl => ⟨hb.1, ?_, rfl⟩) fun hl => ⟨hb.1, ?_, rfl⟩⟩)
  · have e : min (Int.toNat b) (IntKind.bits .u32) = 32 := by
      show min (Int.toNat b) 32 = 32
      omega
    rw [e]
    cases left with
    | true =>
      rw [if_pos rfl, wrap_u32_mod]
      have : a * 2 ^ 32 % 4294967296 = 0 := by
        show a * 4294967296 % 4294967296 = 0
        omega
      rw [this]
    | false =>
      rw [if_neg (by decide), Int.fdiv_eq_ediv_of_nonneg a (by decide)]
      have : a / 2 ^ 32 = 0 := by
        show a / 4294967296 = 0
        omega
      rw [this]
  · rw [if_pos hl]
  · rw [if_neg (by rw [hl]; decide)]
theorem roperate_spec {c x y : Int} (hx : U x) (hy : U y) : Run Try.prog 77 #[.int .u16 c, .int .u32 x, .int .u32 y] w fun u w' => u = (match aluX c x y with | some z => .tuple #[.int .u32 z, .int .i64 0] | none => .tuple #[.int .u32 0, .int .i64 2]) ∧ w' = w := by
  refine ref5_Operate.ok (ifP_beq.2 ⟨fun h => ⟨?_, rfl⟩, fun h1 => ifP_beq.2 ⟨fun h => ⟨?_, rfl⟩, fun h2 => ifP_beq.2 ⟨fun h => ⟨?_, rfl⟩, fun h3 => ifP_beq.2 ⟨fun h => ⟨?_, rfl⟩, fun h4 => ifP_beq.2 ⟨fun h => ⟨?_, rfl⟩, fun h5 => ifP_beq.2 ⟨fun h => ⟨?_, rfl⟩, fun h6 => ifP_beq.2 ⟨fun h => (rshift_spec hx hy).mono ?_, fun h7 => ifP_beq.2 ⟨fun h => (rshift_spec hx hy).mono ?_, fun h8 => ifP_beq.2 ⟨fun h => ⟨?_, rfl⟩, fun h9 => ifP_beq.2 ⟨fun h => ⟨h9, ?_, rfl⟩, fun h10 => ⟨h9, ?_, rfl⟩⟩⟩⟩⟩⟩⟩⟩⟩⟩⟩)
  · rw [aluX, if_pos (show opOf c = 4 from h)]
  · rw [aluX, if_neg (show ¬ opOf c = 4 from h1), if_pos (show opOf c = 20 from h)]
  · rw [aluX, if_neg (show ¬ opOf c = 4 from h1), if_neg (show ¬ opOf c = 20 from h2), if_pos (show opOf c = 36 from h)]
  · rw [aluX, if_neg (show ¬ opOf c = 4 from h1), if_neg (show ¬ opOf c = 20 from h2), if_neg (show ¬ opOf c = 36 from h3), if_pos (show opOf c = 68 from h)]
  · rw [aluX, if_neg (show ¬ opOf c = 4 from h1), if_neg (show ¬ opOf c = 20 from h2), if_neg (show ¬ opOf c = 36 from h3), if_neg (show ¬ opOf c = 68 from h4), if_pos (show opOf c = 84 from h)]
  · rw [aluX, if_neg (show ¬ opOf c = 4 from h1), if_neg (show ¬ opOf c = 20 from h2), if_neg (show ¬ opOf c = 36 from h3), if_neg (show ¬ opOf c = 68 from h4), if_neg (show ¬ opOf c = 84 from h5), if_pos (show opOf c = 164 from h)]
  · rintro u w1 ⟨rfl, rfl⟩
    refine ⟨_, rfl, ?_, rfl⟩
    rw [aluX, if_neg (show ¬ opOf c = 4 from h1), if_neg (show ¬ opOf c = 20 from h2), if_neg (show ¬ opOf c = 36 from h3), if_neg (show ¬ opOf c = 68 from h4), if_neg (show ¬ opOf c = 84 from h5), if_neg (show ¬ opOf c = 164 from h6), if_pos (show opOf c = 100 from h), if_pos rfl]
  · rintro u w1 ⟨rfl, rfl⟩
    refine ⟨_, rfl, ?_, rfl⟩
    rw [aluX, if_neg (show ¬ opOf c = 4 from h1), if_neg (show ¬ opOf c = 20 from h2), if_neg (show ¬ opOf c = 36 from h3), if_neg (show ¬ opOf c = 68 from h4), if_neg (show ¬ opOf c = 84 from h5), if_neg (show ¬ opOf c = 164 from h6), if_neg (show ¬ opOf c = 100 from h7), if_pos (show opOf c = 116 from h), if_neg (by decide)]
  · rw [aluX, if_neg (show ¬ opOf c = 4 from h1), if_neg (show ¬ opOf c = 20 from h2), if_neg (show ¬ opOf c = 36 from h3), if_neg (show ¬ opOf c = 68 from h4), if_neg (show ¬ opOf c = 84 from h5), if_neg (show ¬ opOf c = 164 from h6), if_neg (show ¬ opOf c = 100 from h7), if_neg (show ¬ opOf c = 116 from h8), if_pos h]
  · rw [aluX, if_neg (show ¬ opOf c = 4 from h1), if_neg (show ¬ opOf c = 20 from h2), if_neg (show ¬ opOf c = 36 from h3), if_neg (show ¬ opOf c = 68 from h4), if_neg (show ¬ opOf c = 84 from h5), if_neg (show ¬ opOf c = 164 from h6), if_neg (show ¬ opOf c = 100 from h7), if_neg (show ¬ opOf c = 116 from h8), if_neg h9, if_pos (show opOf c = 52 from h)]
  · rw [aluX, if_neg (show ¬ opOf c = 4 from h1), if_neg (show ¬ opOf c = 20 from h2), if_neg (show ¬ opOf c = 36 from h3), if_neg (show ¬ opOf c = 68 from h4), if_neg (show ¬ opOf c = 84 from h5), if_neg (show ¬ opOf c = 164 from h6), if_neg (show ¬ opOf c = 100 from h7), if_neg (show ¬ opOf c = 116 from h8), if_neg h9, if_neg (show ¬ opOf c = 52 from h10)]

theorem rByX_jump {c : Int} (h : c ∈ rJumpL) : rByXB c = (andI .u16 c 8 != 0) := by
  have : ∀ x ∈ rJumpL, rByXB x = (andI .u16 x 8 != 0) := by decide +kernel
  exact this c h
theorem rByX_op {c : Int} (h : c ∈ rOperationL) : rByXB c = (andI .u16 c 8 != 0) := by
  have : ∀ x ∈ rOperationL, rByXB x = (andI .u16 x 8 != 0) := by decide +kernel
  exact this c h
theorem rholds_spec {i : Ins} {a : Int} {ws : List Int} (h : i.c ∈ rJumpL) : Run Try.prog 47 #[.agg #[.int .u16 i.c, .int .u8 i.t, .int .u8 i.f, .int .u32 i.k], .int .u32 a, .int .u32 (wd ws 1)] w fun u w' => u = .bool (askX i.c a (rightX i ws)) ∧ Go.Rd.Ext w w' := by
  refine ref5_Holds.ok (letA fun w1 h1 x1 s1 => ⟨_, IAt.c3 h1, _, IAt.c0 h1, rByX_spec.mono ?_⟩)
  rintro u w2 ⟨rfl, rfl⟩
  have fin : ∀ b, b = rightX i ws → ref5_Holds.J0 (fun u w' => u = .bool (askX i.c a (rightX i ws)) ∧ Go.Rd.Ext w w') a (newA w) b w2 := by
    rintro b rfl
    refine ⟨_, IAt.c0 h1, ifP_beq.2 ⟨fun h => ⟨?_, x1⟩, fun h1 => ifP_beq.2 ⟨fun h => ⟨?_, x1⟩, fun h2 => ifP_beq.2 ⟨fun h => ⟨?_, x1⟩, fun h3 => ⟨?_, x1⟩⟩⟩⟩⟩
    · rw [askX, if_pos (show opOf i.c = 21 from h)]
    · rw [askX, if_neg (show ¬ opOf i.c = 21 from h1), if_pos (show opOf i.c = 37 from h)]
    · rw [askX, if_neg (show ¬ opOf i.c = 21 from h1), if_neg (show ¬ opOf i.c = 37 from h2), if_pos (show opOf i.c = 53 from h)]
    · rw [askX, if_neg (show ¬ opOf i.c = 21 from h1), if_neg (show ¬ opOf i.c = 37 from h2), if_neg (show ¬ opOf i.c = 53 from h3)]
  rw [rByX_jump h]
  refine ⟨_, rfl, ifP_bne.2 ⟨fun h8 => fin _ ?_, fun h8 => fin _ ?_⟩⟩
  · rw [rightX, if_pos h8]
  · rw [rightX, if_neg (not_not_intro h8)]
end

/-! ## A step -/

def RStep (w : World) (m : Nat) (r : Int × List Int) (ty : TypeId) (u : Value) (w' : World) : Prop := u = .int .i64 r.1 ∧ (r.1 = 0 → WsAt w' m r.2 [] ty) ∧ Keep (· = m) w w'
section
variable {w w1 : World} {m : Nat} {ws : List Int} {P : Option Addr} {pn pc : Nat} {pkt : List Int} {i : Ins} {ty : TypeId}
theorem and15 {k : Int} (h0 : 0 ≤ k) (h1 : k < 16) : andI .u32 k 15 = k := by
  have h : ∀ n : Fin 16, andI .u32 ((n.val : Nat) : Int) 15 = ((n.val : Nat) : Int) := by decide +kernel
  have := h ⟨k.toNat, by omega⟩
  simp only at this
  rwa [Int.toNat_of_nonneg h0] at this
theorem op_last {c : Int} (hk : isKnown c = true) (h5 : classOf c ≠ 5) (h6 : classOf c ≠ 6) (hn : c ∉ [0, 32, 40, 48, 64, 72, 80, 96, 128, 1, 97, 129, 177, 2, 3, 132, 7, 135]) : c ∈ rOperationL := by
  have h1 : ∀ x ∈ knownL ++ (aluL ++ testL), classOf x ≠ 5 → classOf x ≠ 6 → x ∉ [(0 : Int), 32, 40, 48, 64, 72, 80, 96, 128, 1, 97, 129, 177, 2, 3, 132, 7, 135] → x ∈ rOperationL := by decide +kernel
  exact h1 c (of_decide_eq_true hk) h5 h6 hn
def readV (o : Option Int) : Value := match o with | some x => .tuple #[.int .u32 x, .int .i64 0] | none => .tuple #[.int .u32 0, .int .i64 1]
theorem rload_fin (h : WsAt w1 m ws [] ty) (k0 : Keep (· = m) w w1) {j : Nat} (hj : j < 18) {o : Option Int} (hU : ∀ x, o = some x → U x) {v : Value} (hv : v = readV o) {a : Addr} (ha : a = ⟨m, j, none⟩) {Q : Int → World → Prop}
    (hs : ∀ x w2, o = some x → WsAt w2 m (ws.set j x) [] ty → Keep (· = m) w w2 → Q 0 w2) (hn : ∀ w2, o = none → Keep (· = m) w w2 → WsAt w2 m (ws.set j 0) [] ty → Q 1 w2) :
    ∃ t0 t1 : Int, v = .tuple #[.int .u32 t0, .int .i64 t1] ∧ ((∃ u : Value, w1.cell? a = some u) ∧ w1.frozen? a = false ∧ letW (w1.setCell a (.int .u32 t0)) fun w2 => Q t1 w2) := by
  cases o with
  | some x => exact ⟨x, 0, hv, h.put hj (hU x rfl) ha fun w2 h2 k2 => hs x w2 rfl h2 (k0.trans' k2)⟩
  | none => exact ⟨0, 1, hv, h.put hj ⟨by decide, by decide⟩ ha fun w2 h2 k2 => hn w2 rfl (k0.trans' k2) h2⟩
theorem loadX_U {a s x : Int} (h : loadX pkt a s = some x) : U x := by
  unfold loadX at h
  split at h
  · obtain rfl := Option.some.inj h; exact getV_U _ _ _
  · cases h
end
end Go.Proofs.Ytbchjihecdkfeaa

namespace Go.Proofs.Ytbchjihecdkfeaa
open Go.Rd Go.RowKit
set_option linter.unusedVariables false
set_option linter.unusedSimpArgs false
set_option maxRecDepth 100000
section
variable {w w1 : World} {m : Nat} {ws : List Int} {P : Option Addr} {pn pc : Nat} {pkt : List Int} {i : Ins} {ty : TypeId}
theorem rstep_spec (h : WsAt w m ws [] ty) (hi : i.ok) (hf : faultOf i = 0) (h5 : classOf i.c ≠ 5) (h6 : classOf i.c ≠ 6) (hp : IBytes w P pn pkt) (hpn : pn ≤ 65536) :
    Run Try.prog 46 #[.pointer (some ⟨m, 0, none⟩), .agg #[.int .u16 i.c, .int .u8 i.t, .int .u8 i.f, .int .u32 i.k], .slice P pn pc] w (RStep w m (stepX pkt i ws) ty) := by
  obtain ⟨hk, hw⟩ := fault_zero hf
  have hl := hp.len
  have ik : U i.k := hi.2.2.2
  have x1U := h.ok.wd 1
  refine ref5_Machine_Step.ok (letA fun w1 h1 x1 s1 => ?_)
  have h1 : IAt w1 w.heap.size i := h1
  have b1 := h.ext x1
  have p1 := hp.ext x1
  have k1 : Keep (· = m) w w1 := Keep.ext x1
  have hml := (Array.getElem?_eq_some_iff.1 h.cell).1
  have fin : ∀ (f : Int) (ws' : List Int) (w2 : World), stepX pkt i ws = (f, ws') → WsAt w2 m ws' [] ty → Keep (· = m) w w2 → ref5_Machine_Step.J0 (RStep w m (stepX pkt i ws) ty) f w2 := by
    intro f ws' w2 e b2 k2
    rw [e]
    exact ⟨rfl, fun _ => b2, k2⟩
  have finF : ∀ (w2 : World), stepX pkt i ws = (1, ws) → Keep (· = m) w w2 → ref5_Machine_Step.J0 (RStep w m (stepX pkt i ws) ty) 1 w2 := by
    intro w2 e k2
    rw [e]
    exact ⟨rfl, fun h => absurd (show (1 : Int) = 0 from h) (by decide), k2⟩
  have S0 : ∀ {u : World}, (WsAt u m ws [] ty ∧ IAt u w.heap.size i) → (WsAt u.drew m ws [] ty ∧ IAt u.drew w.heap.size i) := fun hu => ⟨hu.1.ext (Go.Rd.Ext.drew _), hu.2.ext (Go.Rd.Ext.drew _)⟩
  have put : ∀ {j : Nat} {v : Int} {w2 : World} {a : Addr}, Go.Rd.Ext w w2 → j < 18 → U v → a = ⟨m, j, none⟩ → stepX pkt i ws = (0, ws.set j v) → (∃ u : Value, w2.cell? a = some u) ∧ w2.frozen? a = false ∧ letW (w2.setCell a (.int .u32 v)) fun w3 => ref5_Machine_Step.J0 (RStep w m (stepX pkt i ws) ty) 0 w3 :=
    fun x2 hj hv ha e => (h.ext x2).put hj hv ha fun w3 b3 k3 => fin 0 _ w3 e b3 ((Keep.ext x2).trans' k3)
  have ld : stepX pkt i ws = ldA ws (loadX pkt i.k (sizeX i.c)) → ref5_Machine_Step.J1 (RStep w m (stepX pkt i ws) ty) (some ⟨m, 0, none⟩) P pn pc ⟨w.heap.size, 0, none⟩ 0 i.c true w1 := by
    intro e
    refine ifP_t rfl ⟨fun u => WsAt u m ws [] ty ∧ IAt u w.heap.size i, S0 ⟨b1, h1⟩, letD fun w2 _ x2 => ⟨_, fun u hu => hu.2.c3, _, fun u hu => hu.2.c0, rsize_spec.mono ?_⟩⟩
    rintro u w3 ⟨rfl, rfl⟩
    refine ⟨_, rfl, ⟨b1.ext x2, h1.ext x2⟩, ?_⟩
    rw [wrap_u64 ik.1 (by have := ik.2; omega)]
    refine (rread_spec (p1.ext x2) hpn ik.1 (by have := ik.2; omega) (by unfold sizeX; split; exact .inr (.inr rfl); split; exact .inr (.inl rfl); exact .inl rfl)).mono ?_
    rintro u w4 ⟨hu, rfl⟩
    obtain ⟨t0, t1, hv, hX⟩ := rload_fin (b1.ext x2) (Keep.ext (x1.trans x2)) (j := 0) (by decide) (fun x hx => loadX_U hx) hu (a := ⟨m, 0, none⟩) rfl (Q := fun t w5 => ref5_Machine_Step.J2 (RStep w m (stepX pkt i ws) ty) t w5)
      (fun x w5 ho b5 k5 => fin 0 _ w5 (by rw [e, ho]; rfl) b5 k5) (fun w5 ho k5 _ => finF w5 (by rw [e, ho]; rfl) k5)
    exact ⟨t0, t1, hv, _, rfl, hX⟩
  have ldi : stepX pkt i ws = ldA ws (loadX pkt (wd ws 1 + i.k) (sizeX i.c)) → ref5_Machine_Step.J3 (RStep w m (stepX pkt i ws) ty) (some ⟨m, 0, none⟩) P pn pc ⟨w.heap.size, 0, none⟩ 0 i.c true w1 := by
    intro e
    refine ifP_t rfl ⟨fun u => WsAt u m ws [] ty ∧ IAt u w.heap.size i, S0 ⟨b1, h1⟩, letD fun w2 _ x2 => ⟨_, fun u hu => hu.2.c3, _, rfl, _, fun u hu => hu.1.get (i := 1) (by decide) (by rw [add_mk]), _, fun u hu => hu.2.c0, rsize_spec.mono ?_⟩⟩
    rintro u w3 ⟨rfl, rfl⟩
    refine ⟨_, rfl, ⟨b1.ext x2, h1.ext x2⟩, ?_⟩
    have e1 : IntKind.u64.wrap (IntKind.u64.wrap i.k + IntKind.u64.wrap (wd ws 1)) = wd ws 1 + i.k := by
      have := ik.2; have := ik.1; have := x1U.1; have := x1U.2
      rw [wrap_u64 (x := i.k) (by omega) (by omega), wrap_u64 (x := wd ws 1) (by omega) (by omega), wrap_u64 (by omega) (by omega), Int.add_comm]
    rw [e1]
    refine (rread_spec (p1.ext x2) hpn (by have := ik.1; have := x1U.1; omega) (by have := ik.2; have := x1U.2; omega) (by unfold sizeX; split; exact .inr (.inr rfl); split; exact .inr (.inl rfl); exact .inl rfl)).mono ?_
    rintro u w4 ⟨hu, rfl⟩
    obtain ⟨t0, t1, hv, hX⟩ := rload_fin (b1.ext x2) (Keep.ext (x1.trans x2)) (j := 0) (by decide) (fun x hx => loadX_U hx) hu (a := ⟨m, 0, none⟩) rfl (Q := fun t w5 => ref5_Machine_Step.J4 (RStep w m (stepX pkt i ws) ty) t w5)
      (fun x w5 ho b5 k5 => fin 0 _ w5 (by rw [e, ho]; rfl) b5 k5) (fun w5 ho k5 _ => finF w5 (by rw [e, ho]; rfl) k5)
    exact ⟨t0, t1, hv, _, rfl, hX⟩
  have at2 : ((Addr.mk m 0 none).add 2).add (Int.toNat (andI .u32 i.k 15) * 1) = ⟨m, 2 + (andI .u32 i.k 15).toNat, none⟩ := by rw [add_mk, add_mk, Nat.zero_add, Nat.mul_one]
  refine ⟨_, h1.c0, ifP_beq.2 ⟨fun e => ⟨_, h1.c3, _, rfl, put x1 (j := 0) (by decide) ik rfl (by unfold stepX; simp only [e]; rfl)⟩, fun n0 => ifP_beq.2 ⟨fun e => ?_, fun n32 => ifP_beq.2 ⟨fun e => ?_, fun n40 => ?_⟩⟩⟩⟩
  · rw [show (i.c == 32) = true by rw [e]; rfl]
    exact ld (by unfold stepX sizeX; simp only [e]; rfl)
  · rw [show (i.c == 40) = true by rw [e]; rfl]
    exact ld (by unfold stepX sizeX; simp only [e]; rfl)
  by_cases n48 : i.c = 48
  · rw [show (i.c == 48) = true by rw [n48]; rfl]
    exact ld (by unfold stepX sizeX; simp only [n48]; rfl)
  refine ifP_f (by simpa using n48) (ifP_beq.2 ⟨fun e => ?_, fun n64 => ifP_beq.2 ⟨fun e => ?_, fun n72 => ?_⟩⟩)
  · rw [show (i.c == 64) = true by rw [e]; rfl]
    exact ldi (by unfold stepX sizeX; simp only [e]; rfl)
  · rw [show (i.c == 72) = true by rw [e]; rfl]
    exact ldi (by unfold stepX sizeX; simp only [e]; rfl)
  by_cases n80 : i.c = 80
  · rw [show (i.c == 80) = true by rw [n80]; rfl]
    exact ldi (by unfold stepX sizeX; simp only [n80]; rfl)
  have a15 : i.c ∈ wordsL → andI .u32 i.k 15 = i.k := fun h => and15 ik.1 (hw h)
  have pl : U (pkt.length : Int) := ⟨by omega, by omega⟩
  have wl : IntKind.u32.wrap ((pn : Nat) : Int) = (pkt.length : Int) := by rw [wrap_u32_mod]; omega
  refine ifP_f (by simpa using n80) (ifP_beq.2 ⟨fun e => ?_, fun n96 => ifP_beq.2 ⟨fun e => ?_, fun n128 => ifP_beq.2 ⟨fun e => ?_, fun n1 => ifP_beq.2 ⟨fun e => ?_, fun n97 => ifP_beq.2 ⟨fun e => ?_, fun n129 => ifP_beq.2 ⟨fun e => ?_, fun n177 => ifP_beq.2 ⟨fun e => ?_, fun n2 => ifP_beq.2 ⟨fun e => ?_, fun n3 => ifP_beq.2 ⟨fun e => ?_, fun n132 => ifP_beq.2 ⟨fun e => ?_, fun n7 => ifP_beq.2 ⟨fun e => ?_, fun n135 => ?_⟩⟩⟩⟩⟩⟩⟩⟩⟩⟩⟩)
  · have hm : i.c ∈ wordsL := by rw [e]; decide
    have := hw hm
    have := ik.1
    refine ⟨fun u => WsAt u m ws [] ty ∧ IAt u w.heap.size i, S0 ⟨b1, h1⟩, letD fun w2 _ x2 => ⟨_, fun u hu => hu.2.c3, _, rfl, ?_⟩⟩
    rw [a15 hm]
    rw [a15 hm] at at2
    exact ⟨ik.1, by omega, _, fun u hu => hu.1.get (i := 2 + i.k.toNat) (by omega) at2, _, rfl, put (x1.trans x2) (j := 0) (by decide) (h.ok.wd _) rfl (by unfold stepX; simp only [e]; rfl)⟩
  · refine ⟨_, rfl, ?_⟩
    rw [wl]
    exact put x1 (j := 0) (by decide) pl rfl (by unfold stepX; simp only [e]; rfl)
  · exact ⟨_, h1.c3, _, rfl, put x1 (j := 1) (by decide) ik (by rw [add_mk]) (by unfold stepX; simp only [e]; rfl)⟩
  · have hm : i.c ∈ wordsL := by rw [e]; decide
    have := hw hm
    have := ik.1
    refine ⟨fun u => WsAt u m ws [] ty ∧ IAt u w.heap.size i, S0 ⟨b1, h1⟩, letD fun w2 _ x2 => ⟨_, fun u hu => hu.2.c3, _, rfl, ?_⟩⟩
    rw [a15 hm]
    rw [a15 hm] at at2
    exact ⟨ik.1, by omega, _, fun u hu => hu.1.get (i := 2 + i.k.toNat) (by omega) at2, _, rfl, put (x1.trans x2) (j := 1) (by decide) (h.ok.wd _) (by rw [add_mk]) (by unfold stepX; simp only [e]; rfl)⟩
  · refine ⟨_, rfl, ?_⟩
    rw [wl]
    exact put x1 (j := 1) (by decide) pl (by rw [add_mk]) (by unfold stepX; simp only [e]; rfl)
  · have es : stepX pkt i ws = (match loadX pkt i.k 1 with | some v => (0, ws.set 1 (IntKind.u32.wrap (4 * andI .u32 v 15))) | none => (1, ws)) := by unfold stepX; simp only [e]; rfl
    refine ⟨_, h1.c3, ?_⟩
    rw [wrap_u64 ik.1 (by have := ik.2; omega)]
    refine (rread_spec p1 hpn ik.1 (by have := ik.2; omega) (.inl rfl)).mono ?_
    rintro u w4 ⟨hu, rfl⟩
    have two : ∀ {w5 : World} {x : Int}, WsAt w5 m (ws.set 1 x) [] ty → Keep (· = m) w w5 → ∀ t, (∀ w6, WsAt w6 m (ws.set 1 (IntKind.u32.wrap (4 * andI .u32 x 15))) [] ty → Keep (· = m) w w6 → ref5_Machine_Step.J0 (RStep w m (stepX pkt i ws) ty) t w6) → ∃ t147p : Addr, some (Addr.mk m 0 none) = some t147p ∧ ∃ t149 : Int, w5.cell? (t147p.add 1) = some (.int .u32 t149) ∧ ∃ t152p : Addr, some (Addr.mk m 0 none) = some t152p ∧ (∃ u : Value, w5.cell? (t152p.add 1) = some u) ∧ w5.frozen? (t152p.add 1) = false ∧ letW (w5.setCell (t152p.add 1) (.int .u32 (IntKind.u32.wrap (4 * (andI .u32 t149 15))))) fun w6 => ref5_Machine_Step.J0 (RStep w m (stepX pkt i ws) ty) t w6 := by
      intro w5 x b5 k5 t hq
      have e1 : wd (ws.set 1 x) 1 = x := by
        rw [wd, List.getD_eq_getElem?_getD, List.getElem?_set_self (by rw [h.ok.len]; decide)]
        rfl
      refine ⟨_, rfl, _, b5.get (i := 1) (by decide) (by rw [add_mk]), _, rfl, ?_⟩
      rw [e1]
      refine b5.put (i := 1) (by decide) (U.wrap _) (by rw [add_mk]) fun w6 b6 k6 => hq w6 ?_ (k5.trans' k6)
      rw [List.set_set] at b6
      exact b6
    obtain ⟨t0, t1, hv, hX⟩ := rload_fin b1 k1 (j := 1) (by decide) (o := loadX pkt i.k 1) (fun x hx => loadX_U hx) hu (a := (Addr.mk m 0 none).add 1) (by rw [add_mk]) (Q := fun t w5 => ∃ t147p : Addr, some (Addr.mk m 0 none) = some t147p ∧ ∃ t149 : Int, w5.cell? (t147p.add 1) = some (.int .u32 t149) ∧ ∃ t152p : Addr, some (Addr.mk m 0 none) = some t152p ∧ (∃ u : Value, w5.cell? (t152p.add 1) = some u) ∧ w5.frozen? (t152p.add 1) = false ∧ letW (w5.setCell (t152p.add 1) (.int .u32 (IntKind.u32.wrap (4 * (andI .u32 t149 15))))) fun w6 => ref5_Machine_Step.J0 (RStep w m (stepX pkt i ws) ty) t w6)
      (fun x w5 ho b5 k5 => two b5 k5 0 fun w6 b6 k6 => fin 0 _ w6 (by rw [es, ho]) b6 k6) (fun w5 ho k5 b5 => two b5 k5 1 fun w6 b6 k6 => finF w6 (by rw [es, ho]) k6)
    exact ⟨t0, t1, hv, _, rfl, hX⟩
  · have hm : i.c ∈ wordsL := by rw [e]; decide
    have := hw hm
    have := ik.1
    refine ⟨fun u => WsAt u m ws [] ty ∧ IAt u w.heap.size i, S0 ⟨b1, h1⟩, letD fun w2 _ x2 => ⟨_, fun u hu => hu.2.c3, _, rfl, _, fun u hu => hu.1.get (i := 0) (by decide) rfl, _, rfl, ?_⟩⟩
    rw [a15 hm]
    rw [a15 hm] at at2
    exact ⟨ik.1, by omega, put (x1.trans x2) (j := 2 + i.k.toNat) (by omega) (h.ok.wd _) at2 (by unfold stepX; simp only [e]; rfl)⟩
  · have hm : i.c ∈ wordsL := by rw [e]; decide
    have := hw hm
    have := ik.1
    refine ⟨fun u => WsAt u m ws [] ty ∧ IAt u w.heap.size i, S0 ⟨b1, h1⟩, letD fun w2 _ x2 => ⟨_, fun u hu => hu.2.c3, _, rfl, _, fun u hu => hu.1.get (i := 1) (by decide) (by rw [add_mk]), _, rfl, ?_⟩⟩
    rw [a15 hm]
    rw [a15 hm] at at2
    exact ⟨ik.1, by omega, put (x1.trans x2) (j := 2 + i.k.toNat) (by omega) (h.ok.wd _) at2 (by unfold stepX; simp only [e]; rfl)⟩
  · exact ⟨_, rfl, _, b1.get (i := 0) (by decide) rfl, _, rfl, put x1 (j := 0) (by decide) (U.wrap _) rfl (by unfold stepX; simp only [e]; rfl)⟩
  · exact ⟨_, rfl, _, b1.get (i := 0) (by decide) rfl, _, rfl, put x1 (j := 1) (by decide) (h.ok.wd _) (by rw [add_mk]) (by unfold stepX; simp only [e]; rfl)⟩
  · exact ⟨_, rfl, _, b1.get (i := 1) (by decide) (by rw [add_mk]), _, rfl, put x1 (j := 0) (by decide) (h.ok.wd _) rfl (by unfold stepX; simp only [e]; rfl)⟩
  have hop : i.c ∈ rOperationL := op_last hk h5 h6 (by
    simp only [List.mem_cons, List.not_mem_nil, or_false, not_or]
    exact ⟨n0, n32, n40, n48, n64, n72, n80, n96, n128, n1, n97, n129, n177, n2, n3, n132, n7, n135⟩)
  have es : stepX pkt i ws = (match aluX i.c (wd ws 0) (rightX i ws) with | some v => (0, ws.set 0 v) | none => (2, ws)) := by
    rw [stepX, if_neg n0, if_neg n32, if_neg n40, if_neg n48, if_neg n64, if_neg n72, if_neg n80, if_neg n96, if_neg n128, if_neg n1, if_neg n97, if_neg n129, if_neg n177, if_neg n2, if_neg n3, if_neg n132, if_neg n7, if_neg n135]
    rfl
  have ur := rightX_U h.ok hi
  have last : ref5_Machine_Step.J5 (RStep w m (stepX pkt i ws) ty) (some ⟨m, 0, none⟩) ⟨w.heap.size, 0, none⟩ (rightX i ws) w1 := by
    refine ⟨fun u => WsAt u m ws [] ty ∧ IAt u w.heap.size i, S0 ⟨b1, h1⟩, letD fun w2 _ x2 => ⟨_, fun u hu => hu.2.c0, _, rfl, _, fun u hu => hu.1.get (i := 0) (by decide) rfl, (roperate_spec (h.ok.wd 0) ur).mono ?_⟩⟩
    rintro u w3 ⟨hu, rfl⟩
    cases hx : aluX i.c (wd ws 0) (rightX i ws) with
    | some z =>
      rw [hx] at hu es
      subst hu
      exact ⟨_, _, rfl, _, rfl, put (x1.trans x2) (j := 0) (by decide) (aluX_U (h.ok.wd 0) ur hx) rfl es⟩
    | none =>
      rw [hx] at hu es
      subst hu
      refine ⟨_, _, rfl, _, rfl, (b1.ext x2).put (i := 0) (by decide) ⟨by decide, by decide⟩ rfl fun w4 b4 k4 => ?_⟩
      unfold ref5_Machine_Step.J6 ref5_Machine_Step.J0
      rw [es]
      exact ⟨rfl, fun h => absurd (show (2 : Int) = 0 from h) (by decide), (Keep.ext (x1.trans x2)).trans' k4⟩
  refine ⟨_, h1.c3, _, h1.c0, rByX_spec.mono ?_⟩
  rintro u w3 ⟨rfl, rfl⟩
  rw [rByX_op hop]
  refine ⟨_, rfl, ifP_bne.2 ⟨fun h8 => ⟨_, rfl, _, b1.get (i := 1) (by decide) (by rw [add_mk]), ?_⟩, fun h8 => ?_⟩⟩
  · have e : rightX i ws = wd ws 1 := by rw [rightX, if_pos h8]
    rw [← e]
    exact last
  · have e : rightX i ws = i.k := by rw [rightX, if_neg (not_not_intro h8)]
    rw [← e]
    exact last
end
end Go.Proofs.Ytbchjihecdkfeaa
