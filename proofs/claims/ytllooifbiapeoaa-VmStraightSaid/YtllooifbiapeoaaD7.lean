/- The document's machine: what it reads, reckons, asks; a step. -/
import Derived.Test.YtllooifbiapeoaaD5
namespace Go.Proofs.Ytllooifbiapeoaa
open Go.Rd Go.RowKit
set_option linter.unusedVariables false
set_option linter.unusedSimpArgs false
set_option maxRecDepth 100000

section
variable {w : World} {A P : Option Addr} {n c pn pc : Nat} {xs : List Ins} {pkt : List Int}
theorem rcode_spec (hx : IInsns w A n xs) (hok : Inss xs) (hn : n ≤ 281474976710656) (hp : pkt.length = pn) :
    Run Try.prog 28 #[.slice A n c, .slice P pn pc] w fun v w' => v = .int .i64 (codeV xs pkt) ∧ Go.Rd.Ext w w' := by
  refine ref5_Code.ok ((rcheck_spec hx hok hn).mono ?_)
  rintro v w1 ⟨rfl, x1⟩
  refine ⟨_, _, rfl, ifP_bne.2 ⟨fun hne => ⟨?_, x1⟩, fun h0 => ifP_decide.2 ⟨fun hlt => ⟨?_, x1⟩, fun hlt => ⟨?_, x1⟩⟩⟩⟩
  · rw [codeV, if_pos hne]
  · rw [codeV, if_neg (not_not_intro h0), if_pos (by omega)]
  · rw [codeV, if_neg (not_not_intro h0), if_neg (by omega)]
theorem rread_spec (hp : IBytes w P pn pkt) (hn : pn ≤ 65536) {at_ s : Int} (h0 : 0 ≤ at_) (h1 : at_ ≤ 8589934592) (hs : s = 1 ∨ s = 2 ∨ s = 4) :
    Run Try.prog 46 #[.slice P pn pc, .int .u64 at_, .int .i64 s] w fun u w' => u = (match loadX pkt at_ s with | some x => .tuple #[.int .u32 x, .int .i64 0] | none => .tuple #[.int .u32 0, .int .i64 1]) ∧ w' = w := by
  have hl := hp.len
  have no : ¬ fitsB pn at_ s = true → (Value.tuple #[.int .u32 0, .int .i64 1] = (match loadX pkt at_ s with | some x => .tuple #[.int .u32 x, .int .i64 0] | none => .tuple #[.int .u32 0, .int .i64 1]) ∧ w = w) := by
    intro hf
    rw [loadX, hl, if_neg hf]
    exact ⟨rfl, rfl⟩
  refine ref5_read.ok (ifP_decide.2 ⟨fun hlt => no ?_, fun hlt => ?_⟩)
  · rw [wrap_u64 (by omega) (by omega)] at hlt
    intro hf
    obtain ⟨h2, h3, h4⟩ := fitsB_iff.1 hf
    omega
  · rw [wrap_i64 (by omega) (by omega)]
    refine (rget_spec hp (by omega)).mono ?_
    rintro u w1 ⟨rfl, rfl⟩
    by_cases hf : fitsB pn at_ s = true
    · rw [if_pos hf]
      refine ⟨_, _, rfl, ifP_f rfl ?_⟩
      rw [loadX, hl, if_pos hf]
      exact ⟨rfl, rfl⟩
    · rw [if_neg hf]
      exact ⟨_, _, rfl, ifP_t rfl (no hf)⟩
def sizeX (c : Int) : Int := if c = 32 ∨ c = 64 then 4 else if c = 40 ∨ c = 72 then 2 else 1
theorem rsize_spec {c : Int} : Run Try.prog 47 #[.int .u16 c] w fun u w' => u = .int .i64 (sizeX c) ∧ w' = w := by
  refine ref5_size.ok (ifP_beq.2 ⟨fun h => ifP_t (by simpa using h) ⟨?_, rfl⟩, fun h => ?_⟩)
  · rw [sizeX, if_pos (.inl h)]
  · refine ifP_of (fun h64 => ⟨?_, rfl⟩) fun h64 => ifP_beq.2 ⟨fun h40 => ifP_t (by simpa using h40) ⟨?_, rfl⟩, fun h40 => ifP_of (fun h72 => ⟨?_, rfl⟩) fun h72 => ⟨?_, rfl⟩⟩
    · rw [sizeX, if_pos (.inr (by simpa using h64))]
    · rw [sizeX, if_neg (by subst h40; decide), if_pos (.inl h40)]
    · have e : c = 72 := by simpa using h72
      rw [sizeX, if_neg (by subst e; decide), if_pos (.inr e)]
    · rw [sizeX, if_neg (fun hh => hh.elim h (by simpa using h64)), if_neg (fun hh => hh.elim h40 (by simpa using h72))]
theorem rshift_spec {a b : Int} (ha : U a) (hb : U b) {left : Bool} : Run Try.prog 61 #[.int .u32 a, .int .u32 b, .bool left] w fun u w' => u = .int .u32 (if left = true then IntKind.u32.wrap (a * 2 ^ (min (Int.toNat b) (IntKind.bits .u32))) else Int.fdiv a (2 ^ (min (Int.toNat b) (IntKind.bits .u32)))) ∧ w' = w := by
  unfold U at ha hb
  refine ref5_Shift.ok (ifP_decide.2 ⟨fun h => ⟨?_, rfl⟩, fun h => ifP_of (fun hl => ⟨hb.1, ?_, rfl⟩) fun hl => ⟨hb.1, ?_, rfl⟩⟩)
  · have e : min (Int.toNat b) (IntKind.bits .u32) = 32 := by
      show min (Int.toNat b) 32 = 32
      omega
    rw [e]
    cases left with
    | true =>
      rw [if_pos rfl, wrap_u32_mod]
      have : a * 2 ^ 32 % 4294967296 = 0 := by
        show a * 4294967296 % 4294967296 = 0
        omega
      rw [this]
    | false =>
      rw [if_neg (by decide), Int.fdiv_eq_ediv_of_nonneg a (by decide)]
      have : a / 2 ^ 32 = 0 := by
        show a / 4294967296 = 0
        omega
      rw [this]
  · rw [if_pos hl]
  · rw [if_neg (by rw [hl]; decide)]
theorem roperate_spec {c x y : Int} (hx : U x) (hy : U y) : Run Try.prog 48 #[.int .u16 c, .int .u32 x, .int .u32 y] w fun u w' => u = (match aluX c x y with | some z => .tuple #[.int .u32 z, .int .i64 0] | none => .tuple #[.int .u32 0, .int .i64 2]) ∧ w' = w := by
  refine ref5_Operate.ok (ifP_beq.2 ⟨fun h => ⟨?_, rfl⟩, fun h1 => ifP_beq.2 ⟨fun h => ⟨?_, rfl⟩, fun h2 => ifP_beq.2 ⟨fun h => ⟨?_, rfl⟩, fun h3 => ifP_beq.2 ⟨fun h => ⟨?_, rfl⟩, fun h4 => ifP_beq.2 ⟨fun h => ⟨?_, rfl⟩, fun h5 => ifP_beq.2 ⟨fun h => ⟨?_, rfl⟩, fun h6 => ifP_beq.2 ⟨fun h => (rshift_spec hx hy).mono ?_, fun h7 => ifP_beq.2 ⟨fun h => (rshift_spec hx hy).mono ?_, fun h8 => ifP_beq.2 ⟨fun h => ⟨?_, rfl⟩, fun h9 => ifP_beq.2 ⟨fun h => ⟨h9, ?_, rfl⟩, fun h10 => ⟨h9, ?_, rfl⟩⟩⟩⟩⟩⟩⟩⟩⟩⟩⟩)
  · rw [aluX, if_pos (show opOf c = 4 from h)]
  · rw [aluX, if_neg (show ¬ opOf c = 4 from h1), if_pos (show opOf c = 20 from h)]
  · rw [aluX, if_neg (show ¬ opOf c = 4 from h1), if_neg (show ¬ opOf c = 20 from h2), if_pos (show opOf c = 36 from h)]
  · rw [aluX, if_neg (show ¬ opOf c = 4 from h1), if_neg (show ¬ opOf c = 20 from h2), if_neg (show ¬ opOf c = 36 from h3), if_pos (show opOf c = 68 from h)]
  · rw [aluX, if_neg (show ¬ opOf c = 4 from h1), if_neg (show ¬ opOf c = 20 from h2), if_neg (show ¬ opOf c = 36 from h3), if_neg (show ¬ opOf c = 68 from h4), if_pos (show opOf c = 84 from h)]
  · rw [aluX, if_neg (show ¬ opOf c = 4 from h1), if_neg (show ¬ opOf c = 20 from h2), if_neg (show ¬ opOf c = 36 from h3), if_neg (show ¬ opOf c = 68 from h4), if_neg (show ¬ opOf c = 84 from h5), if_pos (show opOf c = 164 from h)]
  · rintro u w1 ⟨rfl, rfl⟩
    refine ⟨_, rfl, ?_, rfl⟩
    rw [aluX, if_neg (show ¬ opOf c = 4 from h1), if_neg (show ¬ opOf c = 20 from h2), if_neg (show ¬ opOf c = 36 from h3), if_neg (show ¬ opOf c = 68 from h4), if_neg (show ¬ opOf c = 84 from h5), if_neg (show ¬ opOf c = 164 from h6), if_pos (show opOf c = 100 from h), if_pos rfl]
  · rintro u w1 ⟨rfl, rfl⟩
    refine ⟨_, rfl, ?_, rfl⟩
    rw [aluX, if_neg (show ¬ opOf c = 4 from h1), if_neg (show ¬ opOf c = 20 from h2), if_neg (show ¬ opOf c = 36 from h3), if_neg (show ¬ opOf c = 68 from h4), if_neg (show ¬ opOf c = 84 from h5), if_neg (show ¬ opOf c = 164 from h6), if_neg (show ¬ opOf c = 100 from h7), if_pos (show opOf c = 116 from h), if_neg (by decide)]
  · rw [aluX, if_neg (show ¬ opOf c = 4 from h1), if_neg (show ¬ opOf c = 20 from h2), if_neg (show ¬ opOf c = 36 from h3), if_neg (show ¬ opOf c = 68 from h4), if_neg (show ¬ opOf c = 84 from h5), if_neg (show ¬ opOf c = 164 from h6), if_neg (show ¬ opOf c = 100 from h7), if_neg (show ¬ opOf c = 116 from h8), if_pos h]
  · rw [aluX, if_neg (show ¬ opOf c = 4 from h1), if_neg (show ¬ opOf c = 20 from h2), if_neg (show ¬ opOf c = 36 from h3), if_neg (show ¬ opOf c = 68 from h4), if_neg (show ¬ opOf c = 84 from h5), if_neg (show ¬ opOf c = 164 from h6), if_neg (show ¬ opOf c = 100 from h7), if_neg (show ¬ opOf c = 116 from h8), if_neg h9, if_pos (show opOf c = 52 from h)]
  · rw [aluX, if_neg (show ¬ opOf c = 4 from h1), if_neg (show ¬ opOf c = 20 from h2), if_neg (show ¬ opOf c = 36 from h3), if_neg (show ¬ opOf c = 68 from h4), if_neg (show ¬ opOf c = 84 from h5), if_neg (show ¬ opOf c = 164 from h6), if_neg (show ¬ opOf c = 100 from h7), if_neg (show ¬ opOf c = 116 from h8), if_neg h9, if_neg (show ¬ opOf c = 52 from h10)]

theorem rByX_jump {c : Int} (h : c ∈ rJumpL) : rByXB c = (andI .u16 c 8 != 0) := by
  have : ∀ x ∈ rJumpL, rByXB x = (andI .u16 x 8 != 0) := by decide +kernel
  exact this c h
theorem rByX_op {c : Int} (h : c ∈ rOperationL) : rByXB c = (andI .u16 c 8 != 0) := by
  have : ∀ x ∈ rOperationL, rByXB x = (andI .u16 x 8 != 0) := by decide +kernel
  exact this c h
theorem rholds_spec {i : Ins} {a : Int} {ws : List Int} (h : i.c ∈ rJumpL) : Run Try.prog 30 #[.agg #[.int .u16 i.c, .int .u8 i.t, .int .u8 i.f, .int .u32 i.k], .int .u32 a, .int .u32 (wd ws 1)] w fun u w' => u = .bool (askX i.c a (rightX i ws)) ∧ Go.Rd.Ext w w' := by
  refine ref5_Holds.ok (letA fun w1 h1 x1 s1 => ⟨_, IAt.c3 h1, _, IAt.c0 h1, rByX_spec.mono ?_⟩)
  rintro u w2 ⟨rfl, rfl⟩
  have fin : ∀ b, b = rightX i ws → ref5_Holds.J0 (fun u w' => u = .bool (askX i.c a (rightX i ws)) ∧ Go.Rd.Ext w w') a (newA w) b w2 := by
    rintro b rfl
    refine ⟨_, IAt.c0 h1, ifP_beq.2 ⟨fun h => ⟨?_, x1⟩, fun h1 => ifP_beq.2 ⟨fun h => ⟨?_, x1⟩, fun h2 => ifP_beq.2 ⟨fun h => ⟨?_, x1⟩, fun h3 => ⟨?_, x1⟩⟩⟩⟩⟩
    · rw [askX, if_pos (show opOf i.c = 21 from h)]
    · rw [askX, if_neg (show ¬ opOf i.c = 21 from h1), if_pos (show opOf i.c = 37 from h)]
    · rw [askX, if_neg (show ¬ opOf i.c = 21 from h1), if_neg (show ¬ opOf i.c = 37 from h2), if_pos (show opOf i.c = 53 from h)]
    · rw [askX, if_neg (show ¬ opOf i.c = 21 from h1), if_neg (show ¬ opOf i.c = 37 from h2), if_neg (show ¬ opOf i.c = 53 from h3)]
  rw [rByX_jump h]
  refine ⟨_, rfl, ifP_bne.2 ⟨fun h8 => fin _ ?_, fun h8 => fin _ ?_⟩⟩
  · rw [rightX, if_pos h8]
  · rw [rightX, if_neg (not_not_intro h8)]
end

/-! ## A step -/

def RStep (w : World) (m : Nat) (r : Int × List Int) (ty : TypeId) (u : Value) (w' : World) : Prop := u = .int .i64 r.1 ∧ (r.1 = 0 → WsAt w' m r.2 [] ty) ∧ Keep (· = m) w w'
section
variable {w w1 : World} {m : Nat} {ws : List Int} {P : Option Addr} {pn pc : Nat} {pkt : List Int} {i : Ins} {ty : TypeId}
theorem and15 {k : Int} (h0 : 0 ≤ k) (h1 : k < 16) : andI .u32 k 15 = k := by
  have h : ∀ n : Fin 16, andI .u32 ((n.val : Nat) : Int) 15 = ((n.val : Nat) : Int) := by decide +kernel
  have := h ⟨k.toNat, by omega⟩
  simp only at this
  rwa [Int.toNat_of_nonneg h0] at this
theorem op_last {c : Int} (hk : isKnown c = true) (h5 : classOf c ≠ 5) (h6 : classOf c ≠ 6) (hn : c ∉ [0, 32, 40, 48, 64, 72, 80, 96, 128, 1, 97, 129, 177, 2, 3, 132, 7, 135]) : c ∈ rOperationL := by
  have h1 : ∀ x ∈ knownL ++ (aluL ++ testL), classOf x ≠ 5 → classOf x ≠ 6 → x ∉ [(0 : Int), 32, 40, 48, 64, 72, 80, 96, 128, 1, 97, 129, 177, 2, 3, 132, 7, 135] → x ∈ rOperationL := by decide +kernel
  exact h1 c (of_decide_eq_true hk) h5 h6 hn
def readV (o : Option Int) : Value := match o with | some x => .tuple #[.int .u32 x, .int .i64 0] | none => .tuple #[.int .u32 0, .int .i64 1]
theorem rload_fin (h : WsAt w1 m ws [] ty) (k0 : Keep (· = m) w w1) {j : Nat} (hj : j < 18) {o : Option Int} (hU : ∀ x, o = some x → U x) {v : Value} (hv : v = readV o) {a : Addr} (ha : a = ⟨m, j, none⟩) {Q : Int → World → Prop}
    (hs : ∀ x w2, o = some x → WsAt w2 m (ws.set j x) [] ty → Keep (· = m) w w2 → Q 0 w2) (hn : ∀ w2, o = none → Keep (· = m) w w2 → WsAt w2 m (ws.set j 0) [] ty → Q 1 w2) :
    ∃ t0 t1 : Int, v = .tuple #[.int .u32 t0, .int .i64 t1] ∧ ((∃ u : Value, w1.cell? a = some u) ∧ w1.frozen? a = false ∧ letW (w1.setCell a (.int .u32 t0)) fun w2 => Q t1 w2) := by
  cases o with
  | some x => exact ⟨x, 0, hv, h.put hj (hU x rfl) ha fun w2 h2 k2 => hs x w2 rfl h2 (k0.trans' k2)⟩
  | none => exact ⟨0, 1, hv, h.put hj ⟨by decide, by decide⟩ ha fun w2 h2 k2 => hn w2 rfl (k0.trans' k2) h2⟩
theorem loadX_U {a s x : Int} (h : loadX pkt a s = some x) : U x := by
  unfold loadX at h
  split at h
  · obtain rfl := Option.some.inj h; exact getV_U _ _ _
  · cases h
end
end Go.Proofs.Ytllooifbiapeoaa
