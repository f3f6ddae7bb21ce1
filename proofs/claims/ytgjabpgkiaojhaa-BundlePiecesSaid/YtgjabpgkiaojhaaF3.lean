/- The document's answers about a frame. -/
import Derived.Test.YtgjabpgkiaojhaaFDef
import Derived.Test.YtgjabpgkiaojhaaWRGet
namespace Go.Proofs.Ytgjabpgkiaojhaa
open Go.Rd Go.RowKit
set_option linter.unusedVariables false
set_option linter.unusedSimpArgs false

theorem rcheck_spec {w : World} {k : Lnk} : Run Try.prog 43 #[.agg #[.bool k.ac, .bool k.pf, .int .i64 k.mp]] w fun v w' => v = .int .i64 (if linkOk k = true then 0 else 70) ∧ Go.Rd.Ext w w' := by
  refine ref7_Check.ok (letA fun w1 h1 x1 s1 => ?_)
  have c2 : w1.cell? ((newA w).add 2) = some (.int .i64 k.mp) := by rw [newA, add_mk]; exact (cell_of h1).trans rfl
  have lk : linkOk k = decide (k.mp = 0 ∨ k.mp = 1 ∨ k.mp = 2) := rfl
  refine ⟨_, c2, ifP_decide.2 ⟨fun h0 => ifP_t rfl ⟨?_, x1⟩, fun h0 => ⟨_, c2, ifP_decide.2 ⟨fun h2 => ⟨?_, x1⟩, fun h2 => ⟨?_, x1⟩⟩⟩⟩⟩
  · rw [if_neg (by rw [lk, decide_eq_true_eq]; omega)]
  · rw [if_neg (by rw [lk, decide_eq_true_eq]; omega)]
  · rw [if_pos (by rw [lk, decide_eq_true_eq]; omega)]

section
variable {w : World} {k : Lnk} {A : Option Addr} {n c : Nat} {xs : List Int} {a : Int}

def plainV : Ex Int → Value
  | .ok a => .tuple #[.int .i64 a, .int .i64 0]
  | .error e => .tuple #[.int .i64 0, .int .i64 e]
theorem rplain_spec (hb : IBytes w A n xs) (hx : ∀ x ∈ xs, 0 ≤ x ∧ x ≤ 255) :
    Run Try.prog 48 #[.agg #[.bool k.ac, .bool k.pf, .int .i64 k.mp], .slice A n c] w fun v w' => v = plainV (plainX k xs) ∧ Go.Rd.Ext w w' := by
  have hl := hb.len
  refine ref7_Plain.ok (letA fun w1 h1 x1 s1 => ?_)
  have b1 := hb.ext x1
  have c0 : w1.cell? (newA w) = some (.bool k.ac) := (cell_of h1).trans rfl
  have fin : ∀ t : Bool, (t = true ↔ 2 ≤ xs.length ∧ xs.getD 0 0 = 255 ∧ xs.getD 1 0 = 3) → ref7_Plain.J0 (fun v w' => v = plainV (plainX k xs) ∧ Go.Rd.Ext w w') A n c (newA w) t w1 := by
    intro t ht
    refine ifP_of (fun h => ⟨by rw [plainX, if_pos (ht.1 h)]; rfl, x1⟩) fun h => ⟨_, c0, ?_⟩
    have e : plainX k xs = if k.ac = true then .ok 0 else if xs.length < 2 then .error 72 else .error 73 := by rw [plainX, if_neg (fun h2 => by rw [ht.2 h2] at h; cases h)]
    refine ifP_of (fun hac => ⟨by rw [e, if_pos hac]; rfl, x1⟩) fun hac => ifP_decide.2 ⟨fun h2 => ⟨?_, x1⟩, fun h2 => ⟨?_, x1⟩⟩
    · rw [e, if_neg (by rw [hac]; decide), if_pos (by omega)]; rfl
    · rw [e, if_neg (by rw [hac]; decide), if_neg (by omega)]; rfl
  refine ifP_decide.2 ⟨fun h2 => ⟨by omega, by omega, ?_⟩, fun h2 => fin _ ⟨fun h => (by cases h), fun h => absurd h.1 (by omega)⟩⟩
  obtain ⟨p, hp, hc0⟩ := IBytes.get b1 (j := 0) (by omega) (by omega)
  refine ⟨p, hp, _, hc0, ifP_beq.2 ⟨fun h3 => ⟨by omega, by omega, ?_⟩, fun h3 => fin _ ⟨fun h => (by cases h), fun h => absurd h.2.1 h3⟩⟩⟩
  obtain ⟨p, hp, hc1⟩ := IBytes.get b1 (j := 1) (by omega) (by omega)
  refine ⟨p, hp, _, hc1, fin _ ?_⟩
  rw [beq_iff_eq]
  exact ⟨fun h => ⟨by omega, h3, h⟩, fun h => h.2.2⟩

def protoV : Ex (Int × Int) → Value
  | .ok (p, a) => .tuple #[.int .u32 p, .int .i64 a, .int .i64 0]
  | .error e => .tuple #[.int .u32 0, .int .i64 0, .int .i64 e]
theorem tmod2 {x : Int} (h : 0 ≤ x) : Int.tmod x 2 = x % 2 := Int.tmod_eq_emod_of_nonneg h
theorem rproto_spec (hb : IBytes w A n xs) (hx : ∀ x ∈ xs, 0 ≤ x ∧ x ≤ 255) (h0 : 0 ≤ a) (h1 : a ≤ 140737488355328) :
    Run Try.prog 49 #[.agg #[.bool k.ac, .bool k.pf, .int .i64 k.mp], .slice A n c, .int .i64 a] w fun v w' => v = protoV (protoX k xs a) ∧ Go.Rd.Ext w w' := by
  have hl := hb.len
  refine ref7_Proto.ok (letA fun w1 hw1 x1 s1 => ?_)
  have b1 := hb.ext x1
  have c1 : w1.cell? ((newA w).add 1) = some (.bool k.pf) := by rw [newA, add_mk]; exact (cell_of hw1).trans rfl
  refine ifP_decide.2 ⟨fun hge => ⟨by rw [protoX, if_pos (by omega)]; rfl, x1⟩, fun hlt => ⟨h0, by omega, ?_⟩⟩
  obtain ⟨p, hp, hc0⟩ := IBytes.get b1 (j := a) h0 (by omega)
  have g0 := getD_byte hx a.toNat
  refine ⟨p, hp, _, hc0, ?_⟩
  rw [wrap_u32 (x := xs.getD a.toNat 0) g0.1 (by omega), tmod2 g0.1, wrap_i64 (x := a + 1) (by omega) (by omega), wrap_i64 (x := a + 2) (by omega) (by omega)]
  refine ifP_beq.2 ⟨fun hodd => ⟨_, c1, ifP_not.2 (ifP_of (fun hpf => ⟨?_, x1⟩) fun hpf => ⟨?_, x1⟩)⟩, fun hev => ifP_decide.2 ⟨fun hge => ⟨?_, x1⟩, fun hlt2 => ⟨by omega, by omega, ?_⟩⟩⟩
  · rw [protoX, if_neg (by omega), if_pos hodd, if_pos hpf]; rfl
  · rw [protoX, if_neg (by omega), if_pos hodd, if_neg (by rw [hpf]; decide)]; rfl
  · rw [protoX, if_neg (by omega), if_neg hev, if_pos (by omega)]; rfl
  obtain ⟨p, hp, hc1⟩ := IBytes.get b1 (j := a + 1) (by omega) (by omega)
  have g1 := getD_byte hx (a + 1).toNat
  refine ⟨p, hp, _, hc1, ?_⟩
  rw [wrap_u32 (x := xs.getD (a + 1).toNat 0) g1.1 (by omega), tmod2 g1.1, wrap_u32 (x := 256 * xs.getD a.toNat 0) (by omega) (by omega), wrap_u32 (x := 256 * xs.getD a.toNat 0 + xs.getD (a + 1).toNat 0) (by omega) (by omega)]
  refine ifP_beq.2 ⟨fun hev2 => ⟨?_, x1⟩, fun hodd2 => ⟨?_, x1⟩⟩
  · rw [protoX, if_neg (by omega), if_neg hev, if_neg (by omega), if_neg (by omega)]; rfl
  · rw [protoX, if_neg (by omega), if_neg hev, if_neg (by omega), if_pos (by omega)]; rfl

/-! ## A piece's header -/

theorem andnot_bits {x T M K : BitVec 32} (hT : K &&& T = 0) (hM : K &&& M = 0) : (x &&& ~~~T) &&& ~~~M = x &&& K ↔ x &&& ~~~((T ||| M) ||| K) = 0 := by
  constructor
  · intro h
    ext i hi
    have h1 := congrArg (fun v => v.getLsbD i) h
    have h2 := congrArg (fun v => v.getLsbD i) hT
    have h3 := congrArg (fun v => v.getLsbD i) hM
    simp [hi] at h1 h2 h3 ⊢
    cases hx : x[i] <;> cases ht : T[i] <;> cases hm : M[i] <;> cases hk : K[i] <;> simp_all
  · intro h
    ext i hi
    have h1 := congrArg (fun v => v.getLsbD i) h
    have h2 := congrArg (fun v => v.getLsbD i) hT
    have h3 := congrArg (fun v => v.getLsbD i) hM
    simp [hi] at h1 h2 h3 ⊢
    cases hx : x[i] <;> cases ht : T[i] <;> cases hm : M[i] <;> cases hk : K[i] <;> simp_all

theorem ofInt_val (v : BitVec 32) : BitVec.ofInt 32 (IntKind.u32.wrap (v.toNat : Int)) = v := by
  have := v.isLt
  rw [wrap_u32 (by omega) (by omega)]
  simp
theorem val_inj {u v : BitVec 32} : IntKind.u32.wrap (u.toNat : Int) = IntKind.u32.wrap (v.toNat : Int) ↔ u = v :=
  ⟨fun h => by rw [← ofInt_val u, h, ofInt_val], fun h => by rw [h]⟩
theorem head_cond {h T M K : Int} (hT : BitVec.ofInt 32 K &&& BitVec.ofInt 32 T = 0) (hM : BitVec.ofInt 32 K &&& BitVec.ofInt 32 M = 0) :
    andNotI .u32 (andNotI .u32 h T) M = andI .u32 h K ↔ andNotI .u32 h (orI .u32 (orI .u32 T M) K) = 0 := by
  have e1 : andNotI .u32 (andNotI .u32 h T) M = IntKind.u32.wrap (((BitVec.ofInt 32 h &&& ~~~(BitVec.ofInt 32 T)) &&& ~~~(BitVec.ofInt 32 M)).toNat : Int) := by
    show IntKind.u32.wrap ((BitVec.ofInt 32 (IntKind.u32.wrap ((BitVec.ofInt 32 h &&& ~~~(BitVec.ofInt 32 T)).toNat : Int)) &&& ~~~(BitVec.ofInt 32 M)).toNat : Int) = _
    rw [ofInt_val]
  have e2 : andNotI .u32 h (orI .u32 (orI .u32 T M) K) = IntKind.u32.wrap ((BitVec.ofInt 32 h &&& ~~~((BitVec.ofInt 32 T ||| BitVec.ofInt 32 M) ||| BitVec.ofInt 32 K)).toNat : Int) := by
    show IntKind.u32.wrap ((BitVec.ofInt 32 h &&& ~~~(BitVec.ofInt 32 (IntKind.u32.wrap ((BitVec.ofInt 32 (IntKind.u32.wrap ((BitVec.ofInt 32 T ||| BitVec.ofInt 32 M).toNat : Int)) ||| BitVec.ofInt 32 K).toNat : Int)))).toNat : Int) = _
    rw [ofInt_val, ofInt_val]
  have e0 : (0 : Int) = IntKind.u32.wrap (((0 : BitVec 32)).toNat : Int) := by decide
  rw [e1, e2]
  show IntKind.u32.wrap _ = IntKind.u32.wrap ((BitVec.ofInt 32 h &&& BitVec.ofInt 32 K).toNat : Int) ↔ _
  rw [val_inj, andnot_bits hT hM]
  constructor
  · intro hh; rw [hh]; rfl
  · intro hh; exact val_inj.1 (hh.trans e0)

def headV : Ex (Bool × Bool × Int × Int) → Value
  | .ok (b, e, s, a) => .tuple #[.bool b, .bool e, .int .u32 s, .int .i64 a, .int .i64 0]
  | .error e => .tuple #[.bool false, .bool false, .int .u32 0, .int .i64 0, .int .i64 e]
theorem rhead_one {w0 : World} (hb : IBytes w A n xs) (hn : n ≤ 140737488355328) (h0 : 0 ≤ a) (h1 : a ≤ 140737488355328) (x0 : Go.Rd.Ext w0 w) {size bits : Int}
    (hs : size = pieceSize k) (hq : IntKind.u32.wrap ((IntKind.u32.wrap (1 * 2 ^ (min (Int.toNat bits) (IntKind.bits .u32)))) - 1) = seqMask k)
    (ht : IntKind.u32.wrap (1 * 2 ^ (min (Int.toNat (IntKind.i64.wrap ((IntKind.i64.wrap (8 * size)) - 1))) (IntKind.bits .u32))) = topBit k) (hh : IntKind.u32.wrap (Int.tdiv (topBit k) 2) = midBit k) (hp : 0 ≤ IntKind.i64.wrap (IntKind.i64.wrap (8 * size) - 1)) (hp2 : 0 ≤ bits)
    (hT : BitVec.ofInt 32 (seqMask k) &&& BitVec.ofInt 32 (topBit k) = 0) (hM : BitVec.ofInt 32 (seqMask k) &&& BitVec.ofInt 32 (midBit k) = 0) :
    ref7_Head.J0 (fun v w' => v = headV (headX k xs a) ∧ Go.Rd.Ext w0 w') A n c a size bits w := by
  have hl := hb.len
  have ps : pieceSize k = 2 ∨ pieceSize k = 4 := by unfold pieceSize; split <;> omega
  unfold ref7_Head.J0
  rw [ht, hh, hq]
  refine (rget_spec hb hn).mono ?_
  rintro v w2 ⟨rfl, rfl⟩
  by_cases hf : fitsB n a size = true
  · rw [if_pos hf]
    obtain ⟨_, _, h2⟩ := fitsB_iff.1 hf
    refine ⟨_, _, rfl, ifP_f rfl ⟨hp, hp2, ?_⟩⟩
    rw [wrap_i64 (x := a + size) (by omega) (by omega), hs]
    refine ifP_bne.2 ⟨fun hbad => ⟨?_, x0⟩, fun hok => ⟨?_, x0⟩⟩
    · simp only [headX]
      rw [if_neg (by omega), if_neg (fun h => hbad ((head_cond hT hM).2 h))]; rfl
    · simp only [headX]
      rw [if_neg (by omega), if_pos ((head_cond hT hM).1 hok)]; rfl
  · rw [if_neg hf]
    refine ⟨_, _, rfl, ifP_t rfl ⟨?_, x0⟩⟩
    have : ¬ (a ≤ n - size) := fun h => hf (fitsB_iff.2 ⟨by omega, h0, h⟩)
    rw [headX, if_pos (by omega)]; rfl

theorem rhead_spec (hb : IBytes w A n xs) (hn : n ≤ 140737488355328) (h0 : 0 ≤ a) (h1 : a ≤ 140737488355328) :
    Run Try.prog 50 #[.agg #[.bool k.ac, .bool k.pf, .int .i64 k.mp], .slice A n c, .int .i64 a] w fun v w' => v = headV (headX k xs a) ∧ Go.Rd.Ext w w' := by
  refine ref7_Head.ok (letA fun w1 hw1 x1 s1 => ?_)
  have c2 : w1.cell? ((newA w).add 2) = some (.int .i64 k.mp) := by rw [newA, add_mk]; exact (cell_of hw1).trans rfl
  refine ⟨_, c2, ifP_beq.2 ⟨fun h2 => ?_, fun h2 => ?_⟩⟩
  · refine rhead_one (hb.ext x1) hn h0 h1 x1 ?_ ?_ ?_ ?_ (by decide) (by decide) ?_ ?_
    · rw [pieceSize, if_pos h2]; rfl
    · rw [seqMask, if_pos h2]; decide
    · rw [topBit, if_pos h2]; exact bits4
    · rw [topBit, midBit, if_pos h2, if_pos h2]; decide
    · rw [seqMask, topBit, if_pos h2, if_pos h2]; decide
    · rw [seqMask, midBit, if_pos h2, if_pos h2]; decide
  · refine rhead_one (hb.ext x1) hn h0 h1 x1 ?_ ?_ ?_ ?_ (by decide) (by decide) ?_ ?_
    · rw [pieceSize, if_neg h2]; rfl
    · rw [seqMask, if_neg h2]; decide
    · rw [topBit, if_neg h2]; exact bits2
    · rw [topBit, midBit, if_neg h2, if_neg h2]; decide
    · rw [seqMask, topBit, if_neg h2, if_neg h2]; decide
    · rw [seqMask, midBit, if_neg h2, if_neg h2]; decide

/-! ## A piece -/

def pieceR (k : Lnk) (xs : List Int) : Ex Vw := if 65535 < xs.length then .error 71 else pieceX k xs
theorem rpiece_spec (hb : IBytes w A n xs) (hx : ∀ x ∈ xs, 0 ≤ x ∧ x ≤ 255) (hn : n ≤ 140737488355328) :
    Run Try.prog 32 #[.agg #[.bool k.ac, .bool k.pf, .int .i64 k.mp], .slice A n c] w fun v w' => v = ansX (pieceR k xs) ∧ Go.Rd.Ext w w' := by
  have hl := hb.len
  refine ref7_Piece.ok (letA fun w1 h1 x1 s1 => letA fun w2 h2 x2 s2 => ?_)
  have x02 := x1.trans x2
  -- one way to an end: the nine are written, and told
  have fin : ∀ {w3 : World} (r : Ex Vw) (v : Vw) (e : Int), Go.Rd.Ext w2 w3 → ansX r = .tuple #[v.v, .int .i64 e] → r = pieceR k xs → storeRow (newA w1) 0 v.row w3 fun w' => ∃ t0 : Int, w'.cell? (newA w1) = some (.int .u32 t0) ∧ ∃ t1 : Bool, w'.cell? ((newA w1).add 1) = some (.bool t1) ∧ ∃ t2 : Bool, w'.cell? ((newA w1).add 2) = some (.bool t2) ∧ ∃ t3 : Bool, w'.cell? ((newA w1).add 3) = some (.bool t3) ∧
      ∃ t4 : Int, w'.cell? ((newA w1).add 4) = some (.int .u32 t4) ∧ ∃ t5 : Int, w'.cell? ((newA w1).add 5) = some (.int .i64 t5) ∧ ∃ t6 : Int, w'.cell? ((newA w1).add 6) = some (.int .i64 t6) ∧ ∃ t7 : Int, w'.cell? ((newA w1).add 7) = some (.int .i64 t7) ∧
      ∃ t8 : Int, w'.cell? ((newA w1).add 8) = some (.int .i64 t8) ∧ (fun v w' => v = ansX (pieceR k xs) ∧ Go.Rd.Ext w w') (.tuple #[.agg #[.int .u32 t0, .bool t1, .bool t2, .bool t3, .int .u32 t4, .int .i64 t5, .int .i64 t6, .int .i64 t7, .int .i64 t8], .int .i64 e]) w' := by
    intro w3 r v e x3 he hr
    refine tell9 (x3.heap h2) rfl fun w4 k4 => ⟨?_, (x02.trans x3).fresh k4 fun i hi => by rw [hi]; omega⟩
    rw [← hr, he]; rfl
  have link : ∀ {w3 : World}, Go.Rd.Ext w2 w3 → w3.cell? (newA w) = some (.bool k.ac) ∧ w3.cell? ((newA w).add 1) = some (.bool k.pf) ∧ w3.cell? ((newA w).add 2) = some (.int .i64 k.mp) := by
    intro w3 x3
    have h := x3.heap (x2.heap h1)
    refine ⟨(cell_of h).trans rfl, ?_, ?_⟩
    · rw [newA, add_mk]; exact (cell_of h).trans rfl
    · rw [newA, add_mk]; exact (cell_of h).trans rfl
  have b2 := hb.ext x02
  refine ifP_decide.2 ⟨fun hbig => fin (.error 71) vw0 71 (Keep.refl _) rfl (by rw [pieceR, if_pos (by omega)]), fun hsm => ?_⟩
  have er : pieceR k xs = pieceX k xs := by rw [pieceR, if_neg (by omega)]
  obtain ⟨l0, l1, l2⟩ := link (Keep.refl w2)
  refine ⟨_, l0, _, l1, _, l2, (rplain_spec (k := k) b2 hx).mono ?_⟩
  rintro v w3 ⟨rfl, x3⟩
  cases hpl : plainX k xs with
  | error e =>
    have he : e ≠ 0 := by
      unfold plainX at hpl
      split at hpl
      · cases hpl
      · split at hpl
        · cases hpl
        · split at hpl <;> (obtain rfl := Except.error.inj hpl; decide)
    refine ⟨_, _, rfl, ifP_bne.2 ⟨fun _ => fin (.error e) vw0 e x3 rfl (by rw [er, pieceX, hpl]), fun h => absurd h he⟩⟩
  | ok a1 =>
    have ha1 : a1 = 0 ∨ a1 = 2 := by
      unfold plainX at hpl
      split at hpl
      · right; exact (Except.ok.inj hpl).symm
      · split at hpl
        · left; exact (Except.ok.inj hpl).symm
        · split at hpl <;> cases hpl
    refine ⟨_, _, rfl, ifP_bne.2 ⟨fun h => absurd rfl h, fun _ => ?_⟩⟩
    obtain ⟨l0, l1, l2⟩ := link x3
    have b3 := b2.ext x3
    refine ⟨_, l0, _, l1, _, l2, (rproto_spec (k := k) b3 hx (by omega) (by omega)).mono ?_⟩
    rintro v w4 ⟨rfl, x4⟩
    cases hpr : protoX k xs a1 with
    | error e =>
      have he : e ≠ 0 := by
        unfold protoX at hpr
        repeat' split at hpr
        all_goals first | (obtain rfl := Except.error.inj hpr; decide) | cases hpr
      refine ⟨_, _, _, rfl, ifP_bne.2 ⟨fun _ => fin (.error e) vw0 e (x3.trans x4) rfl (by rw [er, pieceX, hpl]; simp only []; rw [hpr]), fun h => absurd h he⟩⟩
    | ok s =>
      obtain ⟨p, a2⟩ := s
      have rg := protocol_range hx (by omega) hpr
      simp only at rg
      refine ⟨_, _, _, rfl, ifP_bne.2 ⟨fun h => absurd rfl h, fun _ => ?_⟩⟩
      obtain ⟨l0, l1, l2⟩ := link (x3.trans x4)
      have b4 := b3.ext x4
      have fin2 : ∀ t : Bool, (t = true ↔ (k.mp = 0 ∨ p ≠ 61)) → ref7_Piece.J0 (fun v w' => v = ansX (pieceR k xs) ∧ Go.Rd.Ext w w') A n c (newA w) (newA w1) a2 p t w4 := by
        intro t ht
        refine ifP_of (fun h => fin (.ok { vw0 with p := p, a := a2 }) { vw0 with p := p, a := a2 } 0 (x3.trans x4) rfl (by rw [er, pieceX, hpl]; simp only []; rw [hpr]; simp only []; rw [if_pos (ht.1 h)])) fun h => ?_
        have hm : ¬ (k.mp = 0 ∨ p ≠ 61) := fun h2 => by rw [ht.2 h2] at h; cases h
        refine ⟨_, l0, _, l1, _, l2, (rhead_spec (k := k) b4 hn (by omega) (by omega)).mono ?_⟩
        rintro v w5 ⟨rfl, x5⟩
        cases hh : headX k xs a2 with
        | error e =>
          have he : e ≠ 0 := by
            unfold headX at hh
            split at hh
            · obtain rfl := Except.error.inj hh; decide
            · simp only at hh
              split at hh
              · cases hh
              · obtain rfl := Except.error.inj hh; decide
          refine ⟨_, _, _, _, _, rfl, ifP_bne.2 ⟨fun _ => fin (.error e) vw0 e ((x3.trans x4).trans x5) rfl (by rw [er, pieceX, hpl]; simp only []; rw [hpr]; simp only []; rw [if_neg hm, hh]), fun h => absurd h he⟩⟩
        | ok s =>
          obtain ⟨b, e, q, a3⟩ := s
          refine ⟨_, _, _, _, _, rfl, ifP_bne.2 ⟨fun h => absurd rfl h, fun _ => ?_⟩⟩
          exact fin (.ok { vw0 with p := p, m := true, b := b, e := e, s := q, a := a3 }) { vw0 with p := p, m := true, b := b, e := e, s := q, a := a3 } 0 ((x3.trans x4).trans x5) rfl (by rw [er, pieceX, hpl]; simp only []; rw [hpr]; simp only []; rw [if_neg hm, hh])
      refine ⟨_, l2, ifP_beq.2 ⟨fun h => fin2 true ⟨fun _ => .inl h, fun _ => rfl⟩, fun h => fin2 _ ?_⟩⟩
      rw [bne_iff_ne]
      exact ⟨fun h2 => .inr h2, fun h2 => h2.resolve_left h⟩
end
end Go.Proofs.Ytgjabpgkiaojhaa
