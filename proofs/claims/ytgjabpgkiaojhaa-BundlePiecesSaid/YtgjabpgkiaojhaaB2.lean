/- Package bundle: the piece that a frame is. -/
import Derived.Test.YtgjabpgkiaojhaaB1
namespace Go.Proofs.Ytgjabpgkiaojhaa
open Go.Rd Go.RowKit
set_option linter.unusedVariables false
set_option linter.unusedSimpArgs false

theorem IBytes.sub {w : World} {A : Option Addr} {n c : Nat} {xs : List Int} (h : IBytes w A n xs) {i j : Nat} (hij : i ≤ j) (hj : j ≤ n) (hc : n ≤ c) : IBytes w (subA A c i 1) (j - i) ((xs.drop i).take (j - i)) := by
  have hl := h.len
  by_cases hi : i < c
  · have := ((h.cells).drop i hi).take (j - i)
    rw [← List.map_drop, ← List.map_take] at this
    exact this.rd (by rw [List.length_take, List.length_drop]; omega)
  · have e : j - i = 0 := by omega
    rw [e]
    exact ⟨rfl, fun i x hi => by simp at hi⟩
theorem IBytes.rest {w : World} {A : Option Addr} {n c : Nat} {xs : List Int} (h : IBytes w A n xs) {i : Nat} (hi : i ≤ n) (hc : n ≤ c) : IBytes w (subA A c i 1) (n - i) (xs.drop i) := by
  have := IBytes.sub h hi (Nat.le_refl n) hc
  rwa [List.take_of_length_le (by rw [List.length_drop, h.len]; exact Nat.le_refl _)] at this
theorem and_one {x : Int} (h0 : 0 ≤ x) (h1 : x ≤ 4294967295) : andI .u32 x 1 = x % 2 := by
  obtain ⟨n, rfl⟩ := Int.eq_ofNat_of_zero_le h0
  rw [show (1 : Int) = ((1 : Nat) : Int) from rfl, andI_nat (by omega) (by decide), Nat.and_one_is_mod]
  rfl

def kprotoV : Ex (Int × Int) → Value
  | .ok (p, a) => .tuple #[.int .u32 p, .int .i64 a, .int .i64 0]
  | .error e => .tuple #[.int .u32 0, .int .i64 0, .int .i64 e]
section
variable {w w' : World} {k : Lnk} {A : Option Addr} {n c : Nat} {xs ys : List Int}
theorem kproto_spec (hb : IBytes w A n ys) (hx : ∀ x ∈ ys, 0 ≤ x ∧ x ≤ 255) (hc : n ≤ c) (hn : n ≤ 140737488355328) :
    Run Try.prog 60 #[kdV k, .slice A n c] w fun v w' => v = kprotoV (protoX k ys 0) ∧ Go.Rd.Ext w w' := by
  have hl := hb.len
  refine bundle_kind_protocol.ok (letA fun w1 h1 x1 s1 => ?_)
  have hk : KAt w1 (newA w) k := KAt.block h1
  have hb1 := hb.ext x1
  refine ifP_beq.2 ⟨fun h0 => ⟨?_, x1⟩, fun h0 => ?_⟩
  · rw [protoX, if_pos (by omega)]
    rfl
  · obtain ⟨p, hp, c0⟩ := IBytes.get hb1 (j := 0) (by omega) (by omega)
    obtain ⟨g0, g1⟩ := getD_byte hx 0
    obtain ⟨y0, y1⟩ := getD_byte hx 1
    have e1 : andI .u8 (ys.getD 0 0) 1 = ys.getD 0 0 % 2 := and8 1 (by decide) g0 g1
    have c0 : w1.cell? (p.add (Int.toNat 0 * 1)) = some (.int .u8 (ys.getD 0 0)) := c0
    have j0 : ∀ t : Bool, (t = true ↔ ys.getD 0 0 % 2 = 1 ∧ k.pf = true) → bundle_kind_protocol.J0 (fun v w' => v = kprotoV (protoX k ys 0) ∧ Go.Rd.Ext w w') A n c t w1 := by
      intro t ht
      refine ifP_of (fun h => ?_) fun h => ?_
      · obtain ⟨a1, a2⟩ := ht.1 h
        refine ⟨by omega, by omega, p, hp, _, c0, ?_, x1⟩
        rw [protoX, if_neg (by omega), if_pos (show ys.getD (Int.toNat 0) 0 % 2 = 1 from a1), if_pos a2, wrap_u32 g0 (by omega)]
        rfl
      · refine ⟨by omega, by omega, p, hp, _, c0, ?_⟩
        rw [e1]
        refine ifP_beq.2 ⟨fun a1 => ⟨?_, x1⟩, fun a1 => (get_spec hb1 hc hn).mono ?_⟩
        · rw [protoX, if_neg (by omega), if_pos (show ys.getD (Int.toNat 0) 0 % 2 = 1 from a1), if_neg (fun a2 => by rw [ht.2 ⟨a1, a2⟩] at h; cases h)]
          rfl
        · rintro v w2 ⟨rfl, rfl⟩
          have a1' : ¬ ys.getD (Int.toNat 0) 0 % 2 = 1 := a1
          by_cases hf : fitsB n 0 2 = true
          · rw [if_pos hf]
            have hn2 := (fitsB_iff.1 hf).2.2
            have e2 : getV ys 0 2 = 256 * ys.getD 0 0 + ys.getD 1 0 := getV_two hx (a := 0) (by omega) (by omega)
            have e3 : andI .u32 (getV ys 0 2) 1 = ys.getD 1 0 % 2 := by rw [e2, and_one (by omega) (by omega)]; omega
            refine ⟨_, _, rfl, ifP_f rfl ?_⟩
            rw [e3]
            refine ifP_beq.2 ⟨fun a2 => ⟨?_, x1⟩, fun a2 => ⟨?_, x1⟩⟩
            · rw [protoX, if_neg (by omega), if_neg a1', if_neg (by omega), if_neg (show ¬ ys.getD (Int.toNat (0 + 1)) 0 % 2 = 1 by show ¬ ys.getD 1 0 % 2 = 1; omega)]
              rfl
            · rw [protoX, if_neg (by omega), if_neg a1', if_neg (by omega), if_pos (show ys.getD (Int.toNat (0 + 1)) 0 % 2 = 1 by show ys.getD 1 0 % 2 = 1; omega), e2]
              rfl
          · rw [if_neg hf]
            refine ⟨_, _, rfl, ifP_t rfl ⟨?_, x1⟩⟩
            have : n < 2 := by
              by_cases h2 : n < 2
              · exact h2
              · exact absurd (fitsB_iff.2 ⟨by omega, by omega, by omega⟩) hf
            rw [protoX, if_neg (by omega), if_neg a1', if_pos (by omega)]
            rfl
    refine ⟨by omega, by omega, p, hp, _, c0, ?_⟩
    rw [e1]
    refine ifP_beq.2 ⟨fun a1 => ⟨_, hk.c1, j0 _ ⟨fun h => ⟨a1, h⟩, fun h => h.2⟩⟩, fun a1 => j0 _ ⟨fun h => (by cases h), fun h => absurd h.1 a1⟩⟩

/-- The place behind what says that a frame is a piece. -/
def pastX (k : Lnk) (xs : List Int) : Ex Int :=
  if 65535 < xs.length then .error 71 else
  match plainX k xs with
  | .error e => .error e
  | .ok a => match protoX k xs a with
    | .error e => .error e
    | .ok (p, a) => if p = 61 then .ok a else .error 94
def PastOf (r : Ex Int) (v : Value) : Prop :=
  match r with
  | .ok a => v = .tuple #[.int .i64 a, .int .i64 0]
  | .error e => e ≠ 0 ∧ ∃ a, v = .tuple #[.int .i64 a, .int .i64 e]
theorem protoX_drop {a : Nat} (ha : a ≤ xs.length) : protoX k xs a = (match protoX k (xs.drop a) 0 with | .error e => .error e | .ok (p, q) => .ok (p, a + q)) := by
  have g : ∀ i : Nat, (xs.drop a).getD i 0 = xs.getD (a + i) 0 := fun i => by
    rw [List.getD_eq_getElem?_getD, List.getD_eq_getElem?_getD, List.getElem?_drop]
  have g0 : (xs.drop a).getD (Int.toNat 0) 0 = xs.getD a 0 := g 0
  have g1 : (xs.drop a).getD (Int.toNat (0 + 1)) 0 = xs.getD (a + 1) 0 := g 1
  have hd : (xs.drop a).length = xs.length - a := List.length_drop
  unfold protoX
  rw [g0, g1, hd, Int.toNat_natCast, show ((a : Int) + 1).toNat = a + 1 from rfl]
  by_cases h1 : (xs.length : Int) ≤ a
  · rw [if_pos h1, if_pos (show ((xs.length - a : Nat) : Int) ≤ 0 by omega)]
  · rw [if_neg h1, if_neg (show ¬ ((xs.length - a : Nat) : Int) ≤ 0 by omega)]
    by_cases h2 : xs.getD a 0 % 2 = 1
    · rw [if_pos h2, if_pos h2]
      by_cases h3 : k.pf = true
      · rw [if_pos h3, if_pos h3]
        simp only [Int.zero_add]
      · rw [if_neg h3, if_neg h3]
    · rw [if_neg h2, if_neg h2]
      by_cases h3 : (xs.length : Int) ≤ a + 1
      · rw [if_pos h3, if_pos (show ((xs.length - a : Nat) : Int) ≤ 0 + 1 by omega)]
      · rw [if_neg h3, if_neg (show ¬ ((xs.length - a : Nat) : Int) ≤ 0 + 1 by omega)]
        by_cases h4 : xs.getD (a + 1) 0 % 2 = 1
        · rw [if_pos h4, if_pos h4]
          simp only [Int.zero_add]
        · rw [if_neg h4, if_neg h4]
theorem protoX_err {a : Int} {e : Int} (h : protoX k xs a = .error e) : e ≠ 0 := by
  unfold protoX at h
  split at h
  · cases h; decide
  · split at h
    · split at h
      · cases h
      · cases h; decide
    · split at h
      · cases h; decide
      · split at h
        · cases h
        · cases h; decide

theorem past_spec (hb : IBytes w A n xs) (hx : ∀ x ∈ xs, 0 ≤ x ∧ x ≤ 255) (hc : n ≤ c) (hn : n ≤ 140737488355328) :
    Run Try.prog 51 #[kdV k, .slice A n c] w fun v w' => PastOf (pastX k xs) v ∧ Go.Rd.Ext w w' := by
  have hl := hb.len
  refine bundle_kind_past.ok (letA fun w1 h1 x1 s1 => ?_)
  have hk : KAt w1 (newA w) k := KAt.block h1
  have hb1 := hb.ext x1
  refine ifP_decide.2 ⟨fun h => ⟨?_, x1⟩, fun h => ?_⟩
  · rw [pastX, if_pos (by omega)]
    exact ⟨by decide, _, rfl⟩
  · have h65 : ¬ 65535 < xs.length := by omega
    have j1 : ∀ a : Nat, plainX k xs = .ok (a : Int) → a ≤ n → bundle_kind_past.J1 (fun v w' => PastOf (pastX k xs) v ∧ Go.Rd.Ext w w') A n c (newA w) a w1 := by
      intro a hp ha
      let S : World → Prop := fun u => KAt u (newA w) k
      refine ⟨S, hk.ext (Go.Rd.Ext.drew w1), letD fun w2 _ x2 => KAt.rdS (fun u hu => hu) ⟨by omega, by omega, by omega, ?_⟩⟩
      rw [Int.toNat_natCast]
      refine (kproto_spec (k := k) (IBytes.rest (hb1.ext x2) ha hc) (fun x hx' => hx x (List.mem_of_mem_drop hx')) (by omega) (by omega)).mono ?_
      rintro v w3 ⟨rfl, x3⟩
      have x03 := (x1.trans x2).trans x3
      have hs := protoX_drop (k := k) (xs := xs) (a := a) (by omega)
      cases hr : protoX k (xs.drop a) 0 with
      | error e =>
        rw [hr] at hs
        have he := protoX_err hr
        refine ⟨_, _, _, rfl, ifP_neq he (ifP_f rfl ⟨?_, x03⟩)⟩
        rw [pastX, if_neg h65, hp]
        simp only [hs]
        exact ⟨he, _, rfl⟩
      | ok r =>
        obtain ⟨p, q⟩ := r
        rw [hr] at hs
        refine ⟨_, _, _, rfl, ifP_eq rfl (ifP_bne.2 ⟨fun hp61 => ⟨?_, x03⟩, fun hp61 => ⟨?_, x03⟩⟩)⟩
        · rw [pastX, if_neg h65, hp]
          simp only [hs]
          rw [if_neg hp61]
          exact ⟨by decide, _, rfl⟩
        · rw [pastX, if_neg h65, hp]
          simp only [hs]
          rw [if_pos hp61]
          have hq : 0 ≤ q ∧ q ≤ 2 := by
            unfold protoX at hr
            split at hr
            · cases hr
            · split at hr
              · split at hr
                · cases hr; omega
                · cases hr
              · split at hr
                · cases hr
                · split at hr
                  · cases hr; omega
                  · cases hr
          show (Value.tuple #[.int .i64 (IntKind.i64.wrap ((a : Int) + q)), .int .i64 0]) = _
          rw [wrap_i64 (by omega) (by omega)]
    have j4 : ∀ t : Bool, (t = true ↔ k.ac = false ∧ n < 2) → ¬ (2 ≤ xs.length ∧ xs.getD 0 0 = 255 ∧ xs.getD 1 0 = 3) → bundle_kind_past.J4 (fun v w' => PastOf (pastX k xs) v ∧ Go.Rd.Ext w w') A n c (newA w) 0 t w1 := by
      intro t ht hw
      refine ifP_of (fun h => ⟨?_, x1⟩) fun h => ⟨_, hk.c0, ifP_not.2 (ifP_of (fun hac => j1 0 ?_ (by omega)) fun hac => ⟨?_, x1⟩)⟩
      · obtain ⟨a1, a2⟩ := ht.1 h
        rw [pastX, if_neg h65, plainX, if_neg hw, if_neg (by rw [a1]; decide), if_pos (by omega)]
        exact ⟨by decide, _, rfl⟩
      · rw [plainX, if_neg hw, if_pos hac]
        rfl
      · have : ¬ n < 2 := fun h2 => by rw [ht.2 ⟨hac, h2⟩] at h; cases h
        rw [pastX, if_neg h65, plainX, if_neg hw, if_neg (by rw [hac]; decide), if_neg (by omega)]
        exact ⟨by decide, _, rfl⟩
    have j0 : ∀ t : Bool, (t = true ↔ 2 ≤ xs.length ∧ xs.getD 0 0 = 255 ∧ xs.getD 1 0 = 3) → bundle_kind_past.J0 (fun v w' => PastOf (pastX k xs) v ∧ Go.Rd.Ext w w') A n c (newA w) 0 t w1 := by
      intro t ht
      refine ifP_of (fun h => j1 2 ?_ ?_) fun h => ?_
      · rw [plainX, if_pos (ht.1 h)]
        rfl
      · have := (ht.1 h).1; omega
      · have hw : ¬ (2 ≤ xs.length ∧ xs.getD 0 0 = 255 ∧ xs.getD 1 0 = 3) := fun h2 => by rw [ht.2 h2] at h; cases h
        refine ⟨_, hk.c0, ifP_not.2 (ifP_of (fun hac => j4 _ ?_ hw) fun hac => j4 _ ?_ hw)⟩
        · rw [hac]; simp
        · rw [hac, decide_eq_true_iff]
          exact ⟨fun h2 => ⟨rfl, by omega⟩, fun h2 => by have := h2.2; omega⟩
    refine ifP_decide.2 ⟨fun h2 => ?_, fun h2 => j0 _ ⟨fun h => (by cases h), fun h => (by omega)⟩⟩
    obtain ⟨p, hp, c0⟩ := IBytes.get hb1 (j := 0) (by omega) (by omega)
    obtain ⟨q, hq, c1⟩ := IBytes.get hb1 (j := 1) (by omega) (by omega)
    have g0 : xs.getD (Int.toNat 0) 0 = xs.getD 0 0 := rfl
    have g1 : xs.getD (Int.toNat 1) 0 = xs.getD 1 0 := rfl
    rw [g0] at c0
    rw [g1] at c1
    refine ⟨by omega, by omega, p, hp, _, c0, ifP_beq.2 ⟨fun h255 => ⟨by omega, by omega, q, hq, _, c1, j0 _ ?_⟩, fun h255 => j0 _ ⟨fun h => (by cases h), fun h => absurd h.2.1 h255⟩⟩⟩
    rw [beq_iff_eq]
    exact ⟨fun h3 => ⟨by omega, h255, h3⟩, fun h => h.2.2⟩

/-- The piece that a frame is: first, last, number, the place of its bytes. -/
def readX (k : Lnk) (xs : List Int) : Ex (Bool × Bool × Int × Int) :=
  match pastX k xs with
  | .error e => .error e
  | .ok a => headX k xs a
theorem pastX_range {a : Int} (h : pastX k xs = .ok a) : 0 ≤ a ∧ a ≤ xs.length := by
  unfold pastX at h
  split at h
  · cases h
  · cases hp : plainX k xs with
    | error e => rw [hp] at h; cases h
    | ok b =>
      rw [hp] at h
      simp only at h
      have hb : 0 ≤ b := by
        unfold plainX at hp
        split at hp
        · cases hp; omega
        · split at hp
          · cases hp; omega
          · split at hp <;> cases hp
      cases hr : protoX k xs b with
      | error e => rw [hr] at h; cases h
      | ok r =>
        obtain ⟨p, q⟩ := r
        rw [hr] at h
        simp only at h
        split at h
        · obtain rfl := Except.ok.inj h
          unfold protoX at hr
          split at hr
          · cases hr
          · split at hr
            · split at hr
              · cases hr; omega
              · cases hr
            · split at hr
              · cases hr
              · split at hr
                · cases hr; omega
                · cases hr
        · cases h
def ReadOf (A : Option Addr) (n c : Nat) (r : Ex (Bool × Bool × Int × Int)) (v : Value) : Prop :=
  match r with
  | .ok (b, e, s, a) => v = .tuple #[.agg #[.int .u32 s, .bool b, .bool e, .slice (subA A c a.toNat 1) (n - a.toNat) (c - a.toNat)], .int .i64 0] ∧ 0 ≤ a ∧ a ≤ n
  | .error e => e ≠ 0 ∧ v = .tuple #[.agg #[.int .u32 0, .bool false, .bool false, .slice none 0 0], .int .i64 e]

theorem read_spec (hb : IBytes w A n xs) (hx : ∀ x ∈ xs, 0 ≤ x ∧ x ≤ 255) (hc : n ≤ c) (hn : n ≤ 140737488355328) :
    Run Try.prog 33 #[kdV k, .slice A n c] w fun v w' => ReadOf A n c (readX k xs) v ∧ Go.Rd.Ext w w' := by
  have hl := hb.len
  refine bundle_kind_read.ok (letA fun w1 h1 x1 s1 => letA fun w2 h2 x2 s2 => ?_)
  have hk : KAt w2 (newA w) k := (KAt.block h1).ext x2
  have x02 := x1.trans x2
  have hs := headSize_two (k := k)
  have hps : (pieceSize k : Int) = headSize k := by unfold pieceSize headSize; split <;> rfl
  refine hk.rd ((past_spec (k := k) (hb.ext x02) hx hc hn).mono ?_)
  rintro v w3 ⟨hv, x3⟩
  have x03 := x02.trans x3
  have h23 := x3.heap h2
  have zero : ∀ (w4 : World) (e : Int), e ≠ 0 → Go.Rd.Ext w3 w4 → readX k xs = .error e → storeRow (newA w1) 0 [.int .u32 0, .bool false, .bool false, .slice none 0 0] w4 fun w5 => ∃ t0 : Int, w5.cell? (newA w1) = some (.int .u32 t0) ∧ ∃ t1 : Bool, w5.cell? ((newA w1).add 1) = some (.bool t1) ∧ ∃ t2 : Bool, w5.cell? ((newA w1).add 2) = some (.bool t2) ∧ ∃ (tA : Option Addr) (tn tc : Nat), w5.cell? ((newA w1).add 3) = some (.slice tA tn tc) ∧
      ReadOf A n c (readX k xs) (.tuple #[.agg #[.int .u32 t0, .bool t1, .bool t2, .slice tA tn tc], .int .i64 e]) ∧ Go.Rd.Ext w w5 := by
    intro w4 e he x4 hr
    refine st4 (x4.heap h23) rfl (vs := [.int .u32 0, .bool false, .bool false, .slice none 0 0]) rfl rfl fun w5 h5 k5 => ?_
    refine ⟨_, (cell_of h5).trans rfl, _, by rw [newA, add_mk]; exact (cell_of h5).trans rfl, _, by rw [newA, add_mk]; exact (cell_of h5).trans rfl, _, _, _, by rw [newA, add_mk]; exact (cell_of h5).trans rfl, ?_, (x03.trans x4).fresh k5 fun i hi => by rw [hi]; exact x1.size⟩
    rw [hr]
    exact ⟨he, rfl⟩
  cases hp : pastX k xs with
  | error e =>
    rw [hp] at hv
    obtain ⟨he, a, rfl⟩ := hv
    exact ⟨_, _, rfl, ifP_ne he (zero _ e he (Go.Rd.Ext.refl _) (by rw [readX, hp]))⟩
  | ok a =>
    rw [hp] at hv
    obtain rfl := hv
    obtain ⟨a0, a1⟩ := pastX_range hp
    have hk3 := hk.ext x3
    refine ⟨_, _, rfl, ifP_nne rfl ⟨_, hk3.c3, (get_spec (hb.ext x03) hc hn).mono ?_⟩⟩
    rintro v w4 ⟨rfl, rfl⟩
    by_cases hf : fitsB n a (headSize k) = true
    · rw [if_pos hf]
      have hfit := (fitsB_iff.1 hf).2.2
      let S : World → Prop := fun u => KAt u (newA w) k
      have hhead : ∀ b : Prop, True := fun _ => trivial
      refine ⟨_, _, rfl, ifP_f rfl ⟨S, hk3.ext (Go.Rd.Ext.drew _), letD fun w5 _ x5 => KAt.rdS (fun u hu => hu) (KAt.rdS (fun u hu => hu) ⟨_, fun u hu => hu.c4, (begin_spec (k := k)).mono ?_⟩)⟩⟩
      rintro v w6 ⟨rfl, x6⟩
      refine ⟨_, rfl, hk3.ext (x5.trans x6), (end_spec (k := k)).mono ?_⟩
      rintro v w7 ⟨rfl, x7⟩
      have x37 := (x5.trans x6).trans x7
      have emask : IntKind.u32.wrap (spaceK k - 1) = seqMask k := by
        unfold spaceK seqMask
        split <;> rfl
      have hX : readX k xs = if andNotI .u32 (getV xs a (headSize k)) (orI .u32 (orI .u32 (topBit k) (midBit k)) (seqMask k)) = 0 then .ok (andI .u32 (getV xs a (headSize k)) (topBit k) != 0, andI .u32 (getV xs a (headSize k)) (midBit k) != 0, andI .u32 (getV xs a (headSize k)) (seqMask k), a + headSize k) else .error 75 := by
        rw [readX, hp]
        simp only
        rw [headX, if_neg (by omega)]
        simp only [hps]
      refine ⟨_, rfl, hk3.ext x37, ?_⟩
      rw [emask]
      refine ifP_bne.2 ⟨fun h => ?_, fun h => ?_⟩
      · rw [if_neg h] at hX
        exact zero _ 75 (by decide) x37 hX
      · rw [if_pos h] at hX
        have ew : IntKind.i64.wrap (a + headSize k) = a + headSize k := wrap_i64 (by omega) (by omega)
        refine ⟨S, hk3.ext (x37.trans (Go.Rd.Ext.drew _)), letD fun w8 _ x8 => ⟨_, fun u hu => hu.c4, KAt.rdS (fun u hu => hu) (KAt.rdS (fun u hu => hu) ⟨_, fun u hu => hu.c3, ?_⟩)⟩⟩
        rw [ew]
        refine ⟨by omega, by omega, by omega, (begin_spec (k := k)).mono ?_⟩
        rintro v w9 ⟨rfl, x9⟩
        refine ⟨_, rfl, hk3.ext ((x37.trans x8).trans x9), (end_spec (k := k)).mono ?_⟩
        rintro v w10 ⟨rfl, x10⟩
        have x310 := ((x37.trans x8).trans x9).trans x10
        refine ⟨_, rfl, hk3.ext x310, ?_⟩
        rw [emask]
        refine st4 (x310.heap h23) rfl (vs := [.int .u32 _, .bool _, .bool _, .slice _ _ _]) rfl rfl fun w11 h11 k11 => ?_
        refine ⟨_, (cell_of h11).trans rfl, _, by rw [newA, add_mk]; exact (cell_of h11).trans rfl, _, by rw [newA, add_mk]; exact (cell_of h11).trans rfl, _, _, _, by rw [newA, add_mk]; exact (cell_of h11).trans rfl, ?_, (x03.trans x310).fresh k11 fun i hi => by rw [hi]; exact x1.size⟩
        rw [hX]
        exact ⟨rfl, by omega, by omega⟩
    · rw [if_neg hf]
      refine ⟨_, _, rfl, ifP_t rfl ?_⟩
      refine zero _ 72 (by decide) (Go.Rd.Ext.refl _) ?_
      rw [readX, hp]
      simp only
      rw [headX, if_pos]
      by_cases h2 : (xs.length : Int) < a + pieceSize k
      · exact h2
      · exact absurd (fitsB_iff.2 ⟨by omega, a0, by omega⟩) hf
end
end Go.Proofs.Ytgjabpgkiaojhaa
