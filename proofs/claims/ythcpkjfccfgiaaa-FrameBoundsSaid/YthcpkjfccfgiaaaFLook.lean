/- Package frame: Look. -/
import Derived.Test.YthcpkjfccfgiaaaF2
import Derived.Test.YthcpkjfccfgiaaaVL
namespace Go.Proofs.Ythcpkjfccfgiaaa
open Go.Rd Go.RowKit
set_option linter.unusedVariables false
set_option linter.unusedSimpArgs false
set_option maxRecDepth 100000

theorem fcheck_spec {w : World} {k : Lnk} : Run Try.prog 14 #[.agg #[.bool k.ac, .bool k.pf, .int .i64 k.mp]] w fun v w' => v = .int .i64 (if linkOk k = true then 0 else 70) ∧ Ext w w' := by
  refine frame_Check.ok (letA fun w1 h1 x1 s1 => ?_)
  have c2 : w1.cell? ((newA w).add 2) = some (.int .i64 k.mp) := by rw [newA, add_mk]; exact (cell_of h1).trans rfl
  have fin : ∀ t : Bool, (t = true ↔ linkOk k = false) → frame_Check.J0 (fun v w' => v = .int .i64 (if linkOk k = true then 0 else 70) ∧ Ext w w') t w1 := by
    intro t ht
    refine ifP_of (fun h => ⟨by rw [ht.1 h]; rfl, x1⟩) fun h => ⟨?_, x1⟩
    have : linkOk k = true := by
      cases hk : linkOk k with
      | true => rfl
      | false => rw [ht.2 hk] at h; cases h
    rw [if_pos this]
  have ok : (k.mp = 0 ∨ k.mp = 1 ∨ k.mp = 2) → linkOk k = true := fun h => decide_eq_true h
  refine ⟨_, c2, ifP_bne.2 ⟨fun h0 => ⟨_, c2, ifP_bne.2 ⟨fun h1 => ⟨_, c2, fin _ ?_⟩, fun h1 => fin _ ⟨fun h => (by cases h), fun h => by rw [ok (by omega)] at h; cases h⟩⟩⟩, fun h0 => fin _ ⟨fun h => (by cases h), fun h => by rw [ok (by omega)] at h; cases h⟩⟩⟩
  rw [bne_iff_ne]
  constructor
  · intro h; exact decide_eq_false (by omega)
  · intro h h2; rw [ok (by omega)] at h; cases h

/-! ## What a walk comes to -/

/-- All steps, one behind the other. -/
def walkX (k : Lnk) (xs : List Int) : Ex (Int × Vw) :=
  if 65535 < xs.length then .error 71 else
  match addressX k xs (0, vw0) with
  | .error e => .error e
  | .ok s => match protocolX k xs s with
    | .error e => .error e
    | .ok s => match multiX k xs s with
      | .error e => .error e
      | .ok s => netPX xs s

theorem walk_look (k : Lnk) (xs : List Int) (hk : linkOk k = true) : lookX k xs = match walkX k xs with | .error e => .error e | .ok s => .ok s.2 := by
  unfold lookX walkX pieceX addressX plainX
  rw [if_neg (by rw [hk]; decide)]
  split
  · rfl
  · have key : ∀ a : Int, (match (match protoX k xs a with
        | .error e => (.error e : Ex Vw)
        | .ok (p, a) => if k.mp = 0 ∨ p ≠ 61 then .ok { vw0 with p := p, a := a } else
          match headX k xs a with
          | .error e => .error e
          | .ok (b, e, s, a) => .ok { vw0 with p := p, m := true, b := b, e := e, s := s, a := a }) with
        | .error e => (.error e : Ex Vw)
        | .ok v => match innerX k xs v with
          | .error e => .error e
          | .ok v => netX xs v) = match (match protocolX k xs (a, vw0) with
        | .error e => (.error e : Ex (Int × Vw))
        | .ok s => match multiX k xs s with
          | .error e => .error e
          | .ok s => netPX xs s) with | .error e => .error e | .ok s => .ok s.2 := by
      intro a
      unfold protocolX
      cases hp : protoX k xs a with
      | error e => rfl
      | ok s =>
        obtain ⟨p, a2⟩ := s
        simp only [multiX]
        by_cases hc : k.mp = 0 ∨ p ≠ 61
        · rw [if_pos hc, if_pos hc]
          simp only [innerX, netPX]
          rw [if_neg (by decide)]
          simp only []
          cases netX xs { vw0 with p := p, a := a2 } <;> rfl
        · rw [if_neg hc, if_neg hc]
          cases hh : headX k xs a2 with
          | error e => rfl
          | ok s =>
            obtain ⟨b, e, q, a3⟩ := s
            simp only [innerX, if_true, protocolX]
            cases b with
            | true =>
              simp only [if_true]
              cases hp2 : protoX k xs a3 with
              | error e => rfl
              | ok s =>
                obtain ⟨p3, a4⟩ := s
                simp only [netPX]
                cases netX xs { vw0 with p := p3, m := true, b := true, e := e, s := q, a := a4 } <;> rfl
            | false =>
              simp only [Bool.false_eq_true, if_false, netPX]
              cases netX xs { vw0 with p := p, m := true, b := false, e := e, s := q, a := a3 } <;> rfl
    by_cases h2 : 2 ≤ xs.length ∧ xs.getD 0 0 = 255 ∧ xs.getD 1 0 = 3
    · rw [if_pos h2, if_pos h2]; exact key 2
    · rw [if_neg h2, if_neg h2]
      by_cases hac : k.ac = true
      · rw [if_pos hac, if_pos hac]; exact key 0
      · rw [if_neg hac, if_neg hac]
        by_cases hl : xs.length < 2
        · rw [if_pos hl, if_pos hl]
        · rw [if_neg hl, if_neg hl]

/-! ## The deferred call -/

def cloArgs (p4 p5 : Nat) : Array Value := #[.pointer (some ⟨p4, 0, none⟩), .pointer (some ⟨p5, 0, none⟩)]

/-- Both results in their cells. -/
structure Out (W w : World) (p4 p5 : Nat) (v : Vw) (e : Int) : Prop where
  at4 : w.heap[p4]? = some (.cells v.row.toArray 27 (0, 0))
  at5 : w.heap[p5]? = some (.cells #[.int .i64 e] 28 (0, 0))
  ne : p4 ≠ p5
  new4 : W.heap.size ≤ p4
  new5 : W.heap.size ≤ p5
  fr : Fr W w

theorem clo_none {W w : World} {p4 p5 : Nat} {v : Vw} {e : Int} (h : Out W w p4 p5 v e) : CallsD Try.prog 26 (cloArgs p4 p5) .returning w fun r u w' => u = .returning ∧ r = .returned (.tuple #[]) ∧ Out W w' p4 p5 v e := by
  have hb : Try.f26.body = some (.seq (.region 0 #[opAt (sub look_none.body [0]) 0, opAt (sub look_none.body [0]) 1] false) (sub look_none.body [1])) := by kernel_rfl
  refine (callsD_recover (R := fun r w' => r = .returned (.tuple #[]) ∧ Out W w' p4 p5 v e) (d0 := 5) (o0 := opAt (sub look_none.body [0]) 0) (o1 := opAt (sub look_none.body [0]) 1) (cc := ⟨.builtin .recover, #[], #[]⟩) Try.func26 hb rfl rfl rfl (by kernel_rfl) (by kernel_rfl) (by kernel_rfl) (by kernel_rfl) rfl (by kernel_rfl) (by decide +kernel) (by show 2 ≤ Try.f26.ntmps; decide +kernel) ?_).mono fun r u w' hh => ⟨hh.1, hh.2⟩
  have est : (Act.put (Act.put { tmps := cloArgs p4 p5 ++ Array.replicate (Try.f26.ntmps - (cloArgs p4 p5).size) undef, defers := [] } (some 5) (recovers .returning).1) (opAt (sub look_none.body [0]) 1).dst (recovers .returning).1) =
      act [] [.pointer (some ⟨p4, 0, none⟩), .pointer (some ⟨p5, 0, none⟩), .nilIface, undef, undef, .nilIface, undef, undef, undef, undef, undef, undef, undef, undef, undef, undef, undef, undef, undef] := by kernel_rfl
  rw [est]
  refine code_sound (Z := none) (live := look_none.live) (b := 0) (K := fun e2 _ w' => e2 = .normal ∧ Out W w' p4 p5 v e) Try.mixed _ (fun Y hY => by cases hY) ?_ (Eq.mpr (look_none.eq (fun e2 w' => e2 = .normal ∧ Out W w' p4 p5 v e) ⟨p4, 0, none⟩ ⟨p5, 0, none⟩ w) ?_)
  · rintro e2 st w' ⟨rfl, ho⟩
    exact ⟨rfl, .tuple #[], by kernel_rfl, rfl, ho⟩
  · exact ⟨.bool false, w, by kernel_rfl, _, rfl, ifP_f rfl ⟨rfl, h⟩⟩

theorem clo_stop {W w : World} {p4 p5 : Nat} {v : Vw} {e why : Int} (h : Out W w p4 p5 v e) : CallsD Try.prog 26 (cloArgs p4 p5) (.panicking [stopE why]) w fun r u w' => u = .panicking [{ v := .iface 49 (.agg #[.int .i64 why]), recovered := true }] ∧ r = .returned (.tuple #[]) ∧ Out W w' p4 p5 vw0 why := by
  have hb : Try.f26.body = some (.seq (.region 0 #[opAt (sub look_none.body [0]) 0, opAt (sub look_none.body [0]) 1] false) (sub look_stop.body [1])) := by kernel_rfl
  refine (callsD_recover (R := fun r w' => r = .returned (.tuple #[]) ∧ Out W w' p4 p5 vw0 why) (d0 := 5) (o0 := opAt (sub look_none.body [0]) 0) (o1 := opAt (sub look_none.body [0]) 1) (cc := ⟨.builtin .recover, #[], #[]⟩) Try.func26 hb rfl rfl rfl (by kernel_rfl) (by kernel_rfl) (by kernel_rfl) (by kernel_rfl) rfl (by kernel_rfl) (by decide +kernel) (by show 2 ≤ Try.f26.ntmps; decide +kernel) ?_).mono fun r u w' hh => ⟨hh.1, hh.2⟩
  have est : (Act.put (Act.put { tmps := cloArgs p4 p5 ++ Array.replicate (Try.f26.ntmps - (cloArgs p4 p5).size) undef, defers := [] } (some 5) (recovers (.panicking [stopE why])).1) (opAt (sub look_none.body [0]) 1).dst (recovers (.panicking [stopE why])).1) =
      act [] [.pointer (some ⟨p4, 0, none⟩), .pointer (some ⟨p5, 0, none⟩), .iface 49 (.agg #[.int .i64 why]), undef, undef, .iface 49 (.agg #[.int .i64 why]), undef, undef, undef, undef, undef, undef, undef, undef, undef, undef, undef, undef, undef] := by kernel_rfl
  rw [est]
  refine code_sound (Z := none) (live := look_stop.live) (b := 0) (K := fun e2 _ w' => e2 = .normal ∧ Out W w' p4 p5 vw0 why) Try.mixed _ (fun Y hY => by cases hY) ?_ (Eq.mpr (look_stop.eq (fun e2 w' => e2 = .normal ∧ Out W w' p4 p5 vw0 why) ⟨p4, 0, none⟩ ⟨p5, 0, none⟩ why w) ?_)
  · rintro e2 st w' ⟨rfl, ho⟩
    exact ⟨rfl, .tuple #[], by kernel_rfl, rfl, ho⟩
  · refine ⟨.bool true, w, by kernel_rfl, _, rfl, ifP_t rfl (letA fun w1 h1 x1 s1 => cell_put h1 (i := 0) (by simp) rfl fun w2 h2 k2 => ?_)⟩
    have x2 : Ext w w2 := x1.fresh k2 fun k hk => by have : k = w.heap.size := hk; omega
    have l4 := heap_lt h.at4
    have l5 := heap_lt h.at5
    let S : World → Prop := fun u => u.cell? (newA w) = some (.int .i64 why)
    have c2 : w2.cell? (newA w) = some (.int .i64 why) := (cell_of h2).trans rfl
    refine ⟨S, (Ext.drew w2).cell c2, letD fun w3 _ x3 => ⟨why, fun u hu => hu, ?_⟩⟩
    refine st9 ((x2.trans x3).heap h.at4) rfl (v := vw0) fun w4 h4 k4 => ⟨k4.cell (x3.cell c2) (fun hh => by have : w.heap.size = p4 := hh; omega), ?_⟩
    have a5 : w4.heap[p5]? = some (.cells #[.int .i64 e] 28 (0, 0)) := k4.heap ((x2.trans x3).heap h.at5) (fun hh => h.ne hh.symm)
    refine cell_put a5 (i := 0) (by simp) rfl fun w5 h5 k5 => ⟨rfl, ?_⟩
    exact { at4 := k5.heap h4 (fun hh => h.ne hh), at5 := h5, ne := h.ne, new4 := h.new4, new5 := h.new5, fr := ((h.fr.ext (x2.trans x3)).step k4 fun i hi => by rw [hi]; exact h.new4).step k5 fun i hi => by rw [hi]; exact h.new5 }

/-! ## Look -/

theorem look_results {W w : World} {p4 p5 : Nat} {v : Vw} {e : Int} {D : List Deferred} {st : St} (h : Out W w p4 p5 v e) (h4 : get st 4 = .pointer (some ⟨p4, 0, none⟩)) (h5 : get st 5 = .pointer (some ⟨p5, 0, none⟩)) :
    (results Try.f12 (act D st).tmps).run Try.prog w = .ok (.tuple #[v.v, .int .i64 e]) w := by
  have key : ∀ φ : List Value → Prop, resVC Try.prog w st Try.f12.results.toList φ = (match get st 4 with
      | .pointer (some ad) => (∃ t0 : Int, w.cell? ad = some (.int .u32 t0) ∧ ∃ t1 : Bool, w.cell? (ad.add 1) = some (.bool t1) ∧ ∃ t2 : Bool, w.cell? (ad.add 2) = some (.bool t2) ∧ ∃ t3 : Bool, w.cell? (ad.add 3) = some (.bool t3) ∧
        ∃ t4 : Int, w.cell? (ad.add 4) = some (.int .u32 t4) ∧ ∃ t5 : Int, w.cell? (ad.add 5) = some (.int .i64 t5) ∧ ∃ t6 : Int, w.cell? (ad.add 6) = some (.int .i64 t6) ∧ ∃ t7 : Int, w.cell? (ad.add 7) = some (.int .i64 t7) ∧ ∃ t8 : Int, w.cell? (ad.add 8) = some (.int .i64 t8) ∧
        (match get st 5 with
          | .pointer (some ad) => ∃ t : Int, w.cell? ad = some (.int .i64 t) ∧ φ [.agg #[.int .u32 t0, .bool t1, .bool t2, .bool t3, .int .u32 t4, .int .i64 t5, .int .i64 t6, .int .i64 t7, .int .i64 t8], .int .i64 t]
          | _ => False))
      | _ => False) := fun φ => by kernel_rfl
  have r : resVC Try.prog w st Try.f12.results.toList fun vs => (fun v' w' => v' = Value.tuple #[v.v, .int .i64 e] ∧ w' = w) (oneOr vs) w := by
    rw [key, h4]
    refine (At9.block h.at4).rd ?_
    rw [h5]
    exact ⟨_, (cell_of h.at5).trans rfl, rfl, rfl⟩
  obtain ⟨v', hr, rfl, _⟩ := results_sound (D := D) (R := fun v' w' => v' = Value.tuple #[v.v, .int .i64 e] ∧ w' = w) r
  exact hr

/-! ## The five steps -/

def restX (k : Lnk) (xs : List Int) : Nat → Int × Vw → Ex (Int × Vw)
  | 0, s => if 65535 < xs.length then .error 71 else match addressX k xs s with
    | .error e => .error e
    | .ok s => match protocolX k xs s with
      | .error e => .error e
      | .ok s => match multiX k xs s with
        | .error e => .error e
        | .ok s => netPX xs s
  | 1, s => match addressX k xs s with
    | .error e => .error e
    | .ok s => match protocolX k xs s with
      | .error e => .error e
      | .ok s => match multiX k xs s with
        | .error e => .error e
        | .ok s => netPX xs s
  | 2, s => match protocolX k xs s with
      | .error e => .error e
      | .ok s => match multiX k xs s with
        | .error e => .error e
        | .ok s => netPX xs s
  | 3, s => match multiX k xs s with
        | .error e => .error e
        | .ok s => netPX xs s
  | 4, s => netPX xs s
  | _, s => .ok s
def stepF : Nat → Nat
  | 0 => 27
  | 1 => 28
  | 2 => 29
  | 3 => 30
  | _ => 31
def invX (k : Lnk) (xs : List Int) (j : Nat) (s : Int × Vw) : Prop :=
  walkX k xs = restX k xs j s ∧ (j < 2 → s = (0, vw0)) ∧ (0 < j → xs.length ≤ 65535) ∧ 0 ≤ s.1 ∧ s.1 ≤ 65535

theorem step_spec {w : World} {b : Nat} {k : Lnk} {A : Option Addr} {n c : Nat} {xs : List Int} {s : Int × Vw} (j : Nat) (hj : j < 5) (h : RAt w b k A n c s.1 s.2) (hb : IBytes w A n xs) (hx : ∀ x ∈ xs, 0 ≤ x ∧ x ≤ 255) (hA : ∀ q, blk A q → q ≠ b) (hc : n ≤ c) (hi : invX k xs j s) :
    RunE Try.prog (stepF j) #[rp b] w (fun u w' => ∃ s', invX k xs (j + 1) s' ∧ RAt w' b k A n c s'.1 s'.2 ∧ Keep (· = b) w w') (fun cs w' => ∃ e, walkX k xs = .error e ∧ cs = [stopE e] ∧ Keep (· = b) w w') := by
  have hl := hb.len
  obtain ⟨hw, h2, h5, h0, h1⟩ := hi
  have hn : 0 < j → n ≤ 65535 := fun h => by have := h5 h; omega
  have hok : ∀ (r : Ex (Int × Vw)), (∀ s', r = .ok s' → invX k xs (j + 1) s') → ∀ u w', okR w b k A n c r u w' → ∃ s', invX k xs (j + 1) s' ∧ RAt w' b k A n c s'.1 s'.2 ∧ Keep (· = b) w w' :=
    fun r hr u w' ⟨_, s', he, ha, hk⟩ => ⟨s', hr s' he, ha, hk⟩
  have her : ∀ (r : Ex (Int × Vw)), (∀ e, r = .error e → walkX k xs = .error e) → ∀ cs w', erX w b r cs w' → ∃ e, walkX k xs = .error e ∧ cs = [stopE e] ∧ Keep (· = b) w w' :=
    fun r hr cs w' ⟨e, he, hcs, hk⟩ => ⟨e, hr e he, hcs, hk⟩
  obtain ⟨a, v⟩ := s
  match j, hj with
  | 0, _ =>
    obtain ⟨rfl, rfl⟩ := Prod.mk.inj (h2 (by omega))
    refine (size_spec h).mono (hok _ fun s' he => ?_) (her _ fun e he => ?_)
    · by_cases hs : n ≤ 65535
      · rw [if_pos hs] at he
        obtain rfl := Except.ok.inj he
        refine ⟨?_, fun _ => rfl, fun _ => by omega, by decide, by decide⟩
        rw [hw]; exact if_neg (by omega)
      · rw [if_neg hs] at he; cases he
    · by_cases hs : n ≤ 65535
      · rw [if_pos hs] at he; cases he
      · rw [if_neg hs] at he; obtain rfl := Except.error.inj he; rw [hw]; exact if_pos (by omega)
  | 1, _ =>
    obtain ⟨rfl, rfl⟩ := Prod.mk.inj (h2 (by omega))
    refine (address_spec h hb (hn (by omega))).mono (hok _ fun s' he => ?_) (her _ fun e he => ?_)
    · refine ⟨by rw [hw]; simp only [restX]; rw [he], fun h => absurd h (by omega), fun _ => h5 (by omega), ?_⟩
      unfold addressX at he
      split at he
      · obtain rfl := Except.ok.inj he; exact ⟨by decide, by decide⟩
      · split at he
        · obtain rfl := Except.ok.inj he; exact ⟨by decide, by decide⟩
        · split at he <;> cases he
    · rw [hw]; simp only [restX]; rw [he]
  | 2, _ =>
    refine (protocol_spec h hb hx hA hc h0 h1 (hn (by omega))).mono (hok _ fun s' he => ?_) (her _ fun e he => ?_)
    · refine ⟨by rw [hw]; simp only [restX]; rw [he], fun h => absurd h (by omega), fun _ => h5 (by omega), ?_⟩
      unfold protocolX at he
      split at he
      · cases he
      · rename_i p a2 hp
        obtain rfl := Except.ok.inj he
        have := protocol_range hx h0 hp
        have := h5 (by omega)
        simp only at *
        omega
    · rw [hw]; simp only [restX]; rw [he]
  | 3, _ =>
    refine (multi_spec h hb hx hA hc h0 h1 (hn (by omega))).mono (hok _ fun s' he => ?_) (her _ fun e he => ?_)
    · refine ⟨by rw [hw]; simp only [restX]; rw [he], fun h => absurd h (by omega), fun _ => h5 (by omega), ?_⟩
      have hlen := h5 (by omega)
      unfold multiX at he
      split at he
      · obtain rfl := Except.ok.inj he; exact ⟨h0, h1⟩
      · split at he
        · cases he
        · rename_i b2 e2 q2 a2 hh
          have r1 := head_range hh
          simp only at r1 h0
          split at he
          · unfold protocolX at he
            split at he
            · cases he
            · rename_i p a3 hp
              obtain rfl := Except.ok.inj he
              have := protocol_range hx (by simp only; omega) hp
              simp only at *
              omega
          · obtain rfl := Except.ok.inj he
            simp only
            omega
    · rw [hw]; simp only [restX]; rw [he]
  | 4, _ =>
    refine (net_spec h hb hx hA hc h0 h1 (hn (by omega))).mono (hok _ fun s' he => ?_) (her _ fun e he => ?_)
    · refine ⟨by rw [hw]; simp only [restX]; rw [he], fun h => absurd h (by omega), fun _ => h5 (by omega), ?_⟩
      unfold netPX at he
      split at he
      · cases he
      · obtain rfl := Except.ok.inj he; exact ⟨h0, h1⟩
    · rw [hw]; simp only [restX]; rw [he]

/-! ## The walk behind the deferral -/

theorem Out.keep {W w w' : World} {p4 p5 b : Nat} {v : Vw} {e : Int} (h : Out W w p4 p5 v e) (hk : Keep (· = b) w w') (n4 : p4 ≠ b) (n5 : p5 ≠ b) (hb : W.heap.size ≤ b) : Out W w' p4 p5 v e :=
  { at4 := hk.heap h.at4 n4, at5 := hk.heap h.at5 n5, ne := h.ne, new4 := h.new4, new5 := h.new5, fr := h.fr.step hk fun i hi => by rw [hi]; exact hb }

/-- What stays through the walk. -/
structure Tl (st : St) (p4 p5 b : Nat) : Prop where
  len : hasLen st 44 = true
  t4 : get st 4 = rp p4
  t5 : get st 5 = rp p5
  t7 : get st 7 = rp b
structure Lp (st : St) (p4 p5 b q j : Nat) : Prop extends Tl st p4 p5 b where
  t31 : get st 31 = .slice (some ⟨q, 0, none⟩) 5 5
  t32 : get st 32 = .int .i64 5
  t33 : get st 33 = .int .i64 j
theorem Lp.set {st : St} {p4 p5 b q j : Nat} (h : Lp st p4 p5 b q j) {d : Nat} {v : Value} (hd : 34 ≤ d) : Lp (st.set d v) p4 p5 b q j :=
  { len := hasLen_set h.len, t4 := (get_set_ne (by omega)).trans h.t4, t5 := (get_set_ne (by omega)).trans h.t5, t7 := (get_set_ne (by omega)).trans h.t7, t31 := (get_set_ne (by omega)).trans h.t31, t32 := (get_set_ne (by omega)).trans h.t32, t33 := (get_set_ne (by omega)).trans h.t33 }
theorem Tl.eq {st : St} {p4 p5 b : Nat} (h : Tl st p4 p5 b) : st = [get st 0, get st 1, get st 2, get st 3, rp p4, rp p5, get st 6, rp b, get st 8, get st 9, get st 10, get st 11, get st 12, get st 13, get st 14, get st 15, get st 16, get st 17, get st 18, get st 19, get st 20, get st 21, get st 22, get st 23, get st 24, get st 25, get st 26, get st 27, get st 28, get st 29, get st 30, get st 31, get st 32, get st 33, get st 34, get st 35, get st 36, get st 37, get st 38, get st 39, get st 40, get st 41, get st 42, get st 43] :=
  (st_merge (L := [4, 5, 7]) (pat := [undef, undef, undef, undef, rp p4, rp p5, undef, rp b, undef, undef, undef, undef, undef, undef, undef, undef, undef, undef, undef, undef, undef, undef, undef, undef, undef, undef, undef, undef, undef, undef, undef, undef, undef, undef, undef, undef, undef, undef, undef, undef, undef, undef, undef, undef]) h.len (by kernel_rfl) ⟨h.t4, h.t5, h.t7, trivial⟩).trans (look_r6.st ⟨p4, 0, none⟩ ⟨p5, 0, none⟩ ⟨b, 0, none⟩ (get st))
theorem Lp.eq {st : St} {p4 p5 b q j : Nat} (h : Lp st p4 p5 b q j) : st = [get st 0, get st 1, get st 2, get st 3, rp p4, rp p5, get st 6, rp b, get st 8, get st 9, get st 10, get st 11, get st 12, get st 13, get st 14, get st 15, get st 16, get st 17, get st 18, get st 19, get st 20, get st 21, get st 22, get st 23, get st 24, get st 25, get st 26, get st 27, get st 28, get st 29, get st 30, .slice (some ⟨q, 0, none⟩) 5 5, .int .i64 5, .int .i64 (j : Int), get st 34, get st 35, get st 36, get st 37, get st 38, get st 39, get st 40, get st 41, get st 42, get st 43] := by
  have hl : liveAll [4, 5, 7, 31, 32, 33] st ([undef, undef, undef, undef, rp p4, rp p5, undef, rp b, undef, undef, undef, undef, undef, undef, undef, undef, undef, undef, undef, undef, undef, undef, undef, undef, undef, undef, undef, undef, undef, undef, undef, .slice (some ⟨q, 0, none⟩) 5 5, .int .i64 5, .int .i64 (j : Int), undef, undef, undef, undef, undef, undef, undef, undef, undef, undef] : St) := ⟨h.t4, h.t5, h.t7, h.t31, h.t32, h.t33, trivial⟩
  exact (st_merge h.len (by kernel_rfl) hl).trans (look_round.st ⟨p4, 0, none⟩ ⟨p5, 0, none⟩ ⟨b, 0, none⟩ (some ⟨q, 0, none⟩) 5 5 5 (j : Int) (get st))

def steps5 (b : Nat) : Array Value := #[.func (.func 27) #[rp b] #[], .func (.func 28) #[rp b] #[], .func (.func 29) #[rp b] #[], .func (.func 30) #[rp b] #[], .func (.func 31) #[rp b] #[]]

section
variable {W : World} {D : List Deferred} {Q : Exit → Act → World → Prop} {p4 p5 b q c n : Nat} {e0 : Int} {k : Lnk} {A : Option Addr} {xs : List Int}

/-- What the loop's rounds keep. -/
structure Rd (W : World) (k : Lnk) (A : Option Addr) (n c : Nat) (xs : List Int) (p4 p5 b q j : Nat) (e0 : Int) (st : St) (w : World) : Prop where
  lp : Lp st p4 p5 b q j
  j5 : j ≤ 5
  out : ∃ v, Out W w p4 p5 v e0
  fs : ∃ t fz, w.heap[q]? = some (.cells (steps5 b) t fz)
  rd : ∃ s, RAt w b k A n c s.1 s.2 ∧ invX k xs j s

set_option maxHeartbeats 4000000 in
theorem look_fin (QR : ∀ st w v, Tl st p4 p5 b → Out W w p4 p5 v 0 → lookX k xs = .ok v → Q .ret (act D st) w) (hk : linkOk k = true) (n4 : p4 ≠ b) (n5 : p5 ≠ b) (nb : W.heap.size ≤ b) {st : St} {w : World} (h : Rd W k A n c xs p4 p5 b q 5 e0 st w) :
    (sub look_end.body [1, 1, 1, 1, 1]).wp Try.prog Q (act D st) w := by
  obtain ⟨v0, ho⟩ := h.out
  obtain ⟨⟨a, v⟩, hr, hi, -⟩ := h.rd
  have hl : lookX k xs = .ok v := by rw [walk_look k xs hk, hi]; rfl
  have ht := h.lp.toTl
  rw [ht.eq]
  refine code_wp (live := look_end.live) (b := 0) Try.mixed (Eq.mpr (look_end.eq (fun e st w => Q (exitOf e) (act D st) w) ⟨p4, 0, none⟩ ⟨p5, 0, none⟩ ⟨b, 0, none⟩ (get st) w) ?_)
  have hat : At9 w ((Addr.mk b 0 none).add 5) v := ⟨hr.v0, hr.v1, hr.v2, by rw [add_mk, add_mk]; exact hr.at_ 8 rfl, by rw [add_mk, add_mk]; exact hr.at_ 9 rfl, by rw [add_mk, add_mk]; exact hr.at_ 10 rfl, by rw [add_mk, add_mk]; exact hr.at_ 11 rfl, by rw [add_mk, add_mk]; exact hr.at_ 12 rfl, by rw [add_mk, add_mk]; exact hr.at_ 13 rfl⟩
  refine ⟨_, rfl, hat.rd ?_⟩
  refine st9 ho.at4 rfl (v := v) fun w1 h1 k1 => ?_
  have a5 := k1.heap ho.at5 (fun hh => ho.ne hh.symm)
  refine cell_put a5 (i := 0) (by simp) rfl fun w2 h2 k2 => ?_
  refine QR _ _ v ⟨by kernel_rfl, rfl, rfl, rfl⟩ { at4 := k2.heap h1 (fun hh => ho.ne hh), at5 := h2, ne := ho.ne, new4 := ho.new4, new5 := ho.new5, fr := (ho.fr.step k1 fun i hi => by rw [hi]; exact ho.new4).step k2 fun i hi => by rw [hi]; exact ho.new5 } hl
end
end Go.Proofs.Ythcpkjfccfgiaaa
