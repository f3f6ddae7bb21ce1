/- Package frame: Look. -/
import Derived.Test.YtgjabpgkiaojhaaF2
import Derived.Test.YtgjabpgkiaojhaaVL
namespace Go.Proofs.Ytgjabpgkiaojhaa
open Go.Rd Go.RowKit
set_option linter.unusedVariables false
set_option linter.unusedSimpArgs false
set_option maxRecDepth 100000

theorem fcheck_spec {w : World} {k : Lnk} : Run Try.prog 36 #[.agg #[.bool k.ac, .bool k.pf, .int .i64 k.mp]] w fun v w' => v = .int .i64 (if linkOk k = true then 0 else 70) ∧ Ext w w' := by
  refine frame_Check.ok (letA fun w1 h1 x1 s1 => ?_)
  have c2 : w1.cell? ((newA w).add 2) = some (.int .i64 k.mp) := by rw [newA, add_mk]; exact (cell_of h1).trans rfl
  have fin : ∀ t : Bool, (t = true ↔ linkOk k = false) → frame_Check.J0 (fun v w' => v = .int .i64 (if linkOk k = true then 0 else 70) ∧ Ext w w') t w1 := by
    intro t ht
    refine ifP_of (fun h => ⟨by rw [ht.1 h]; rfl, x1⟩) fun h => ⟨?_, x1⟩
    have : linkOk k = true := by
      cases hk : linkOk k with
      | true => rfl
      | false => rw [ht.2 hk] at h; cases h
    rw [if_pos this]
  have ok : (k.mp = 0 ∨ k.mp = 1 ∨ k.mp = 2) → linkOk k = true := fun h => decide_eq_true h
  refine ⟨_, c2, ifP_bne.2 ⟨fun h0 => ⟨_, c2, ifP_bne.2 ⟨fun h1 => ⟨_, c2, fin _ ?_⟩, fun h1 => fin _ ⟨fun h => (by cases h), fun h => by rw [ok (by omega)] at h; cases h⟩⟩⟩, fun h0 => fin _ ⟨fun h => (by cases h), fun h => by rw [ok (by omega)] at h; cases h⟩⟩⟩
  rw [bne_iff_ne]
  constructor
  · intro h; exact decide_eq_false (by omega)
  · intro h h2; rw [ok (by omega)] at h; cases h

/-! ## What a walk comes to -/

/-- All steps, one behind the other. -/
def walkX (k : Lnk) (xs : List Int) : Ex (Int × Vw) :=
  if 65535 < xs.length then .error 71 else
  match addressX k xs (0, vw0) with
  | .error e => .error e
  | .ok s => match protocolX k xs s with
    | .error e => .error e
    | .ok s => match multiX k xs s with
      | .error e => .error e
      | .ok s => netPX xs s

theorem walk_look (k : Lnk) (xs : List Int) (hk : linkOk k = true) : lookX k xs = match walkX k xs with | .error e => .error e | .ok s => .ok s.2 := by
  unfold lookX walkX pieceX addressX plainX
  rw [if_neg (by rw [hk]; decide)]
  split
  · rfl
  · have key : ∀ a : Int, (match (match protoX k xs a with
        | .error e => (.error e : Ex Vw)
        | .ok (p, a) => if k.mp = 0 ∨ p ≠ 61 then .ok { vw0 with p := p, a := a } else
          match headX k xs a with
          | .error e => .error e
          | .ok (b, e, s, a) => .ok { vw0 with p := p, m := true, b := b, e := e, s := s, a := a }) with
        | .error e => (.error e : Ex Vw)
        | .ok v => match innerX k xs v with
          | .error e => .error e
          | .ok v => netX xs v) = match (match protocolX k xs (a, vw0) with
        | .error e => (.error e : Ex (Int × Vw))
        | .ok s => match multiX k xs s with
          | .error e => .error e
          | .ok s => netPX xs s) with | .error e => .error e | .ok s => .ok s.2 := by
      intro a
      unfold protocolX
      cases hp : protoX k xs a with
      | error e => rfl
      | ok s =>
        obtain ⟨p, a2⟩ := s
        simp only [multiX]
        by_cases hc : k.mp = 0 ∨ p ≠ 61
        · rw [if_pos hc, if_pos hc]
          simp only [innerX, netPX]
          rw [if_neg (by decide)]
          simp only []
          cases netX xs { vw0 with p := p, a := a2 } <;> rfl
        · rw [if_neg hc, if_neg hc]
          cases hh : headX k xs a2 with
          | error e => rfl
          | ok s =>
            obtain ⟨b, e, q, a3⟩ := s
            simp only [innerX, if_true, protocolX]
            cases b with
            | true =>
              simp only [if_true]
              cases hp2 : protoX k xs a3 with
              | error e => rfl
              | ok s =>
                obtain ⟨p3, a4⟩ := s
                simp only [netPX]
                cases netX xs { vw0 with p := p3, m := true, b := true, e := e, s := q, a := a4 } <;> rfl
            | false =>
              simp only [Bool.false_eq_true, if_false, netPX]
              cases netX xs { vw0 with p := p, m := true, b := false, e := e, s := q, a := a3 } <;> rfl
    by_cases h2 : 2 ≤ xs.length ∧ xs.getD 0 0 = 255 ∧ xs.getD 1 0 = 3
    · rw [if_pos h2, if_pos h2]; exact key 2
    · rw [if_neg h2, if_neg h2]
      by_cases hac : k.ac = true
      · rw [if_pos hac, if_pos hac]; exact key 0
      · rw [if_neg hac, if_neg hac]
        by_cases hl : xs.length < 2
        · rw [if_pos hl, if_pos hl]
        · rw [if_neg hl, if_neg hl]

/-! ## The deferred call -/

def cloArgs (p4 p5 : Nat) : Array Value := #[.pointer (some ⟨p4, 0, none⟩), .pointer (some ⟨p5, 0, none⟩)]

/-- Both results in their cells. -/
structure Out (W w : World) (p4 p5 : Nat) (v : Vw) (e : Int) : Prop where
  at4 : w.heap[p4]? = some (.cells v.row.toArray 54 (0, 0))
  at5 : w.heap[p5]? = some (.cells #[.int .i64 e] 27 (0, 0))
  ne : p4 ≠ p5
  new4 : W.heap.size ≤ p4
  new5 : W.heap.size ≤ p5
  fr : Fr W w

theorem clo_none {W w : World} {p4 p5 : Nat} {v : Vw} {e : Int} (h : Out W w p4 p5 v e) : CallsD Try.prog 37 (cloArgs p4 p5) .returning w fun r u w' => u = .returning ∧ r = .returned (.tuple #[]) ∧ Out W w' p4 p5 v e := by
  have hb : Try.f37.body = some (.seq (.region 0 #[opAt (sub look_none.body [0]) 0, opAt (sub look_none.body [0]) 1] false) (sub look_none.body [1])) := by kernel_rfl
  refine (callsD_recover (R := fun r w' => r = .returned (.tuple #[]) ∧ Out W w' p4 p5 v e) (d0 := 5) (o0 := opAt (sub look_none.body [0]) 0) (o1 := opAt (sub look_none.body [0]) 1) (cc := ⟨.builtin .recover, #[], #[]⟩) Try.func37 hb rfl rfl rfl (by kernel_rfl) (by kernel_rfl) (by kernel_rfl) (by kernel_rfl) rfl (by kernel_rfl) (by decide +kernel) (by show 2 ≤ Try.f37.ntmps; decide +kernel) ?_).mono fun r u w' hh => ⟨hh.1, hh.2⟩
  have est : (Act.put (Act.put { tmps := cloArgs p4 p5 ++ Array.replicate (Try.f37.ntmps - (cloArgs p4 p5).size) undef, defers := [] } (some 5) (recovers .returning).1) (opAt (sub look_none.body [0]) 1).dst (recovers .returning).1) =
      act [] [.pointer (some ⟨p4, 0, none⟩), .pointer (some ⟨p5, 0, none⟩), .nilIface, undef, undef, .nilIface, undef, undef, undef, undef, undef, undef, undef, undef, undef, undef, undef, undef, undef] := by kernel_rfl
  rw [est]
  refine code_sound (Z := none) (live := look_none.live) (b := 0) (K := fun e2 _ w' => e2 = .normal ∧ Out W w' p4 p5 v e) Try.mixed _ (fun Y hY => by cases hY) ?_ (Eq.mpr (look_none.eq (fun e2 w' => e2 = .normal ∧ Out W w' p4 p5 v e) ⟨p4, 0, none⟩ ⟨p5, 0, none⟩ w) ?_)
  · rintro e2 st w' ⟨rfl, ho⟩
    exact ⟨rfl, .tuple #[], by kernel_rfl, rfl, ho⟩
  · exact ⟨.bool false, w, by kernel_rfl, _, rfl, ifP_f rfl ⟨rfl, h⟩⟩

theorem clo_stop {W w : World} {p4 p5 : Nat} {v : Vw} {e why : Int} (h : Out W w p4 p5 v e) : CallsD Try.prog 37 (cloArgs p4 p5) (.panicking [stopE why]) w fun r u w' => u = .panicking [{ v := .iface 82 (.agg #[.int .i64 why]), recovered := true }] ∧ r = .returned (.tuple #[]) ∧ Out W w' p4 p5 vw0 why := by
  have hb : Try.f37.body = some (.seq (.region 0 #[opAt (sub look_none.body [0]) 0, opAt (sub look_none.body [0]) 1] false) (sub look_stop.body [1])) := by kernel_rfl
  refine (callsD_recover (R := fun r w' => r = .returned (.tuple #[]) ∧ Out W w' p4 p5 vw0 why) (d0 := 5) (o0 := opAt (sub look_none.body [0]) 0) (o1 := opAt (sub look_none.body [0]) 1) (cc := ⟨.builtin .recover, #[], #[]⟩) Try.func37 hb rfl rfl rfl (by kernel_rfl) (by kernel_rfl) (by kernel_rfl) (by kernel_rfl) rfl (by kernel_rfl) (by decide +kernel) (by show 2 ≤ Try.f37.ntmps; decide +kernel) ?_).mono fun r u w' hh => ⟨hh.1, hh.2⟩
  have est : (Act.put (Act.put { tmps := cloArgs p4 p5 ++ Array.replicate (Try.f37.ntmps - (cloArgs p4 p5).size) undef, defers := [] } (some 5) (recovers (.panicking [stopE why])).1) (opAt (sub look_none.body [0]) 1).dst (recovers (.panicking [stopE why])).1) =
      act [] [.pointer (some ⟨p4, 0, none⟩), .pointer (some ⟨p5, 0, none⟩), .iface 82 (.agg #[.int .i64 why]), undef, undef, .iface 82 (.agg #[.int .i64 why]), undef, undef, undef, undef, undef, undef, undef, undef, undef, undef, undef, undef, undef] := by kernel_rfl
  rw [est]
  refine code_sound (Z := none) (live := look_stop.live) (b := 0) (K := fun e2 _ w' => e2 = .normal ∧ Out W w' p4 p5 vw0 why) Try.mixed _ (fun Y hY => by cases hY) ?_ (Eq.mpr (look_stop.eq (fun e2 w' => e2 = .normal ∧ Out W w' p4 p5 vw0 why) ⟨p4, 0, none⟩ ⟨p5, 0, none⟩ why w) ?_)
  · rintro e2 st w' ⟨rfl, ho⟩
    exact ⟨rfl, .tuple #[], by kernel_rfl, rfl, ho⟩
  · refine ⟨.bool true, w, by kernel_rfl, _, rfl, ifP_t rfl (letA fun w1 h1 x1 s1 => cell_put h1 (i := 0) (by simp) rfl fun w2 h2 k2 => ?_)⟩
    have x2 : Ext w w2 := x1.fresh k2 fun k hk => by have : k = w.heap.size := hk; omega
    have l4 := heap_lt h.at4
    have l5 := heap_lt h.at5
    let S : World → Prop := fun u => u.cell? (newA w) = some (.int .i64 why)
    have c2 : w2.cell? (newA w) = some (.int .i64 why) := (cell_of h2).trans rfl
    refine ⟨S, (Ext.drew w2).cell c2, letD fun w3 _ x3 => ⟨why, fun u hu => hu, ?_⟩⟩
    refine st9 ((x2.trans x3).heap h.at4) rfl (v := vw0) fun w4 h4 k4 => ⟨k4.cell (x3.cell c2) (fun hh => by have : w.heap.size = p4 := hh; omega), ?_⟩
    have a5 : w4.heap[p5]? = some (.cells #[.int .i64 e] 27 (0, 0)) := k4.heap ((x2.trans x3).heap h.at5) (fun hh => h.ne hh.symm)
    refine cell_put a5 (i := 0) (by simp) rfl fun w5 h5 k5 => ⟨rfl, ?_⟩
    exact { at4 := k5.heap h4 (fun hh => h.ne hh), at5 := h5, ne := h.ne, new4 := h.new4, new5 := h.new5, fr := ((h.fr.ext (x2.trans x3)).step k4 fun i hi => by rw [hi]; exact h.new4).step k5 fun i hi => by rw [hi]; exact h.new5 }

/-! ## Look -/

theorem look_results {W w : World} {p4 p5 : Nat} {v : Vw} {e : Int} {D : List Deferred} {st : St} (h : Out W w p4 p5 v e) (h4 : get st 4 = .pointer (some ⟨p4, 0, none⟩)) (h5 : get st 5 = .pointer (some ⟨p5, 0, none⟩)) :
    (results Try.f25 (act D st).tmps).run Try.prog w = .ok (.tuple #[v.v, .int .i64 e]) w := by
  have key : ∀ φ : List Value → Prop, resVC Try.prog w st Try.f25.results.toList φ = (match get st 4 with
      | .pointer (some ad) => (∃ t0 : Int, w.cell? ad = some (.int .u32 t0) ∧ ∃ t1 : Bool, w.cell? (ad.add 1) = some (.bool t1) ∧ ∃ t2 : Bool, w.cell? (ad.add 2) = some (.bool t2) ∧ ∃ t3 : Bool, w.cell? (ad.add 3) = some (.bool t3) ∧
        ∃ t4 : Int, w.cell? (ad.add 4) = some (.int .u32 t4) ∧ ∃ t5 : Int, w.cell? (ad.add 5) = some (.int .i64 t5) ∧ ∃ t6 : Int, w.cell? (ad.add 6) = some (.int .i64 t6) ∧ ∃ t7 : Int, w.cell? (ad.add 7) = some (.int .i64 t7) ∧ ∃ t8 : Int, w.cell? (ad.add 8) = some (.int .i64 t8) ∧
        (match get st 5 with
          | .pointer (some ad) => ∃ t : Int, w.cell? ad = some (.int .i64 t) ∧ φ [.agg #[.int .u32 t0, .bool t1, .bool t2, .bool t3, .int .u32 t4, .int .i64 t5, .int .i64 t6, .int .i64 t7, .int .i64 t8], .int .i64 t]
          | _ => False))
      | _ => False) := fun φ => by kernel_rfl
  have r : resVC Try.prog w st Try.f25.results.toList fun vs => (fun v' w' => v' = Value.tuple #[v.v, .int .i64 e] ∧ w' = w) (oneOr vs) w := by
    rw [key, h4]
    refine (At9.block h.at4).rd ?_
    rw [h5]
    exact ⟨_, (cell_of h.at5).trans rfl, rfl, rfl⟩
  obtain ⟨v', hr, rfl, _⟩ := results_sound (D := D) (R := fun v' w' => v' = Value.tuple #[v.v, .int .i64 e] ∧ w' = w) r
  exact hr

/-! ## The five steps -/

def restX (k : Lnk) (xs : List Int) : Nat → Int × Vw → Ex (Int × Vw)
  | 0, s => if 65535 < xs.length then .error 71 else match addressX k xs s with
    | .error e => .error e
    | .ok s => match protocolX k xs s with
      | .error e => .error e
      | .ok s => match multiX k xs s with
        | .error e => .error e
        | .ok s => netPX xs s
  | 1, s => match addressX k xs s with
    | .error e => .error e
    | .ok s => match protocolX k xs s with
      | .error e => .error e
      | .ok s => match multiX k xs s with
        | .error e => .error e
        | .ok s => netPX xs s
  | 2, s => match protocolX k xs s with
      | .error e => .error e
      | .ok s => match multiX k xs s with
        | .error e => .error e
        | .ok s => netPX xs s
  | 3, s => match multiX k xs s with
        | .error e => .error e
        | .ok s => netPX xs s
  | 4, s => netPX xs s
  | _, s => .ok s
def stepF : Nat → Nat
  | 0 => 38
  | 1 => 39
  | 2 => 40
  | 3 => 41
  | _ => 42
def invX (k : Lnk) (xs : List Int) (j : Nat) (s : Int × Vw) : Prop :=
  walkX k xs = restX k xs j s ∧ (j < 2 → s = (0, vw0)) ∧ (0 < j → xs.length ≤ 65535) ∧ 0 ≤ s.1 ∧ s.1 ≤ 65535

theorem step_spec {w : World} {b : Nat} {k : Lnk} {A : Option Addr} {n c : Nat} {xs : List Int} {s : Int × Vw} (j : Nat) (hj : j < 5) (h : RAt w b k A n c s.1 s.2) (hb : IBytes w A n xs) (hx : ∀ x ∈ xs, 0 ≤ x ∧ x ≤ 255) (hA : ∀ q, blk A q → q ≠ b) (hc : n ≤ c) (hi : invX k xs j s) :
    RunE Try.prog (stepF j) #[rp b] w (fun u w' => ∃ s', invX k xs (j + 1) s' ∧ RAt w' b k A n c s'.1 s'.2 ∧ Keep (· = b) w w') (fun cs w' => ∃ e, walkX k xs = .error e ∧ cs = [stopE e] ∧ Keep (· = b) w w') := by
  have hl := hb.len
  obtain ⟨hw, h2, h5, h0, h1⟩ := hi
  have hn : 0 < j → n ≤ 65535 := fun h => by have := h5 h; omega
  have hok : ∀ (r : Ex (Int × Vw)), (∀ s', r = .ok s' → invX k xs (j + 1) s') → ∀ u w', okR w b k A n c r u w' → ∃ s', invX k xs (j + 1) s' ∧ RAt w' b k A n c s'.1 s'.2 ∧ Keep (· = b) w w' :=
    fun r hr u w' ⟨_, s', he, ha, hk⟩ => ⟨s', hr s' he, ha, hk⟩
  have her : ∀ (r : Ex (Int × Vw)), (∀ e, r = .error e → walkX k xs = .error e) → ∀ cs w', erX w b r cs w' → ∃ e, walkX k xs = .error e ∧ cs = [stopE e] ∧ Keep (· = b) w w' :=
    fun r hr cs w' ⟨e, he, hcs, hk⟩ => ⟨e, hr e he, hcs, hk⟩
  obtain ⟨a, v⟩ := s
  match j, hj with
  | 0, _ =>
    obtain ⟨rfl, rfl⟩ := Prod.mk.inj (h2 (by omega))
    refine (size_spec h).mono (hok _ fun s' he => ?_) (her _ fun e he => ?_)
    · by_cases hs : n ≤ 65535
      · rw [if_pos hs] at he
        obtain rfl := Except.ok.inj he
        refine ⟨?_, fun _ => rfl, fun _ => by omega, by decide, by decide⟩
        rw [hw]; exact if_neg (by omega)
      · rw [if_neg hs] at he; cases he
    · by_cases hs : n ≤ 65535
      · rw [if_pos hs] at he; cases he
      · rw [if_neg hs] at he; obtain rfl := Except.error.inj he; rw [hw]; exact if_pos (by omega)
  | 1, _ =>
    obtain ⟨rfl, rfl⟩ := Prod.mk.inj (h2 (by omega))
    refine (address_spec h hb (hn (by omega))).mono (hok _ fun s' he => ?_) (her _ fun e he => ?_)
    · refine ⟨by rw [hw]; simp only [restX]; rw [he], fun h => absurd h (by omega), fun _ => h5 (by omega), ?_⟩
      unfold addressX at he
      split at he
      · obtain rfl := Except.ok.inj he; exact ⟨by decide, by decide⟩
      · split at he
        · obtain rfl := Except.ok.inj he; exact ⟨by decide, by decide⟩
        · split at he <;> cases he
    · rw [hw]; simp only [restX]; rw [he]
  | 2, _ =>
    refine (protocol_spec h hb hx hA hc h0 h1 (hn (by omega))).mono (hok _ fun s' he => ?_) (her _ fun e he => ?_)
    · refine ⟨by rw [hw]; simp only [restX]; rw [he], fun h => absurd h (by omega), fun _ => h5 (by omega), ?_⟩
      unfold protocolX at he
      split at he
      · cases he
      · rename_i p a2 hp
        obtain rfl := Except.ok.inj he
        have := protocol_range hx h0 hp
        have := h5 (by omega)
        simp only at *
        omega
    · rw [hw]; simp only [restX]; rw [he]
  | 3, _ =>
    refine (multi_spec h hb hx hA hc h0 h1 (hn (by omega))).mono (hok _ fun s' he => ?_) (her _ fun e he => ?_)
    · refine ⟨by rw [hw]; simp only [restX]; rw [he], fun h => absurd h (by omega), fun _ => h5 (by omega), ?_⟩
      have hlen := h5 (by omega)
      unfold multiX at he
      split at he
      · obtain rfl := Except.ok.inj he; exact ⟨h0, h1⟩
      · split at he
        · cases he
        · rename_i b2 e2 q2 a2 hh
          have r1 := head_range hh
          simp only at r1 h0
          split at he
          · unfold protocolX at he
            split at he
            · cases he
            · rename_i p a3 hp
              obtain rfl := Except.ok.inj he
              have := protocol_range hx (by simp only; omega) hp
              simp only at *
              omega
          · obtain rfl := Except.ok.inj he
            simp only
            omega
    · rw [hw]; simp only [restX]; rw [he]
  | 4, _ =>
    refine (net_spec h hb hx hA hc h0 h1 (hn (by omega))).mono (hok _ fun s' he => ?_) (her _ fun e he => ?_)
    · refine ⟨by rw [hw]; simp only [restX]; rw [he], fun h => absurd h (by omega), fun _ => h5 (by omega), ?_⟩
      unfold netPX at he
      split at he
      · cases he
      · obtain rfl := Except.ok.inj he; exact ⟨h0, h1⟩
    · rw [hw]; simp only [restX]; rw [he]

/-! ## The walk behind the deferral -/

theorem Out.keep {W w w' : World} {p4 p5 b : Nat} {v : Vw} {e : Int} (h : Out W w p4 p5 v e) (hk : Keep (· = b) w w') (n4 : p4 ≠ b) (n5 : p5 ≠ b) (hb : W.heap.size ≤ b) : Out W w' p4 p5 v e :=
  { at4 := hk.heap h.at4 n4, at5 := hk.heap h.at5 n5, ne := h.ne, new4 := h.new4, new5 := h.new5, fr := h.fr.step hk fun i hi => by rw [hi]; exact hb }

/-- What stays through the walk. -/
structure Tl (st : St) (p4 p5 b : Nat) : Prop where
  len : hasLen st 44 = true
  t4 : get st 4 = rp p4
  t5 : get st 5 = rp p5
  t7 : get st 7 = rp b
structure Lp (st : St) (p4 p5 b q j : Nat) : Prop extends Tl st p4 p5 b where
  t31 : get st 31 = .slice (some ⟨q, 0, none⟩) 5 5
  t32 : get st 32 = .int .i64 5
  t33 : get st 33 = .int .i64 j
theorem Lp.set {st : St} {p4 p5 b q j : Nat} (h : Lp st p4 p5 b q j) {d : Nat} {v : Value} (hd : 34 ≤ d) : Lp (st.set d v) p4 p5 b q j :=
  { len := hasLen_set h.len, t4 := (get_set_ne (by omega)).trans h.t4, t5 := (get_set_ne (by omega)).trans h.t5, t7 := (get_set_ne (by omega)).trans h.t7, t31 := (get_set_ne (by omega)).trans h.t31, t32 := (get_set_ne (by omega)).trans h.t32, t33 := (get_set_ne (by omega)).trans h.t33 }
theorem Tl.eq {st : St} {p4 p5 b : Nat} (h : Tl st p4 p5 b) : st = [get st 0, get st 1, get st 2, get st 3, rp p4, rp p5, get st 6, rp b, get st 8, get st 9, get st 10, get st 11, get st 12, get st 13, get st 14, get st 15, get st 16, get st 17, get st 18, get st 19, get st 20, get st 21, get st 22, get st 23, get st 24, get st 25, get st 26, get st 27, get st 28, get st 29, get st 30, get st 31, get st 32, get st 33, get st 34, get st 35, get st 36, get st 37, get st 38, get st 39, get st 40, get st 41, get st 42, get st 43] :=
  (st_merge (L := [4, 5, 7]) (pat := [undef, undef, undef, undef, rp p4, rp p5, undef, rp b, undef, undef, undef, undef, undef, undef, undef, undef, undef, undef, undef, undef, undef, undef, undef, undef, undef, undef, undef, undef, undef, undef, undef, undef, undef, undef, undef, undef, undef, undef, undef, undef, undef, undef, undef, undef]) h.len (by kernel_rfl) ⟨h.t4, h.t5, h.t7, trivial⟩).trans (look_r6.st ⟨p4, 0, none⟩ ⟨p5, 0, none⟩ ⟨b, 0, none⟩ (get st))
theorem Lp.eq {st : St} {p4 p5 b q j : Nat} (h : Lp st p4 p5 b q j) : st = [get st 0, get st 1, get st 2, get st 3, rp p4, rp p5, get st 6, rp b, get st 8, get st 9, get st 10, get st 11, get st 12, get st 13, get st 14, get st 15, get st 16, get st 17, get st 18, get st 19, get st 20, get st 21, get st 22, get st 23, get st 24, get st 25, get st 26, get st 27, get st 28, get st 29, get st 30, .slice (some ⟨q, 0, none⟩) 5 5, .int .i64 5, .int .i64 (j : Int), get st 34, get st 35, get st 36, get st 37, get st 38, get st 39, get st 40, get st 41, get st 42, get st 43] := by
  have hl : liveAll [4, 5, 7, 31, 32, 33] st ([undef, undef, undef, undef, rp p4, rp p5, undef, rp b, undef, undef, undef, undef, undef, undef, undef, undef, undef, undef, undef, undef, undef, undef, undef, undef, undef, undef, undef, undef, undef, undef, undef, .slice (some ⟨q, 0, none⟩) 5 5, .int .i64 5, .int .i64 (j : Int), undef, undef, undef, undef, undef, undef, undef, undef, undef, undef] : St) := ⟨h.t4, h.t5, h.t7, h.t31, h.t32, h.t33, trivial⟩
  exact (st_merge h.len (by kernel_rfl) hl).trans (look_round.st ⟨p4, 0, none⟩ ⟨p5, 0, none⟩ ⟨b, 0, none⟩ (some ⟨q, 0, none⟩) 5 5 5 (j : Int) (get st))

def steps5 (b : Nat) : Array Value := #[.func (.func 38) #[rp b] #[], .func (.func 39) #[rp b] #[], .func (.func 40) #[rp b] #[], .func (.func 41) #[rp b] #[], .func (.func 42) #[rp b] #[]]

section
variable {W : World} {D : List Deferred} {Q : Exit → Act → World → Prop} {p4 p5 b q c n : Nat} {e0 : Int} {k : Lnk} {A : Option Addr} {xs : List Int}

/-- What the loop's rounds keep. -/
structure Rd (W : World) (k : Lnk) (A : Option Addr) (n c : Nat) (xs : List Int) (p4 p5 b q j : Nat) (e0 : Int) (st : St) (w : World) : Prop where
  lp : Lp st p4 p5 b q j
  j5 : j ≤ 5
  out : ∃ v, Out W w p4 p5 v e0
  fs : ∃ t fz, w.heap[q]? = some (.cells (steps5 b) t fz)
  rd : ∃ s, RAt w b k A n c s.1 s.2 ∧ invX k xs j s

set_option maxHeartbeats 4000000 in
theorem look_fin (QR : ∀ st w v, Tl st p4 p5 b → Out W w p4 p5 v 0 → lookX k xs = .ok v → Q .ret (act D st) w) (hk : linkOk k = true) (n4 : p4 ≠ b) (n5 : p5 ≠ b) (nb : W.heap.size ≤ b) {st : St} {w : World} (h : Rd W k A n c xs p4 p5 b q 5 e0 st w) :
    (sub look_end.body [1, 1, 1, 1, 1]).wp Try.prog Q (act D st) w := by
  obtain ⟨v0, ho⟩ := h.out
  obtain ⟨⟨a, v⟩, hr, hi, -⟩ := h.rd
  have hl : lookX k xs = .ok v := by rw [walk_look k xs hk, hi]; rfl
  have ht := h.lp.toTl
  rw [ht.eq]
  refine code_wp (live := look_end.live) (b := 0) Try.mixed (Eq.mpr (look_end.eq (fun e st w => Q (exitOf e) (act D st) w) ⟨p4, 0, none⟩ ⟨p5, 0, none⟩ ⟨b, 0, none⟩ (get st) w) ?_)
  have hat : At9 w ((Addr.mk b 0 none).add 5) v := ⟨hr.v0, hr.v1, hr.v2, by rw [add_mk, add_mk]; exact hr.at_ 8 rfl, by rw [add_mk, add_mk]; exact hr.at_ 9 rfl, by rw [add_mk, add_mk]; exact hr.at_ 10 rfl, by rw [add_mk, add_mk]; exact hr.at_ 11 rfl, by rw [add_mk, add_mk]; exact hr.at_ 12 rfl, by rw [add_mk, add_mk]; exact hr.at_ 13 rfl⟩
  refine ⟨_, rfl, hat.rd ?_⟩
  refine st9 ho.at4 rfl (v := v) fun w1 h1 k1 => ?_
  have a5 := k1.heap ho.at5 (fun hh => ho.ne hh.symm)
  refine cell_put a5 (i := 0) (by simp) rfl fun w2 h2 k2 => ?_
  refine QR _ _ v ⟨by kernel_rfl, rfl, rfl, rfl⟩ { at4 := k2.heap h1 (fun hh => ho.ne hh), at5 := h2, ne := ho.ne, new4 := ho.new4, new5 := ho.new5, fr := (ho.fr.step k1 fun i hi => by rw [hi]; exact ho.new4).step k2 fun i hi => by rw [hi]; exact ho.new5 } hl
end
end Go.Proofs.Ytgjabpgkiaojhaa

namespace Go.Proofs.Ytgjabpgkiaojhaa
open Go.Rd Go.RowKit
set_option linter.unusedVariables false
set_option linter.unusedSimpArgs false
set_option maxRecDepth 100000

section
variable {W : World} {D : List Deferred} {Q : Exit → Act → World → Prop} {p4 p5 b q c n : Nat} {e0 : Int} {k : Lnk} {A : Option Addr} {xs : List Int}
theorem Out.ext {W w w' : World} {v : Vw} {e : Int} (h : Out W w p4 p5 v e) (hk : Go.Rd.Ext w w') : Out W w' p4 p5 v e :=
  { at4 := hk.heap h.at4, at5 := hk.heap h.at5, ne := h.ne, new4 := h.new4, new5 := h.new5, fr := h.fr.ext hk }

theorem r10_wp {j : Nat} (hj : j < 5) {st : St} {w : World} (hl : Lp st p4 p5 b q j) (h : ∀ st', Lp st' p4 p5 b q (j + 1) → Q .normal (act D st') w) : (sub look_r10.body [1, 1, 1, 1, 0, 1, 0, 0, 1, 1, 1]).wp Try.prog Q (act D st) w := by
  rw [hl.eq]
  refine code_wp (live := look_r10.live) (b := 0) Try.mixed (Eq.mpr (look_r10.eq (fun e st w => Q (exitOf e) (act D st) w) ⟨p4, 0, none⟩ ⟨p5, 0, none⟩ ⟨b, 0, none⟩ (some ⟨q, 0, none⟩) 5 5 5 (j : Int) (get st) w) ?_)
  have hw : IntKind.i64.wrap ((j : Int) + 1) = ((j + 1 : Nat) : Int) := wrap_i64 (by omega) (by omega)
  refine h _ ⟨⟨by kernel_rfl, rfl, rfl, rfl⟩, rfl, rfl, ?_⟩
  rw [← hw]
  rfl

theorem call_wp {j : Nat} (hj : j < 5) {st : St} {w : World} (hlen : hasLen st 44 = true) (h9 : get st 9 = .func (.func (stepF j)) #[rp b] #[]) {R : Value → World → Prop} {X : List PanicEntry → World → Prop} (hr : RunE Try.prog (stepF j) #[rp b] w R X)
    (hq : ∀ v w', R v w' → Q .normal (act D ((st.set 37 (.func (.func (stepF j)) #[rp b] #[])).set 38 v)) w') (hx : ∀ cs w', X cs w' → Q (.panic cs) (act D (st.set 37 (.func (.func (stepF j)) #[rp b] #[]))) w') :
    (sub look_round.body [1, 1, 1, 1, 0, 1, 0, 0, 1, 1, 0, 0, 1]).wp Try.prog Q (act D st) w := by
  have hg : okCall Try.prog (stepF j) = true := by
    match j, hj with
    | 0, _ => exact (by kernel_rfl : okCall Try.prog 38 = true)
    | 1, _ => exact (by kernel_rfl : okCall Try.prog 39 = true)
    | 2, _ => exact (by kernel_rfl : okCall Try.prog 40 = true)
    | 3, _ => exact (by kernel_rfl : okCall Try.prog 41 = true)
    | 4, _ => exact (by kernel_rfl : okCall Try.prog 42 = true)
  have hl : 37 < st.length := by rw [hasLen_iff hlen]; decide
  have hreg : sub look_round.body [1, 1, 1, 1, 0, 1, 0, 0, 1, 1, 0, 0, 1] = Code.region 9 #[opAt (sub look_round.body [1, 1, 1, 1, 0, 1, 0, 0, 1, 1, 0, 0, 1]) 0, opAt (sub look_round.body [1, 1, 1, 1, 0, 1, 0, 0, 1, 1, 0, 0, 1]) 1] false := by kernel_rfl
  have a0 : (opAt (sub look_round.body [1, 1, 1, 1, 0, 1, 0, 0, 1, 1, 0, 0, 1]) 0).op = .move (.tmp 9) := by kernel_rfl
  have a1 : (opAt (sub look_round.body [1, 1, 1, 1, 0, 1, 0, 0, 1, 1, 0, 0, 1]) 0).dst = some 37 := by kernel_rfl
  have a2 : (opAt (sub look_round.body [1, 1, 1, 1, 0, 1, 0, 0, 1, 1, 0, 0, 1]) 0).guard = none := by kernel_rfl
  have a3 : (opAt (sub look_round.body [1, 1, 1, 1, 0, 1, 0, 0, 1, 1, 0, 0, 1]) 1).op = .call ⟨.value (.tmp 37), #[], #[]⟩ := by kernel_rfl
  have a4 : (opAt (sub look_round.body [1, 1, 1, 1, 0, 1, 0, 0, 1, 1, 0, 0, 1]) 1).dst = some 38 := by kernel_rfl
  have a5 : (opAt (sub look_round.body [1, 1, 1, 1, 0, 1, 0, 0, 1, 1, 0, 0, 1]) 1).guard = none := by kernel_rfl
  rw [hreg]
  generalize opAt (sub look_round.body [1, 1, 1, 1, 0, 1, 0, 0, 1, 1, 0, 0, 1]) 0 = o0 at *
  generalize opAt (sub look_round.body [1, 1, 1, 1, 0, 1, 0, 0, 1, 1, 0, 0, 1]) 1 = o1 at *
  exact wp_call_tmp a0 a1 a2 a3 rfl rfl a4 a5 hl h9 hg hr hq hx

theorem steps_at {j : Nat} (hj : j < 5) : (steps5 b)[0 + Int.toNat (j : Int) * 1]? = some (.func (.func (stepF j)) #[rp b] #[]) := by
  match j, hj with
  | 0, _ => rfl
  | 1, _ => rfl
  | 2, _ => rfl
  | 3, _ => rfl
  | 4, _ => rfl
set_option maxHeartbeats 400000 in
theorem round_wp (hb : IBytes W A n xs) (hx : ∀ x ∈ xs, 0 ≤ x ∧ x ≤ 255) (hc : n ≤ c) (hA : ∀ q, blk A q → q ≠ b) (hqb : q ≠ b) (n4 : p4 ≠ b) (n5 : p5 ≠ b) (nb : W.heap.size ≤ b) {j : Nat} {st : St} {w : World} (hd : Rd W k A n c xs p4 p5 b q j e0 st w)
    (hn : ∀ st' w', Rd W k A n c xs p4 p5 b q (j + 1) e0 st' w' → Q .normal (act D st') w') (he : j = 5 → ∀ st', Rd W k A n c xs p4 p5 b q 5 e0 st' w → Q (.exit 0) (act D st') w)
    (QP : ∀ st w v e, Tl st p4 p5 b → Out W w p4 p5 v e0 → walkX k xs = .error e → Q (.panic [stopE e]) (act D st) w) :
    (sub look_round.body [1, 1, 1, 1, 0, 1, 0, 0]).wp Try.prog Q (act D st) w := by
  have toExt : ∀ {w : World}, Fr W w → Go.Rd.Ext W w := fun f => (Keep.of_below f).mono fun k hk hs => by have : W.heap.size ≤ k := hs; omega
  obtain ⟨s, hra, hin⟩ := hd.rd
  obtain ⟨v, hout⟩ := hd.out
  obtain ⟨t, fz, hfs⟩ := hd.fs
  let J : St → World → Prop := fun st3 w3 => w3 = w ∧ Lp st3 p4 p5 b q j ∧ j < 5 ∧ get st3 9 = .func (.func (stepF j)) #[rp b] #[]
  have hJ : ∀ st3 w3, J st3 w3 → behindW Try.prog [1, 1, 0, 0] (sub look_round.body [1, 1, 1, 1, 0, 1, 0, 0]) Q (act D st3) w3 := by
    rintro st3 w3 ⟨rfl, hl, hj, h9⟩
    have hreg : behindW Try.prog [1, 1, 0, 0] (sub look_round.body [1, 1, 1, 1, 0, 1, 0, 0]) Q = (sub look_round.body [1, 1, 1, 1, 0, 1, 0, 0, 1, 1, 0, 0, 1]).wp Try.prog (Exit.inBlock 1 (Exit.then ((sub look_r10.body [1, 1, 1, 1, 0, 1, 0, 0, 1, 1, 1]).wp Try.prog Q) Q)) := by kernel_rfl
    rw [hreg]
    refine call_wp hj hl.len h9 (step_spec j hj hra (hb.ext (toExt hout.fr)) hx hA hc hin) ?_ ?_
    · rintro u w4 ⟨s', hi', hra', hk4⟩
      refine r10_wp hj ((hl.set (d := 37) (by decide)).set (d := 38) (by decide)) fun st' hl' => hn st' w4 ?_
      exact { lp := hl', j5 := hj, out := ⟨v, hout.keep hk4 n4 n5 nb⟩, fs := ⟨t, fz, hk4.heap hfs hqb⟩, rd := ⟨s', hra', hi'⟩ }
    · rintro cs w4 ⟨e, he, rfl, hk4⟩
      exact QP _ _ v e (hl.set (d := 37) (by decide)).toTl (hout.keep hk4 n4 n5 nb) he
  have hst := hd.lp.eq
  have hs : spine Try.prog none look_round.live J [1, 1, 0, 0] 0 (sub look_round.body [1, 1, 1, 1, 0, 1, 0, 0]) (fun e st w => Q (exitOf e) (act D st) w) st w := by
    rw [hst]
    refine Eq.mpr (look_round.eq (fun e st w => Q (exitOf e) (act D st) w) J ⟨p4, 0, none⟩ ⟨p5, 0, none⟩ ⟨b, 0, none⟩ (some ⟨q, 0, none⟩) 5 5 5 (j : Int) (get st) w) (ifP_decide.2 ⟨fun hj => ?_, fun hj => ?_⟩)
    · have hj' : j < 5 := by omega
      refine ⟨by omega, by omega, _, rfl, .func (.func (stepF j)) #[rp b] #[], ?_, rfl, ⟨⟨by kernel_rfl, rfl, rfl, rfl⟩, rfl, rfl, rfl⟩, hj', rfl⟩
      rw [add_mk, cell_of hfs]
      exact steps_at hj'
    · have hj' : j = 5 := by have := hd.j5; omega
      subst hj'
      exact he rfl _ { lp := ⟨⟨by kernel_rfl, rfl, rfl, rfl⟩, rfl, rfl, rfl⟩, j5 := by decide, out := ⟨v, hout⟩, fs := ⟨t, fz, hfs⟩, rd := ⟨s, hra, hin⟩ }
  exact spine_wpW Try.mixed (by kernel_rfl) (fun _ _ _ h => h) hJ hs

theorem look_tail (hb : IBytes W A n xs) (hx : ∀ x ∈ xs, 0 ≤ x ∧ x ≤ 255) (hc : n ≤ c) (hA : ∀ q, blk A q → q < W.heap.size) (QR : ∀ st w v, Tl st p4 p5 b → Out W w p4 p5 v 0 → lookX k xs = .ok v → Q .ret (act D st) w)
    (QP : ∀ st w v e, Tl st p4 p5 b → Out W w p4 p5 v e0 → lookX k xs = .error e → Q (.panic [stopE e]) (act D st) w)
    (hk : linkOk k = true) (n4 : p4 ≠ b) (n5 : p5 ≠ b) (nb : W.heap.size ≤ b) {v0 : Vw} {st : St} {w : World} (ht : Tl st p4 p5 b) (ho : Out W w p4 p5 v0 e0) (hr : RAt w b k A n c 0 vw0) :
    (sub look_head.body [1, 1, 1, 1]).wp Try.prog Q (act D st) w := by
  have hcut : sub look_head.body [1, 1, 1, 1] = .seq (.seq (sub look_r6.body [1, 1, 1, 1, 0, 0]) (.block 0 (.loop (sub look_round.body [1, 1, 1, 1, 0, 1, 0, 0])))) (sub look_end.body [1, 1, 1, 1, 1]) := by kernel_rfl
  rw [hcut]
  refine wp_seq (wp_seq ?_)
  let Qe : Exit → Act → World → Prop := Exit.then ((sub look_end.body [1, 1, 1, 1, 1]).wp Try.prog Q) Q
  let Qb : Exit → Act → World → Prop := Exit.then ((Code.block 0 (.loop (sub look_round.body [1, 1, 1, 1, 0, 1, 0, 0]))).wp Try.prog Qe) Qe
  show (sub look_r6.body [1, 1, 1, 1, 0, 0]).wp Try.prog Qb (act D st) w
  rw [ht.eq]
  have hbw : b < w.heap.size := heap_lt hr
  let q := w.heap.size
  have hqb : q ≠ b := by show w.heap.size ≠ b; omega
  let I : Act → World → Prop := fun a w => ∃ st j, a = act D st ∧ Rd W k A n c xs p4 p5 b q j e0 st w
  let μ : Act → World → Nat := fun a _ => match a.tmps.getD 33 undef with | .int _ j => (5 - j).toNat | _ => 0
  have mu : ∀ (st : St) (j : Nat) (w : World), get st 33 = .int .i64 j → μ (act D st) w = 5 - j := by
    intro st j w h
    have : (act D st).tmps.getD 33 undef = .int .i64 j := (get_eq st 33).symm.trans h
    show (match (act D st).tmps.getD 33 undef with | .int _ j => (5 - j).toNat | _ => 0) = 5 - j
    rw [this]
    show (5 - (j : Int)).toNat = 5 - j
    omega
  have hloop : ∀ (st : St) (j : Nat) (w : World), Rd W k A n c xs p4 p5 b q j e0 st w → (Code.block 0 (.loop (sub look_round.body [1, 1, 1, 1, 0, 1, 0, 0]))).wp Try.prog Qe (act D st) w := by
    intro st j w hd
    refine wp_block (wp_loop I μ ⟨st, j, rfl, hd⟩ ?_)
    rintro a w2 ⟨st2, j, rfl, hd⟩
    refine round_wp hb hx hc (fun i hi => by have := hA i hi; omega) hqb n4 n5 nb hd (fun st' w' hd' => ?_) (fun hj st' hd' => ?_) (fun st w v e ht ho he => ?_)
    · show I (act D st') w' ∧ μ (act D st') w' < μ (act D st2) w2
      refine ⟨⟨st', j + 1, rfl, hd'⟩, ?_⟩
      rw [mu _ _ w' hd'.lp.t33, mu _ _ w2 hd.lp.t33]
      have := hd'.j5
      omega
    · have hif : Exit.inBlock 0 Qe (.exit 0) (act D st') w2 = Qe .normal (act D st') w2 := by simp only [Exit.inBlock, if_true]
      show Exit.inBlock 0 Qe (.exit 0) (act D st') w2
      rw [hif]
      exact look_fin QR hk n4 n5 nb hd'
    · exact QP st w v e ht ho (by rw [walk_look k xs hk, he])
  refine code_wp (live := look_r6.live) (b := 0) Try.mixed (Eq.mpr (look_r6.eq (fun e st w => Qb (exitOf e) (act D st) w) ⟨p4, 0, none⟩ ⟨p5, 0, none⟩ ⟨b, 0, none⟩ (get st) w) (letA fun w1 h1 x1 s1 => ?_))
  refine hloop _ 0 w1 { lp := ⟨⟨by kernel_rfl, rfl, rfl, rfl⟩, rfl, rfl, rfl⟩, j5 := by decide, out := ⟨_, ho.ext x1⟩, fs := ⟨_, _, h1⟩, rd := ⟨(0, vw0), hr.ext x1, by rfl, fun _ => rfl, fun h => absurd h (by decide), by decide, by decide⟩ }
end
end Go.Proofs.Ytgjabpgkiaojhaa

namespace Go.Proofs.Ytgjabpgkiaojhaa
open Go.Rd Go.RowKit
set_option linter.unusedVariables false
set_option linter.unusedSimpArgs false
set_option maxRecDepth 100000

theorem look_spec {W : World} {k : Lnk} {A : Option Addr} {n c : Nat} {xs : List Int} (hb : IBytes W A n xs) (hx : ∀ x ∈ xs, 0 ≤ x ∧ x ≤ 255) (hc : n ≤ c) (hA : ∀ q, blk A q → q < W.heap.size) :
    Run Try.prog 25 #[.agg #[.bool k.ac, .bool k.pf, .int .i64 k.mp], .slice A n c] W fun v w' => v = ansX (lookX k xs) ∧ Ext W w' := by
  have hl := hb.len
  have hbody : Try.f25.body = some look_head.body := by kernel_rfl
  let R : Ending → World → Prop := fun e w' => ∃ v, e = .returned v ∧ v = ansX (lookX k xs) ∧ Ext W w'
  refine calls_of_wp_defers (R := R) Try.func25 hbody ?_
  have toExt : ∀ {w : World}, Fr W w → Ext W w := fun f => (Keep.of_below f).mono fun k hk hs => by have : W.heap.size ≤ k := hs; omega
  have est : ({ tmps := #[.agg #[.bool k.ac, .bool k.pf, .int .i64 k.mp], .slice A n c] ++ Array.replicate (Try.f25.ntmps - (#[Value.agg #[.bool k.ac, .bool k.pf, .int .i64 k.mp], .slice A n c]).size) undef, defers := [] } : Act) =
      act [] [.agg #[.bool k.ac, .bool k.pf, .int .i64 k.mp], .slice A n c, undef, undef, undef, undef, undef, undef, undef, undef, undef, undef, undef, undef, undef, undef, undef, undef, undef, undef, undef, undef, undef, undef, undef, undef, undef, undef, undef, undef, undef, undef, undef, undef, undef, undef, undef, undef, undef, undef, undef, undef, undef, undef] := by kernel_rfl
  rw [est]
  -- where it ends without a walk
  let KW : Go.Rd.Ex → Value → Value → World → Prop := fun e v4 v5 w => e = .ret ∧ ∃ p4 p5 v e0, v4 = .pointer (some ⟨p4, 0, none⟩) ∧ v5 = .pointer (some ⟨p5, 0, none⟩) ∧ Out W w p4 p5 v e0 ∧ Value.tuple #[v.v, .int .i64 e0] = ansX (lookX k xs)
  let J : St → World → Prop := fun st w => hasLen st 44 = true ∧ ∃ p4 p5 b v e0, get st 4 = .pointer (some ⟨p4, 0, none⟩) ∧ get st 5 = .pointer (some ⟨p5, 0, none⟩) ∧ get st 7 = .pointer (some ⟨b, 0, none⟩) ∧ Out W w p4 p5 v e0 ∧ RAt w b k A n c 0 vw0 ∧ W.heap.size ≤ b ∧ p4 ≠ b ∧ p5 ≠ b ∧ linkOk k = true
  refine spine_wp (Z := none) (D := []) (live := look_head.live) (J := J) (K := fun e st w => KW e (get st 4) (get st 5) w) (n := 2) Try.mixed (fun Y hY => by cases hY) ?_ ?_ (Eq.mpr (look_head.eq KW J k.ac k.pf k.mp A n c W) ?_)
  · rintro e st w ⟨rfl, p4, p5, v, e0, h4, h5, ho, he⟩
    exact ⟨_, look_results ho h4 h5, _, rfl, he, toExt ho.fr⟩
  · -- behind the place where it defers
    rintro st w ⟨hl44, p4, p5, b, v, e0, h4, h5, h7, ho, hr, hnb, n4, n5, hk⟩
    have hcut : restAt 2 look_head.body = .seq (.region 5 #[opAt (sub look_head.body [1, 1, 1, 0]) 0, opAt (sub look_head.body [1, 1, 1, 0]) 1] false) (sub look_head.body [1, 1, 1, 1]) := by kernel_rfl
    rw [hcut]
    refine wp_seq (wp_defer_two (g := 37) (i := 4) (j := 5) (d := 20) (cc := ⟨.value (.tmp 20), #[], #[]⟩) (by kernel_rfl) (by kernel_rfl) (by kernel_rfl) (by kernel_rfl) rfl rfl (by kernel_rfl) (by kernel_rfl) (by rw [hasLen_iff hl44]; decide) ?_)
    show Code.wp _ _ _ _ _
    rw [h4, h5]
    generalize hst : st.set 20 (Value.func (.func 37) #[] #[.pointer (some ⟨p4, 0, none⟩), .pointer (some ⟨p5, 0, none⟩)]) = st'
    have ht' : Tl st' p4 p5 b := by
      rw [← hst]
      exact ⟨hasLen_set hl44, (get_set_ne (by decide)).trans h4, (get_set_ne (by decide)).trans h5, (get_set_ne (by decide)).trans h7⟩
    let d : Deferred := { target := .fn (.func 37) #[.pointer (some ⟨p4, 0, none⟩), .pointer (some ⟨p5, 0, none⟩)], args := #[] }
    have hinv : ∀ w : World, (invoke (.fn (.func 37) #[.pointer (some ⟨p4, 0, none⟩), .pointer (some ⟨p5, 0, none⟩)]) #[]).run Try.prog w = .ok (.enter 37 (cloArgs p4 p5)) w := by
      intro w
      have := run_callFunc (P := Try.prog) (g := 37) (args := cloArgs p4 p5) (by kernel_rfl) w
      simp [invoke, cloArgs, this]
    refine look_tail (D := [d]) hb hx hc hA ?_ ?_ hk n4 n5 hnb ht' ho hr
    · rintro st w v hst ho he
      refine leaves_cons (by simp) (hinv w) ((clo_none ho).mono ?_)
      rintro r u w2 ⟨rfl, rfl, ho2⟩
      exact ⟨_, look_results ho2 hst.t4 hst.t5, _, rfl, by rw [he]; rfl, toExt ho2.fr⟩
    · rintro st w v e hst ho he
      show Leaves _ _ _ _ _ _ _
      refine leaves_cons (by simp) (hinv w) ((clo_stop ho).mono ?_)
      rintro r u w2 ⟨rfl, rfl, ho2⟩
      exact ⟨_, look_results ho2 hst.t4 hst.t5, _, rfl, by rw [he]; rfl, toExt ho2.fr⟩
  · -- up to that place
    refine letA fun w1 h1 x1 s1 => letA fun w2 h2 x2 s2 => letA fun w3 h3 x3 s3 => ?_
    have h13 := x3.heap (x2.heap h1)
    have h23 := x3.heap h2
    have x03 : Go.Rd.Ext W w3 := (x1.trans x2).trans x3
    have c1 : w3.cell? ((newA W).add 1) = some (.bool k.pf) := by rw [newA, add_mk]; exact (cell_of h13).trans rfl
    have c2 : w3.cell? ((newA W).add 2) = some (.int .i64 k.mp) := by rw [newA, add_mk]; exact (cell_of h13).trans rfl
    refine ⟨k.ac, (cell_of h13).trans rfl, k.pf, c1, k.mp, c2, fcheck_spec.mono ?_⟩
    rintro v w4 ⟨rfl, x4⟩
    refine ⟨_, rfl, ifP_bne.2 ⟨fun hk => ?_, fun hk => ?_⟩⟩
    · have hk' : linkOk k = false := by
        cases h : linkOk k with
        | false => rfl
        | true => rw [h] at hk; exact absurd rfl hk
      have e70 : (if linkOk k = true then (0 : Int) else 70) = 70 := by rw [hk']; rfl
      rw [e70]
      refine st9 (x4.heap h23) rfl (v := vw0) fun w5 h5 k5 => ?_
      have a5 := k5.heap (x4.heap h3) (by show w2.heap.size ≠ w1.heap.size; omega)
      refine cell_put a5 (i := 0) (by simp) rfl fun w6 h6 k6 => ⟨rfl, _, _, vw0, 70, rfl, rfl, ?_, ?_⟩
      · exact { at4 := k6.heap h5 (by show w1.heap.size ≠ w2.heap.size; omega), at5 := h6, ne := by show w1.heap.size ≠ w2.heap.size; omega, new4 := by show W.heap.size ≤ w1.heap.size; omega, new5 := by show W.heap.size ≤ w2.heap.size; omega, fr := ((Fr.of_ext (x03.trans x4)).step k5 fun i hi => by rw [hi]; show W.heap.size ≤ w1.heap.size; omega).step k6 fun i hi => by rw [hi]; show W.heap.size ≤ w2.heap.size; omega }
      · unfold lookX; rw [if_pos hk']; rfl
    · have hk' : linkOk k = true := by
        cases h : linkOk k with
        | true => rfl
        | false => rw [h] at hk; exact absurd hk (by decide)
      have e0 : (if linkOk k = true then (0 : Int) else 70) = 0 := by rw [hk']; rfl
      rw [e0]
      have s4 := x4.size
      refine ⟨k.ac, x4.cell ((cell_of h13).trans rfl), k.pf, x4.cell c1, k.mp, x4.cell c2, letA fun w5 h5 x5 s5 => ?_⟩
      refine ⟨by kernel_rfl, _, _, _, vw0, 0, rfl, rfl, rfl, ?_, h5, ?_, ?_, ?_, hk'⟩
      · exact { at4 := x5.heap (x4.heap h23), at5 := x5.heap (x4.heap h3), ne := by show w1.heap.size ≠ w2.heap.size; omega, new4 := by show W.heap.size ≤ w1.heap.size; omega, new5 := by show W.heap.size ≤ w2.heap.size; omega, fr := Fr.of_ext ((x03.trans x4).trans x5) }
      · show W.heap.size ≤ w4.heap.size; omega
      · show w1.heap.size ≠ w4.heap.size; omega
      · show w2.heap.size ≠ w4.heap.size; omega
end Go.Proofs.Ytgjabpgkiaojhaa
