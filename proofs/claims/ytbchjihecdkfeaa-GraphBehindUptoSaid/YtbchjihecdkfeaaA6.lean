/- Package graph: runs. -/
import Derived.Test.YtbchjihecdkfeaaA2
import Derived.Test.YtbchjihecdkfeaaGrRun
import Derived.Test.YtbchjihecdkfeaaVP6
namespace Go.Proofs.Ytbchjihecdkfeaa
open Go.Rd Go.RowKit
set_option linter.unusedVariables false
set_option linter.unusedSimpArgs false
set_option maxRecDepth 100000
abbrev GAt (w : World) (b : Nat) (ws : List Int) (P : Option Addr) (pn pc : Nat) (f s v : Int) : Prop := RAtG w b ws P pn pc f [.int .i64 s, .int .u32 v] 80
section
variable {Wb w : World} {b D : Nat} {A P : Option Addr} {n c pn pc : Nat} {xs : List Ins} {pkt : List Int} {ty : TypeId} {R : Value → World → Prop} {ps : List BP} {p : BP}
theorem gstr_spec {s v : Int} {ws : List Int} (hx : IInsns Wb A n xs) (hok : Inss xs) (hs : xs.all straightB = true) (hp : IBytes Wb P pn pkt) (hpc : pn ≤ pc) (hpn : pn ≤ 65536) (hb : Wb.heap.size ≤ b) (hbD : b < D) (x : Go.Rd.Ext Wb w) (hr : GAt w b ws P pn pc 0 s v) (hT : w.heap[D]? = some (.cells (tabN 10) ty (0, 0))) (hs0 : 0 ≤ s) (hs1 : s + n ≤ 1000000000) :
    Run Try.prog 50 #[.pointer (some ⟨b, 0, none⟩), .slice A n c, .pointer (some ⟨D, 0, none⟩)] w fun u w' => u = .tuple #[] ∧ GAt w' b (codeX pkt xs ws).2.1 P pn pc (codeX pkt xs ws).1 (s + ((codeX pkt xs ws).2.2 : Nat)) v ∧ Keep (· = b) w w' := by
  have hl := hx.len
  refine graph_run_straight.ok ?_
  suffices H : ∀ (d k : Nat), n - k = d → k ≤ n → ∀ (w' : World) (ws' : List Int) (f s' : Int), GAt w' b ws' P pn pc f s' v → Keep (· = b) w w' → 0 ≤ s' → s' + ((n - k : Nat) : Int) ≤ 1000000000 → (f = 0 → (codeX pkt xs ws).2.1 = (codeX pkt (xs.drop k) ws').2.1 ∧ (codeX pkt xs ws).1 = (codeX pkt (xs.drop k) ws').1 ∧ s + ((codeX pkt xs ws).2.2 : Nat) = s' + ((codeX pkt (xs.drop k) ws').2.2 : Nat)) → (f ≠ 0 → (codeX pkt xs ws).2.1 = ws' ∧ (codeX pkt xs ws).1 = f ∧ s + ((codeX pkt xs ws).2.2 : Nat) = s') →
      graph_run_straight.L0 (fun u w' => u = .tuple #[] ∧ GAt w' b (codeX pkt xs ws).2.1 P pn pc (codeX pkt xs ws).1 (s + ((codeX pkt xs ws).2.2 : Nat)) v ∧ Keep (· = b) w w') (some ⟨b, 0, none⟩) (some ⟨D, 0, none⟩) A n c (n : Int) (k : Int) w' from
    H n 0 (by omega) (by omega) w ws 0 s hr (Keep.refl w) hs0 (by omega) (fun _ => ⟨rfl, rfl, rfl⟩) (fun h => absurd rfl h)
  intro d
  induction d with
  | zero =>
    intro k hd hk w' ws' f s' hr' k' hs' hs2 h0 h1
    refine graph_run_straight.L0_step (ifP_no (by omega) ⟨rfl, ?_, k'⟩)
    by_cases hf : f = 0
    · obtain ⟨e1, e2, e3⟩ := h0 hf
      rw [List.drop_eq_nil_of_le (by omega)] at e1 e2 e3
      have e2 : (codeX pkt xs ws).1 = 0 := e2
      have e3 : s + ((codeX pkt xs ws).2.2 : Nat) = s' := by rw [e3]; show s' + ((0 : Nat) : Int) = s'; omega
      rw [e1, e2, e3, ← hf]
      exact hr'
    · obtain ⟨e1, e2, e3⟩ := h1 hf
      rw [e1, e2, e3]
      exact hr'
  | succ d ih =>
    intro k hd hk w' ws' f s' hr' k' hs' hs2 h0 h1
    have xw : Go.Rd.Ext Wb w' := x.fresh k' fun j hj => by rw [hj]; exact hb
    obtain ⟨q, i, hq, hi, h4⟩ := IInsns.at4 (RdM.ext hx xw) (i := k) (by omega)
    have hio : i.ok := hok i (List.mem_of_getElem? hi)
    have hst : straightB i = true := List.all_eq_true.1 hs i (List.mem_of_getElem? hi)
    obtain ⟨h5, h6, hfa⟩ := of_decide_eq_true hst
    have ht : Int.toNat ((k : Nat) : Int) = k := Int.toNat_natCast k
    have hbl := heap_lt hr'.cell
    refine graph_run_straight.L0_step (ifP_yes (by omega) ⟨by omega, by omega, q, hq, ?_⟩)
    rw [ht]
    refine ⟨_, h4.c, _, h4.t, _, h4.f, _, h4.k, istore fun w2 h2 x2 => ⟨_, rfl, _, by rw [add_mk]; exact (hr'.ext x2).tail (i := 1) rfl rfl, ifP_bne.2 ⟨fun hf => ?_, fun hf => ?_⟩⟩⟩
    · obtain ⟨e1, e2, e3⟩ := h1 hf
      refine ⟨rfl, ?_, k'.trans' (Keep.ext x2)⟩
      rw [e1, e2, e3]
      exact hr'.ext x2
    subst hf
    obtain ⟨e1, e2, e3⟩ := h0 rfl
    have hdrop : xs.drop k = i :: xs.drop (k + 1) := by
      obtain ⟨hlt, he⟩ := List.getElem?_eq_some_iff.1 hi
      rw [List.drop_eq_getElem_cons hlt, he]
    rw [hdrop, codeX] at e1 e2 e3
    refine ⟨_, rfl, _, by rw [add_mk]; exact (hr'.ext x2).tail (i := 2) rfl rfl, _, rfl, ?_⟩
    rw [wrap_i64 (by omega) (by omega)]
    refine (hr'.ext x2).putT (i := 2) (show 2 < 4 by decide) (by rw [add_mk]) fun w3 hr3 k3 => ?_
    have hr3 : GAt w3 b ws' P pn pc 0 (s' + 1) v := hr3
    have hne : w'.heap.size ≠ b := by omega
    have hi3 : IAt w3 w'.heap.size i := k3.heap h2 hne
    have hDl := heap_lt hT
    have kw3 : Keep (· = b) w w3 := (k'.trans' (Keep.ext x2)).trans' k3
    have hT3 : w3.heap[D]? = some (.cells (tabN 10) ty (0, 0)) := kw3.heap hT (by omega)
    refine ⟨fun u => IAt u w'.heap.size i ∧ u.heap[D]? = some (.cells (tabN 10) ty (0, 0)), ⟨hi3.ext (Go.Rd.Ext.drew w3), (Go.Rd.Ext.drew w3).heap hT3⟩, letD fun w8 _ x8 => ?_⟩
    have x3 : Go.Rd.Ext Wb w3 := (xw.trans x2).fresh k3 fun j hj => by rw [hj]; exact hb
    have r8 : RnG w8 b ws' P pn pc [.int .i64 (s' + 1), .int .u32 v] 80 pkt i := ⟨hr3.ext x8, hp.ext (x3.trans x8), hpc, hpn, hio⟩
    obtain ⟨g2, htab, ⟨c0, c1⟩, hok2, hrun2⟩ := straightG r8 hfa h5 h6
    refine ⟨_, fun u hu => hu.1.c0, _, rfl, c0, c1, fnV g2, fun u hu => ?_, _, rfl, IAt.rdS (fun u hu => hu.1) ⟨g2, #[], #[], rfl, hok2, ?_⟩⟩
    · rw [add_mk, Nat.zero_add, Nat.mul_one]
      exact (cell_of hu.2).trans htab
    · refine Run.mono hrun2 ?_
      rintro u w9 ⟨rfl, hr9, k9⟩
      refine ⟨rfl, ?_⟩
      rw [wrap_i64 (by omega) (by omega)]
      refine ih (k + 1) (by omega) (by omega) w9 (stepX pkt i ws').2 (stepX pkt i ws').1 (s' + 1) hr9 (kw3.trans' ((Keep.ext x8).trans' k9)) (by omega) (by omega) (fun hf => ?_) fun hf => ?_
      · rw [if_neg (not_not_intro hf)] at e1 e2 e3
        simp only at e1 e2 e3
        exact ⟨e1, e2, by rw [e3]; omega⟩
      · rw [if_pos hf] at e1 e2 e3
        simp only at e1 e2 e3
        exact ⟨e1, e2, by rw [e3]; omega⟩
theorem gleave_spec {s v f : Int} {ws : List Int} (he : p.b.e = 1 ∨ p.b.e = 2 ∨ p.b.e = 3) (hr : GAt w b ws P pn pc f s v) (hs0 : 0 ≤ s) (hs1 : s ≤ 1000000000) :
    Run Try.prog 51 #[.pointer (some ⟨b, 0, none⟩), p.arg] w fun u w' => Keep (· = b) w w' ∧ (f ≠ 0 → u = .tuple #[.int .i64 0, .bool false] ∧ GAt w' b ws P pn pc f s v) ∧
      (f = 0 → (∃ y k, leaveX p.b ws = (.inl y, k) ∧ u = .tuple #[.int .i64 0, .bool false] ∧ GAt w' b ws P pn pc 0 (s + (k : Nat)) y) ∨ (∃ g k, leaveX p.b ws = (.inr (Int.toNat g), k) ∧ g ∈ goalsL p.b ∧ u = .tuple #[.int .i64 g, .bool true] ∧ GAt w' b ws P pn pc 0 (s + (k : Nat)) v)) := by
  refine graph_run_leave.ok (letA fun w1 h1 x1 s1 => ?_)
  have hb : BAt w1 w.heap.size p := h1
  have h8 : At8 w1 (newA w) p := hb.at8
  have hr1 := hr.ext x1
  refine ⟨_, rfl, _, by rw [add_mk]; exact hr1.tail (i := 1) rfl rfl, ifP_bne.2 ⟨fun hf => ?_, fun hf => ?_⟩⟩
  · exact ⟨Keep.ext x1, fun _ => ⟨rfl, hr1⟩, fun h => absurd h hf⟩
  subst hf
  have hbl := heap_lt hr.cell
  have hne : w.heap.size ≠ b := by omega
  refine ⟨_, h8.e, ifP_beq.2 ⟨fun e2 => ⟨_, h8.y, Keep.ext x1, fun h => absurd rfl h, fun _ => .inr ⟨p.b.yes, 0, ?_, ?_, rfl, ?_⟩⟩, fun e2 => ?_⟩⟩
  · rw [leaveX, if_pos e2]
  · simp [goalsL, e2]
  · show GAt w1 b ws P pn pc 0 (s + ((0 : Nat) : Int)) v
    rw [show s + ((0 : Nat) : Int) = s by omega]
    exact hr1
  refine ⟨_, rfl, _, by rw [add_mk]; exact hr1.tail (i := 2) rfl rfl, _, rfl, ?_⟩
  rw [wrap_i64 (by omega) (by omega)]
  refine hr1.putT (i := 2) (show 2 < 4 by decide) (by rw [add_mk]) fun w3 hr3 k3 => ?_
  have hr3 : GAt w3 b ws P pn pc 0 (s + 1) v := hr3
  have hb3 : BAt w3 w.heap.size p := k3.heap hb hne
  refine ⟨_, hb3.at8.e, ifP_beq.2 ⟨fun e1 => ?_, fun e1 => ?_⟩⟩
  · refine ⟨fun u => BAt u w.heap.size p, (Go.Rd.Ext.drew w3).heap hb3, letD fun w4 _ x4 => ⟨_, rfl, At8.lastS (fun u hu => hu.at8) ((back_spec (i := p.b.last) (hr3.ext x4)).mono ?_) rfl⟩⟩
    rintro u w5 ⟨rfl, x5⟩
    refine ⟨_, rfl, _, rfl, ((hr3.ext x4).ext x5).putT (i := 3) (show 3 < 4 by decide) (by rw [add_mk]) fun w6 hr6 k6 => ?_⟩
    refine ⟨((((Keep.ext x1).trans' k3).trans' (Keep.ext x4)).trans' (Keep.ext x5)).trans' k6, fun h => absurd rfl h, fun _ => .inl ⟨if p.b.last.c = 22 then wd ws 0 else p.b.last.k, 1, ?_, rfl, ?_⟩⟩
    · rw [leaveX, if_neg e2, if_pos e1]
    · exact hr6
  · refine ⟨fun u => BAt u w.heap.size p, (Go.Rd.Ext.drew w3).heap hb3, letD fun w4 _ x4 => ⟨_, rfl, At8.lastS (fun u hu => hu.at8) ((asks_spec (i := p.b.last) (hr3.ext x4)).mono ?_) rfl⟩⟩
    rintro u w5 ⟨rfl, x5⟩
    have hb5 := (hb3.ext x4).ext x5
    have e3 : p.b.e = 3 := by omega
    have k5 : Keep (· = b) w w5 := ((((Keep.ext x1).trans' k3).trans' (Keep.ext x4)).trans' (Keep.ext x5))
    refine ⟨_, rfl, ifP_of (fun ht => ⟨_, hb5.at8.y, k5, fun h => absurd rfl h, fun _ => .inr ⟨p.b.yes, 1, ?_, ?_, rfl, ?_⟩⟩) fun ht => ⟨_, hb5.at8.o, k5, fun h => absurd rfl h, fun _ => .inr ⟨p.b.no, 1, ?_, ?_, rfl, ?_⟩⟩⟩
    · rw [leaveX, if_neg e2, if_neg e1, if_pos ht]
    · simp [goalsL, e3]
    · exact (hr3.ext x4).ext x5
    · rw [leaveX, if_neg e2, if_neg e1, if_neg (by rw [ht]; decide)]
    · simp [goalsL, e3]
    · exact (hr3.ext x4).ext x5
theorem grun_spec (hx : IBl w A n ps) (hs : ∀ p ∈ ps, p.n ≤ 140737488351232) (hok : ∀ p ∈ ps, Inss p.b.code) (hp : IBytes w P pn pkt) (hpc : pn ≤ pc) :
    Run Try.prog 17 #[.slice A n c, .slice P pn pc] w fun v w' => v = .tuple #[vArr (gverdV (blks ps) pkt), .int .i64 (gcodeV (blks ps) pkt)] ∧ Go.Rd.Ext w w' := by
  have hl := hx.len
  have hpl := hp.len
  have hbl : (blks ps).length = n := by rw [blks, List.length_map, hl]
  refine graph_Run.ok (letA fun w1 h1 x1 s1 => (gtaken_spec (hx.ext x1) hs).mono ?_)
  rintro v w2 ⟨rfl, x2⟩
  have h2 := x2.heap h1
  have bad : ∀ e : Int, gcodeV (blks ps) pkt = e → e ≠ 0 → storeRow (newA w) 0 [.int .u32 0, .int .i64 0, .int .i64 0] w2 fun w3 => ∃ t0 : Int, w3.cell? (newA w) = some (.int .u32 t0) ∧ ∃ t1 : Int, w3.cell? ((newA w).add 1) = some (.int .i64 t1) ∧ ∃ t2 : Int, w3.cell? ((newA w).add 2) = some (.int .i64 t2) ∧ (Value.tuple #[.agg #[.int .u32 t0, .int .i64 t1, .int .i64 t2], .int .i64 e] = .tuple #[vArr (gverdV (blks ps) pkt), .int .i64 (gcodeV (blks ps) pkt)] ∧ Go.Rd.Ext w w3) := by
    intro e he hne
    refine storeRow_block h2 (show 0 + 0 + 3 ≤ 3 by decide) rfl fun w7 h7 k7 _ => ?_
    rw [setFrom_all [.int .u32 0, .int .i64 0, .int .i64 0] [.int .u32 0, .int .i64 0, .int .i64 0] rfl] at h7
    refine rd3 (x := (0, 0, 0)) h7 ⟨?_, (x1.trans x2).fresh k7 fun j hj => by rw [hj]; exact Nat.le_refl _⟩
    rw [gverdV, if_neg (by rw [he]; exact hne), he]
  by_cases hc : (gcheckV (blks ps)).2 ≠ 0
  · rw [if_pos hc]
    exact ⟨_, rfl, ifP_t rfl (bad 155 (by rw [gcodeV, if_pos hc]) (by decide))⟩
  have hc := Classical.not_not.1 hc
  rw [if_neg (not_not_intro hc)]
  refine ⟨_, rfl, ifP_f rfl (ifP_decide.2 ⟨fun hlt => bad 51 (by rw [gcodeV, if_neg (not_not_intro hc), if_pos (by omega)]) (by decide), fun hlt => letA fun w3 h3 x3 s3 => table_spec.mono ?_⟩)⟩
  rintro v w4 ⟨D, ty, rfl, hD, hT, x4⟩
  have ec : gcodeV (blks ps) pkt = 0 := by rw [gcodeV, if_neg (not_not_intro hc), if_neg (by omega)]
  obtain ⟨T, _⟩ := gtaken_of hc
  have hTl := T.le
  have hT0 := T.pos
  have hTc := T.codes
  have hr4 : GAt w4 w2.heap.size ws0 P pn pc 0 0 0 := WsAt.ext ⟨h3, ws0_ok⟩ x4
  refine ⟨_, rfl, ?_⟩
  have x04 := ((x1.trans x2).trans x3).trans x4
  have z2 := (x1.trans x2).size
  have z1 := x1.size
  have z12 := x2.size
  have hl1 := heap_lt h1
  suffices H : ∀ (d : Nat) (a : Nat) (g : Int) (on : Bool) (w' : World) (ws : List Int) (f s v : Int), n - a ≤ d → g = (a : Int) → GAt w' w2.heap.size ws P pn pc f s v → Keep (· = w2.heap.size) w4 w' → 0 ≤ s → s + restN (blks ps) a ≤ 1000000000 →
      (on = true → f = 0 ∧ v = 0 ∧ a < n ∧ (gverdV (blks ps) pkt) = ((grunX (blks ps) pkt (n - a) a ws).1, (grunX (blks ps) pkt (n - a) a ws).2.1, s + ((grunX (blks ps) pkt (n - a) a ws).2.2 : Nat))) → (on = false → gverdV (blks ps) pkt = (v, f, s)) →
      graph_Run.L0 (fun v w' => v = .tuple #[vArr (gverdV (blks ps) pkt), .int .i64 (gcodeV (blks ps) pkt)] ∧ Go.Rd.Ext w w') A n c (newA w) (newA w2) (some ⟨D, 0, none⟩) g on w' by
    refine H n 0 0 true w4 ws0 0 0 0 (by omega) rfl hr4 (Keep.refl w4) (by omega) ?_ (fun _ => ⟨rfl, rfl, by omega, ?_⟩) (fun h => by cases h)
    · have : restN (blks ps) 0 = ((blks ps).map (·.code.length)).sum + (blks ps).length := by rw [restN, List.drop_zero]; rfl
      omega
    · rw [gverdV, if_pos ec, hbl]
      simp
  have stop : ∀ (g : Int) (w' : World) (ws : List Int) (f s v : Int), GAt w' w2.heap.size ws P pn pc f s v → Keep (· = w2.heap.size) w4 w' → gverdV (blks ps) pkt = (v, f, s) → graph_Run.L0 (fun v w' => v = .tuple #[vArr (gverdV (blks ps) pkt), .int .i64 (gcodeV (blks ps) pkt)] ∧ Go.Rd.Ext w w') A n c (newA w) (newA w2) (some ⟨D, 0, none⟩) g false w' := by
    intro g w' ws f s v hr k he
    have h5 : w'.heap[w.heap.size]? = some (.cells #[.int .u32 0, .int .i64 0, .int .i64 0] 33 (0, 0)) := k.heap (x4.heap (x3.heap h2)) (by omega)
    refine graph_Run.L0_step (ifP_f rfl ⟨fun u => GAt u w2.heap.size ws P pn pc f s v, hr.ext (Go.Rd.Ext.drew w'), letD fun w6 _ x6 => ⟨_, rfl, _, fun u hu => by rw [newA, add_mk]; exact hu.tail (i := 3) rfl rfl, _, rfl, _, fun u hu => by rw [newA, add_mk]; exact hu.tail (i := 1) rfl rfl, _, rfl, _, fun u hu => by rw [newA, add_mk]; exact hu.tail (i := 2) rfl rfl, ?_⟩⟩)
    refine storeRow_block (x6.heap h5) (show 0 + 0 + 3 ≤ 3 by decide) rfl fun w7 h7 k7 _ => ?_
    rw [setFrom_all [.int .u32 0, .int .i64 0, .int .i64 0] [.int .u32 v, .int .i64 f, .int .i64 s] rfl] at h7
    refine rd3 (x := (v, f, s)) h7 ⟨?_, ?_⟩
    · rw [he, ec]
    · exact ((x04.fresh k fun j hj => by rw [hj]; omega).trans x6).fresh k7 fun j hj => by rw [hj]; exact Nat.le_refl _
  intro d
  induction d with
  | zero =>
    intro a g on w' ws f s v hd hg hr k hs0 hs1 h1 h0
    cases on with
    | true => have := (h1 rfl).2.2.1; omega
    | false => exact stop g w' ws f s v hr k (h0 rfl)
  | succ d ih =>
    intro a g on w' ws f s v hd hg hr k hs0 hs1 h1 h0
    cases on with
    | false => exact stop g w' ws f s v hr k (h0 rfl)
    | true =>
      obtain ⟨rfl, rfl, ha, hv⟩ := h1 rfl
      subst hg
      have xw : Go.Rd.Ext w w' := x04.fresh k fun j hj => by rw [hj]; omega
      obtain ⟨q, p, hq, hpp, h8⟩ := (hx.ext xw).at8 (i := a) ha
      have hpm := List.mem_of_getElem? hpp
      have hb := blks_get hpp
      obtain ⟨t1, t2, t3⟩ := T.at_ a p.b hb
      have hpnl : p.b.code.length = p.n := (hx.code p hpm).len
      have hrest := restN_at hb
      have ht : Int.toNat ((a : Nat) : Int) = a := Int.toNat_natCast a
      have hT' := k.heap hT (show ¬ D = w2.heap.size by have := heap_lt h3; omega)
      have hcl := codeX_le pkt p.b.code ws
      have hbl2 : n - a = (blks ps).length - a := by rw [hbl]
      refine graph_Run.L0_step (ifP_t rfl ⟨by omega, by omega, q, hq, ?_⟩)
      rw [ht]
      refine ⟨_, _, _, h8.s, (gstr_spec (Wb := w) (D := D) (ty := ty) (hx.code p hpm) (hok p hpm) t1 hp hpc (by omega) (by omega) (by have := heap_lt h3; omega) xw hr hT' hs0 (by omega)).mono ?_⟩
      rintro u w5 ⟨rfl, hr5, k5⟩
      have x5 : Go.Rd.Ext w w5 := xw.fresh k5 fun j hj => by rw [hj]; omega
      obtain ⟨q', p', hq', hpp', h85⟩ := (hx.ext x5).at8 (i := a) ha
      obtain rfl : p' = p := by rw [hpp] at hpp'; exact (Option.some.inj hpp').symm
      refine ⟨rfl, by omega, by omega, q', hq', ?_⟩
      refine h85.rd ((gleave_spec (endedB_kinds t2) hr5 (by omega) (by omega)).mono ?_)
      rintro u w6 ⟨k6, hf1, hf0⟩
      have k46 : Keep (· = w2.heap.size) w4 w6 := (k.trans' k5).trans' k6
      by_cases hf : (codeX pkt p'.b.code ws).1 = 0
      · rcases hf0 hf with ⟨y, m, hl1, rfl, hr6⟩ | ⟨g, m, hl1, hg, rfl, hr6⟩
        · refine ⟨_, _, rfl, stop _ _ _ _ _ _ hr6 k46 ?_⟩
          rw [hv, hbl2, grunX_end hb hf hl1]
          simp only [Prod.mk.injEq, true_and]
          omega
        · have hgn := T.goal_nat hb hg
          have hlv := T.leave hb hl1
          have hm := leaveX_le (b := p'.b) (ws := (codeX pkt p'.b.code ws).2.1)
          rw [hl1] at hm
          have hm : m ≤ 1 := hm
          have hrl := restN_le (bs := blks ps) (show a + 1 ≤ g.toNat by omega)
          refine ⟨_, _, rfl, ih g.toNat g true w6 _ 0 _ 0 (by omega) (by omega) hr6 k46 (by omega) (by omega) (fun _ => ⟨rfl, rfl, by omega, ?_⟩) (fun h => by cases h)⟩
          rw [hv, hbl2, grunX_go T hb hf hl1, show n - g.toNat = (blks ps).length - g.toNat by rw [hbl]]
          simp only [Prod.mk.injEq, true_and]
          omega
      · obtain ⟨rfl, hr6⟩ := hf1 hf
        refine ⟨_, _, rfl, stop _ _ _ _ _ _ hr6 k46 ?_⟩
        rw [hv, hbl2, grunX_fault hb hf]
end
end Go.Proofs.Ytbchjihecdkfeaa
