/- The document's answers about a frame: IP, Look. -/
import Derived.Test.YthcpkjfccfgiaaaF3
namespace Go.Proofs.Ythcpkjfccfgiaaa
open Go.Rd Go.RowKit
set_option linter.unusedVariables false
set_option linter.unusedSimpArgs false

theorem frExt {W w : World} (f : Fr W w) : Go.Rd.Ext W w := (Keep.of_below f).mono fun k hk hs => by have : W.heap.size ≤ k := hs; omega

section
variable {W : World} {k : Lnk} {A : Option Addr} {n c : Nat} {xs : List Int} {bv bt : Nat} {v : Vw} {tv tt : TypeId} {w : World}

/-- The two blocks of views. -/
structure Vb (W w : World) (bv bt : Nat) (v : Vw) (tv tt : TypeId) : Prop where
  v : w.heap[bv]? = some (.cells v.row.toArray tv (0, 0))
  t : w.heap[bt]? = some (.cells vw0.row.toArray tt (0, 0))
  ne : bv ≠ bt
  nv : W.heap.size ≤ bv
  nt : W.heap.size ≤ bt
  fr : Fr W w
theorem Vb.ext {w' : World} (h : Vb W w bv bt v tv tt) (x : Go.Rd.Ext w w') : Vb W w' bv bt v tv tt := { v := x.heap h.v, t := x.heap h.t, ne := h.ne, nv := h.nv, nt := h.nt, fr := h.fr.ext x }
theorem Vb.put {w' : World} {v' : Vw} (h : Vb W w bv bt v tv tt) (hv : w'.heap[bv]? = some (.cells v'.row.toArray tv (0, 0))) (k : Keep (· = bv) w w') : Vb W w' bv bt v' tv tt :=
  { v := hv, t := k.heap h.t (fun e => h.ne e.symm), ne := h.ne, nv := h.nv, nt := h.nt, fr := h.fr.step k fun i hi => by rw [hi]; exact h.nv }
/-- The end by an error, the end by the view. -/
theorem Vb.err {R : Value → World → Prop} (h : Vb W w bv bt v tv tt) {e : Int} (hE : ∀ w', Fr W w' → R (.tuple #[vw0.v, .int .i64 e]) w') :
    storeRow ⟨bt, 0, none⟩ 0 vw0.row w fun w' => ∃ t0 : Int, w'.cell? ⟨bt, 0, none⟩ = some (.int .u32 t0) ∧ ∃ t1 : Bool, w'.cell? ((Addr.mk bt 0 none).add 1) = some (.bool t1) ∧ ∃ t2 : Bool, w'.cell? ((Addr.mk bt 0 none).add 2) = some (.bool t2) ∧ ∃ t3 : Bool, w'.cell? ((Addr.mk bt 0 none).add 3) = some (.bool t3) ∧
      ∃ t4 : Int, w'.cell? ((Addr.mk bt 0 none).add 4) = some (.int .u32 t4) ∧ ∃ t5 : Int, w'.cell? ((Addr.mk bt 0 none).add 5) = some (.int .i64 t5) ∧ ∃ t6 : Int, w'.cell? ((Addr.mk bt 0 none).add 6) = some (.int .i64 t6) ∧ ∃ t7 : Int, w'.cell? ((Addr.mk bt 0 none).add 7) = some (.int .i64 t7) ∧
      ∃ t8 : Int, w'.cell? ((Addr.mk bt 0 none).add 8) = some (.int .i64 t8) ∧ R (.tuple #[.agg #[.int .u32 t0, .bool t1, .bool t2, .bool t3, .int .u32 t4, .int .i64 t5, .int .i64 t6, .int .i64 t7, .int .i64 t8], .int .i64 e]) w' :=
  tell9 h.t rfl fun w' k => hE w' (h.fr.step k fun i hi => by rw [hi]; exact h.nt)
theorem rip_fin {R : Value → World → Prop} (h : Vb W w bv bt v tv tt) (hE : ∀ w', Fr W w' → R (.tuple #[v.v, .int .i64 0]) w') : ref7_IP.J2 R ⟨bv, 0, none⟩ ⟨bt, 0, none⟩ w :=
  (At9.block h.v).rd (tell9 h.t rfl fun w' k => hE w' (h.fr.step k fun i hi => by rw [hi]; exact h.nt))

theorem rip_spec (hb : IBytes W A n xs) (hx : ∀ x ∈ xs, 0 ≤ x ∧ x ≤ 255) (hn : n ≤ 140737488355328) (h0 : 0 ≤ v.a) (h1 : v.a ≤ 140737488355328) :
    Run Try.prog 25 #[v.v, .slice A n c] W fun u w' => u = ansX (ipX v xs) ∧ Go.Rd.Ext W w' := by
  have hl := hb.len
  refine ref7_IP.ok (letA fun w1 h1 x1 s1 => letA fun w2 h2 x2 s2 => ?_)
  have vb : Vb W w2 W.heap.size w1.heap.size v 27 27 := { v := x2.heap h1, t := h2, ne := by omega, nv := Nat.le_refl _, nt := by omega, fr := Fr.of_ext (x1.trans x2) }
  have at9 := At9.block vb.v
  refine ⟨_, at9.a, _, at9.p, ?_⟩
  rw [wrap_i64 (x := (n : Int) - v.a) (by omega) (by omega)]
  have byte : ∀ {w : World} (j : Int), Fr W w → 0 ≤ j → j < n → ∃ p, A = some p ∧ w.cell? (p.add (Int.toNat j * 1)) = some (.int .u8 (xs.getD j.toNat 0)) := fun j f h0 h1 => IBytes.get (hb.ext (frExt f)) h0 h1
  have g0 := getD_byte hx v.a.toNat
  have er : ∀ {w' : World} {v' : Vw} (e : Int), Vb W w' W.heap.size w1.heap.size v' 27 27 → ipX v xs = .error e → _ := fun e vb he => Vb.err (R := fun u w' => u = ansX (ipX v xs) ∧ Go.Rd.Ext W w') (e := e) vb fun w' f => ⟨by rw [he]; rfl, frExt f⟩
  refine ifP_beq.2 ⟨fun h6 => ?_, fun h4 => ?_⟩
  · have eX : ipX v xs = if (xs.length : Int) < v.a + 40 then .error 72 else if xs.getD v.a.toNat 0 / 16 = 6 then .ok { v with n := 6, x := xs.getD (v.a + 6).toNat 0, l := v.a + 40 } else .error 76 := by
      simp only [ipX]; rw [if_pos h6]
    refine ifP_decide.2 ⟨fun hs => er _ vb (by rw [eX, if_pos (by omega)]), fun hs => ?_⟩
    rw [if_neg (by omega)] at eX
    obtain ⟨p, hp, hc0⟩ := byte v.a vb.fr h0 (by omega)
    refine ⟨_, at9.a, h0, by omega, p, hp, _, hc0, ?_⟩
    rw [fdiv16 g0.1]
    refine ifP_bne.2 ⟨fun hv => er _ vb (by rw [eX, if_neg hv]), fun hv => ifP_t rfl ?_⟩
    rw [if_pos hv] at eX
    refine cell_put vb.v (i := 6) (by show 6 < 9; decide) (by rw [newA, add_mk]) fun w3 h3 k3 => ?_
    have vb3 : Vb W w3 W.heap.size w1.heap.size { v with n := 6 } _ _ := vb.put h3 k3
    have at3 := At9.block vb3.v
    refine ⟨_, at3.a, ?_⟩
    show 0 ≤ IntKind.i64.wrap (v.a + 6) ∧ _
    rw [wrap_i64 (x := v.a + 6) (by omega) (by omega)]
    obtain ⟨p, hp, hc6⟩ := byte (v.a + 6) vb3.fr (by omega) (by omega)
    have g6 := getD_byte hx (v.a + 6).toNat
    refine ⟨by omega, by omega, p, hp, _, hc6, ?_⟩
    rw [wrap_i64 (x := xs.getD (v.a + 6).toNat 0) (by omega) (by omega)]
    refine cell_put vb3.v (i := 7) (by show 7 < 9; decide) (by rw [newA, add_mk]) fun w4 h4 k4 => ?_
    have vb4 : Vb W w4 W.heap.size w1.heap.size { v with n := 6, x := xs.getD (v.a + 6).toNat 0 } _ _ := vb3.put h4 k4
    have at4 := At9.block vb4.v
    refine ⟨_, at4.a, ?_⟩
    rw [show IntKind.i64.wrap (({ v with n := 6, x := xs.getD (v.a + 6).toNat 0 } : Vw).a + 40) = v.a + 40 from wrap_i64 (x := v.a + 40) (by omega) (by omega)]
    refine cell_put vb4.v (i := 8) (by show 8 < 9; decide) (by rw [newA, add_mk]) fun w5 h5 k5 => ?_
    have vb5 : Vb W w5 W.heap.size w1.heap.size { v with n := 6, x := xs.getD (v.a + 6).toNat 0, l := v.a + 40 } _ _ := vb4.put h5 k5
    exact rip_fin (R := fun u w' => u = ansX (ipX v xs) ∧ Go.Rd.Ext W w') vb5 fun w' f => ⟨by rw [eX]; rfl, frExt f⟩
  · have eX : ipX v xs = if (xs.length : Int) < v.a + 20 then .error 72 else if ¬ (xs.getD v.a.toNat 0 / 16 = 4 ∧ 5 ≤ xs.getD v.a.toNat 0 % 16) then .error 76 else
      if (xs.length : Int) < v.a + 4 * (xs.getD v.a.toNat 0 % 16) then .error 72 else
      if xs.getD (v.a + 6).toNat 0 % 32 = 0 ∧ xs.getD (v.a + 7).toNat 0 = 0 then .ok { v with n := 4, x := xs.getD (v.a + 9).toNat 0, l := v.a + 4 * (xs.getD v.a.toNat 0 % 16) } else .ok { v with n := 4, x := xs.getD (v.a + 9).toNat 0 } := by
      simp only [ipX]; rw [if_neg h4]
    refine ifP_decide.2 ⟨fun hs => er _ vb (by rw [eX, if_pos (by omega)]), fun hs => ?_⟩
    rw [if_neg (by omega)] at eX
    obtain ⟨p, hp, hc0⟩ := byte v.a vb.fr h0 (by omega)
    refine ⟨_, at9.a, h0, by omega, p, hp, _, hc0, ?_⟩
    rw [fdiv16 g0.1]
    refine ifP_bne.2 ⟨fun hv => er _ vb (by rw [eX, if_pos (fun h => hv h.1)]), fun hv => ifP_f rfl ?_⟩
    refine ⟨_, at9.a, h0, by omega, p, hp, _, hc0, ?_⟩
    rw [and15b g0, wrap_i64 (x := xs.getD v.a.toNat 0 % 16) (by omega) (by omega), wrap_i64 (x := 4 * (xs.getD v.a.toNat 0 % 16)) (by omega) (by omega)]
    refine ifP_decide.2 ⟨fun h20 => er _ vb (by rw [eX, if_pos (fun h => by omega)]), fun h20 => ?_⟩
    rw [if_neg (fun h => h ⟨hv, by omega⟩)] at eX
    refine ifP_decide.2 ⟨fun hs2 => er _ vb (by rw [eX, if_pos (by omega)]), fun hs2 => ?_⟩
    rw [if_neg (by omega)] at eX
    refine cell_put vb.v (i := 6) (by show 6 < 9; decide) (by rw [newA, add_mk]) fun w3 h3 k3 => ?_
    have vb3 : Vb W w3 W.heap.size w1.heap.size { v with n := 4 } _ _ := vb.put h3 k3
    have at3 := At9.block vb3.v
    refine ⟨_, at3.a, ?_⟩
    show 0 ≤ IntKind.i64.wrap (v.a + 9) ∧ _
    rw [wrap_i64 (x := v.a + 9) (by omega) (by omega)]
    obtain ⟨p, hp, hc9⟩ := byte (v.a + 9) vb3.fr (by omega) (by omega)
    have g9 := getD_byte hx (v.a + 9).toNat
    refine ⟨by omega, by omega, p, hp, _, hc9, ?_⟩
    rw [wrap_i64 (x := xs.getD (v.a + 9).toNat 0) (by omega) (by omega)]
    refine cell_put vb3.v (i := 7) (by show 7 < 9; decide) (by rw [newA, add_mk]) fun w4 h4 k4 => ?_
    have vb4 : Vb W w4 W.heap.size w1.heap.size { v with n := 4, x := xs.getD (v.a + 9).toNat 0 } _ _ := vb3.put h4 k4
    have at4 := At9.block vb4.v
    have a4 : w4.cell? ((newA W).add 5) = some (.int .i64 v.a) := at4.a
    obtain ⟨p, hp, hc6⟩ := byte (v.a + 6) vb4.fr (by omega) (by omega)
    have g6 := getD_byte hx (v.a + 6).toNat
    refine ⟨v.a, a4, ?_⟩
    rw [wrap_i64 (x := v.a + 6) (by omega) (by omega)]
    refine ⟨by omega, by omega, p, hp, _, hc6, ?_⟩
    have fin : ∀ t : Bool, (t = true ↔ (xs.getD (v.a + 6).toNat 0 % 32 = 0 ∧ xs.getD (v.a + 7).toNat 0 = 0)) → ref7_IP.J1 (fun u w' => u = ansX (ipX v xs) ∧ Go.Rd.Ext W w') (newA W) (newA w1) (4 * (xs.getD v.a.toNat 0 % 16)) t w4 := by
      intro t ht
      refine ifP_of (fun h => ⟨v.a, a4, ?_⟩) fun h => rip_fin vb4 fun w' f => ⟨by rw [eX, if_neg (fun h2 => by rw [ht.2 h2] at h; cases h)]; rfl, frExt f⟩
      rw [wrap_i64 (x := v.a + 4 * (xs.getD v.a.toNat 0 % 16)) (by omega) (by omega)]
      refine cell_put vb4.v (i := 8) (by show 8 < 9; decide) (by rw [newA, add_mk]) fun w5 h5 k5 => ?_
      have vb5 : Vb W w5 W.heap.size w1.heap.size { v with n := 4, x := xs.getD (v.a + 9).toNat 0, l := v.a + 4 * (xs.getD v.a.toNat 0 % 16) } _ _ := vb4.put h5 k5
      exact rip_fin vb5 fun w' f => ⟨by rw [eX, if_pos (ht.1 h)]; rfl, frExt f⟩
    rw [and31b g6]
    refine ifP_beq.2 ⟨fun hz => ⟨v.a, a4, ?_⟩, fun hz => fin _ ⟨fun h => (by cases h), fun h => absurd h.1 hz⟩⟩
    rw [wrap_i64 (x := v.a + 7) (by omega) (by omega)]
    obtain ⟨p, hp, hc7⟩ := byte (v.a + 7) vb4.fr (by omega) (by omega)
    refine ⟨by omega, by omega, p, hp, _, hc7, fin _ ?_⟩
    rw [beq_iff_eq]
    exact ⟨fun h => ⟨hz, h⟩, fun h => h.2⟩

/-! ## Errors are no zeros; places lie within -/

theorem plainX_ne {e : Int} (h : plainX k xs = .error e) : e ≠ 0 := by
  unfold plainX at h
  repeat' split at h
  all_goals first | (obtain rfl := Except.error.inj h; decide) | cases h
theorem protoX_ne {a e : Int} (h : protoX k xs a = .error e) : e ≠ 0 := by
  unfold protoX at h
  repeat' split at h
  all_goals first | (obtain rfl := Except.error.inj h; decide) | cases h
theorem headX_ne {a e : Int} (h : headX k xs a = .error e) : e ≠ 0 := by
  unfold headX at h
  split at h
  · obtain rfl := Except.error.inj h; decide
  · simp only at h
    split at h
    · cases h
    · obtain rfl := Except.error.inj h; decide
theorem pieceX_ne {e : Int} (h : pieceX k xs = .error e) : e ≠ 0 := by
  unfold pieceX at h
  split at h
  · rename_i hp; obtain rfl := Except.error.inj h; exact plainX_ne hp
  · split at h
    · rename_i hp; obtain rfl := Except.error.inj h; exact protoX_ne hp
    · split at h
      · cases h
      · split at h
        · rename_i hp; obtain rfl := Except.error.inj h; exact headX_ne hp
        · cases h
theorem ipX_ne {e : Int} (h : ipX v xs = .error e) : e ≠ 0 := by
  unfold ipX at h
  simp only at h
  repeat' split at h
  all_goals first | (obtain rfl := Except.error.inj h; decide) | cases h
theorem lookX_ne {e : Int} (h : lookX k xs = .error e) : e ≠ 0 := by
  unfold lookX at h
  split at h
  · obtain rfl := Except.error.inj h; decide
  · split at h
    · obtain rfl := Except.error.inj h; decide
    · split at h
      · rename_i hp; obtain rfl := Except.error.inj h; exact pieceX_ne hp
      · split at h
        · rename_i hi
          obtain rfl := Except.error.inj h
          unfold innerX at hi
          split at hi
          · split at hi
            · split at hi
              · rename_i hp; obtain rfl := Except.error.inj hi; exact protoX_ne hp
              · cases hi
            · cases hi
          · cases hi
        · unfold netX at h
          split at h
          · cases h
          · split at h
            · exact ipX_ne h
            · cases h
theorem plainX_range {a : Int} (h : plainX k xs = .ok a) : 0 ≤ a ∧ a ≤ xs.length := by
  unfold plainX at h
  split at h
  · obtain rfl := Except.ok.inj h; omega
  · split at h
    · obtain rfl := Except.ok.inj h; omega
    · split at h <;> cases h
theorem pieceX_range (hx : ∀ x ∈ xs, 0 ≤ x ∧ x ≤ 255) {v : Vw} (h : pieceX k xs = .ok v) : 0 < v.a ∧ v.a ≤ xs.length := by
  unfold pieceX at h
  split at h
  · cases h
  · rename_i a1 hpl
    have r1 := plainX_range hpl
    split at h
    · cases h
    · rename_i p a2 hpr
      have r2 := protocol_range hx r1.1 hpr
      simp only at r2
      split at h
      · obtain rfl := Except.ok.inj h; simp only; omega
      · split at h
        · cases h
        · rename_i b e q a3 hh
          have r3 := head_range hh
          simp only at r3
          obtain rfl := Except.ok.inj h; simp only; omega

/-! ## Look -/

theorem rlook_j2 {R : Value → World → Prop} (hb : IBytes W A n xs) (hx : ∀ x ∈ xs, 0 ≤ x ∧ x ≤ 255) (hn : n ≤ 140737488355328) (vb : Vb W w bv bt v tv tt) (h0 : 0 ≤ v.a) (h1 : v.a ≤ 140737488355328) {t : Bool} (ht : t = true ↔ (v.p = 33 ∨ v.p = 87))
    (hR : ∀ w', Fr W w' → R (ansX (if v.p = 33 ∨ v.p = 87 then ipX v xs else .ok v)) w') : ref7_Look.J2 R A n c ⟨bt, 0, none⟩ ⟨bv, 0, none⟩ t w := by
  refine ifP_of (fun h => (At9.block vb.v).rd ((rip_spec (hb.ext (frExt vb.fr)) hx hn h0 h1).mono ?_)) fun h => (At9.block vb.v).rd (tell9 vb.t rfl fun w' k => ?_)
  · rintro u w2 ⟨rfl, x2⟩
    rw [if_pos (ht.1 h)] at hR
    have vb2 := vb.ext x2
    cases hi : ipX v xs with
    | error e =>
      rw [hi] at hR
      exact ⟨_, _, _, _, _, _, _, _, _, _, rfl, tell9 vb2.t rfl (v := vw0) fun w' k => hR w' (vb2.fr.step k fun i hi => by rw [hi]; exact vb.nt)⟩
    | ok v2 =>
      rw [hi] at hR
      exact ⟨_, _, _, _, _, _, _, _, _, _, rfl, tell9 vb2.t rfl (v := v2) fun w' k => hR w' (vb2.fr.step k fun i hi => by rw [hi]; exact vb.nt)⟩
  · rw [if_neg (fun h2 => by rw [ht.2 h2] at h; cases h)] at hR
    exact hR w' (vb.fr.step k fun i hi => by rw [hi]; exact vb.nt)

theorem rlook_j1 {R : Value → World → Prop} (hb : IBytes W A n xs) (hx : ∀ x ∈ xs, 0 ≤ x ∧ x ≤ 255) (hn : n ≤ 140737488355328) (vb : Vb W w bv bt v tv tt) (h0 : 0 ≤ v.a) (h1 : v.a ≤ 140737488355328)
    (hR : ∀ w', Fr W w' → R (ansX (if v.p = 33 ∨ v.p = 87 then ipX v xs else .ok v)) w') : ref7_Look.J1 R A n c ⟨bt, 0, none⟩ ⟨bv, 0, none⟩ w := by
  have at9 := At9.block vb.v
  refine ⟨_, at9.p, ifP_beq.2 ⟨fun h => rlook_j2 hb hx hn vb h0 h1 ⟨fun _ => .inl h, fun _ => rfl⟩ hR, fun h => ⟨_, at9.p, rlook_j2 hb hx hn vb h0 h1 ?_ hR⟩⟩⟩
  rw [beq_iff_eq]
  exact ⟨fun h => .inr h, fun h2 => h2.resolve_left h⟩

theorem rlook_spec (hb : IBytes W A n xs) (hx : ∀ x ∈ xs, 0 ≤ x ∧ x ≤ 255) (hn : n ≤ 140737488355328) :
    Run Try.prog 10 #[.agg #[.bool k.ac, .bool k.pf, .int .i64 k.mp], .slice A n c] W fun u w' => u = ansX (lookX k xs) ∧ Go.Rd.Ext W w' := by
  have hl := hb.len
  refine ref7_Look.ok (letA fun w1 h1 x1 s1 => letA fun w2 h2 x2 s2 => ?_)
  have x02 := x1.trans x2
  have link : ∀ {w3 : World}, w3.heap[W.heap.size]? = some (.cells #[.bool k.ac, .bool k.pf, .int .i64 k.mp] 23 (0, 0)) → w3.cell? (newA W) = some (.bool k.ac) ∧ w3.cell? ((newA W).add 1) = some (.bool k.pf) ∧ w3.cell? ((newA W).add 2) = some (.int .i64 k.mp) := by
    intro w3 h
    refine ⟨(cell_of h).trans rfl, ?_, ?_⟩
    · rw [newA, add_mk]; exact (cell_of h).trans rfl
    · rw [newA, add_mk]; exact (cell_of h).trans rfl
  obtain ⟨l0, l1, l2⟩ := link (x2.heap h1)
  refine ⟨_, l0, _, l1, _, l2, rcheck_spec.mono ?_⟩
  rintro v w3 ⟨rfl, x3⟩
  refine ⟨_, rfl, ifP_bne.2 ⟨fun hk => ?_, fun hk => ?_⟩⟩
  · have hk' : linkOk k = false := by
      cases h : linkOk k with
      | false => rfl
      | true => rw [h] at hk; exact absurd rfl hk
    rw [show (if linkOk k = true then (0 : Int) else 70) = 70 by rw [hk']; rfl]
    refine tell9 (x3.heap h2) rfl (v := vw0) fun w4 k4 => ⟨?_, (x02.trans x3).fresh k4 fun i hi => by rw [hi]; omega⟩
    rw [lookX, if_pos hk']; rfl
  have hk' : linkOk k = true := by
    cases h : linkOk k with
    | true => rfl
    | false => rw [h] at hk; exact absurd hk (by decide)
  have lX : lookX k xs = match pieceR k xs with
      | .error e => .error e
      | .ok v => match innerX k xs v with
        | .error e => .error e
        | .ok v => netX xs v := by
    rw [lookX, if_neg (by rw [hk']; decide), pieceR]
    by_cases h : 65535 < xs.length
    · rw [if_pos h, if_pos h]
    · rw [if_neg h, if_neg h]; rfl
  obtain ⟨l0, l1, l2⟩ := link (x3.heap (x2.heap h1))
  refine ⟨_, l0, _, l1, _, l2, (rpiece_spec (k := k) (hb.ext (x02.trans x3)) hx hn).mono ?_⟩
  rintro v w4 ⟨rfl, x4⟩
  have hp0 : ∀ e, pieceR k xs = .error e → e ≠ 0 := by
    intro e h
    unfold pieceR at h
    split at h
    · obtain rfl := Except.error.inj h; decide
    · exact pieceX_ne h
  have x04 := (x02.trans x3).trans x4
  have s4 := (x3.trans x4).size
  have mk : ∀ {w5 w6 : World} {v : Vw}, Go.Rd.Ext w4 w5 → w5.heap.size = w4.heap.size + 1 → w6.heap[w4.heap.size]? = some (.cells v.row.toArray 27 (0, 0)) → Keep (· = w4.heap.size) w5 w6 → Vb W w6 w4.heap.size w1.heap.size v 27 27 := by
    intro w5 w6 v x5 s5 h6 k6
    exact { v := h6, t := k6.heap (x5.heap (x4.heap (x3.heap h2))) (by omega), ne := by omega, nv := by omega, nt := by omega, fr := (Fr.of_ext (x04.trans x5)).step k6 fun i hi => by rw [hi]; omega }
  cases hp : pieceR k xs with
  | error e =>
    have he := hp0 e hp
    refine ⟨_, _, _, _, _, _, _, _, _, _, rfl, letA fun w5 h5 x5 s5 => st9 h5 rfl (v := vw0) fun w6 h6 k6 => ifP_bne.2 ⟨fun _ => ?_, fun h => absurd h he⟩⟩
    have vb := mk x5 s5 h6 k6
    refine ifP_t rfl ((At9.block vb.v).rd (tell9 vb.t rfl fun w' k => ⟨?_, frExt (vb.fr.step k fun i hi => by rw [hi]; exact vb.nt)⟩))
    rw [lX, hp]; rfl
  | ok v =>
    rw [hp] at lX
    simp only [] at lX
    have hv : 0 < v.a ∧ v.a ≤ xs.length := by
      unfold pieceR at hp
      split at hp
      · cases hp
      · exact pieceX_range hx hp
    refine ⟨_, _, _, _, _, _, _, _, _, _, rfl, letA fun w5 h5 x5 s5 => st9 h5 rfl (v := v) fun w6 h6 k6 => ifP_bne.2 ⟨fun h => absurd rfl h, fun _ => ?_⟩⟩
    have vb := mk x5 s5 h6 k6
    have at9 := At9.block vb.v
    have hlink : w6.heap[W.heap.size]? = some (.cells #[.bool k.ac, .bool k.pf, .int .i64 k.mp] 23 (0, 0)) := k6.heap (x5.heap (x4.heap (x3.heap (x2.heap h1)))) (by omega)
    have go : ∀ (t : Bool), (t = true ↔ v.m = true ∧ v.b = false) → ref7_Look.J0 (fun u w' => u = ansX (lookX k xs) ∧ Go.Rd.Ext W w') A n c (newA W) (newA w1) (newA w4) 0 t w6 := by
      intro t ht
      refine ifP_of (fun h => at9.rd (tell9 vb.t rfl fun w' k => ⟨?_, frExt (vb.fr.step k fun i hi => by rw [hi]; exact vb.nt)⟩)) fun h => ?_
      · obtain ⟨hm, hbf⟩ := ht.1 h
        rw [lX, innerX, if_pos hm, if_neg (by rw [hbf]; decide)]
        simp only [netX]
        rw [if_pos ⟨hm, hbf⟩]; rfl
      · have hnb : ¬ (v.m = true ∧ v.b = false) := fun h2 => by rw [ht.2 h2] at h; cases h
        refine ⟨_, at9.m, ifP_of (fun hm => ?_) fun hm => ?_⟩
        · have hbt : v.b = true := by
            cases hbb : v.b with
            | true => rfl
            | false => exact absurd ⟨hm, hbb⟩ hnb
          rw [innerX, if_pos hm, if_pos hbt] at lX
          obtain ⟨l0, l1, l2⟩ := link hlink
          refine ⟨_, l0, _, l1, _, l2, _, at9.a, (rproto_spec (k := k) (hb.ext (frExt vb.fr)) hx (by omega) (by omega)).mono ?_⟩
          rintro u w7 ⟨rfl, x7⟩
          have vb7 := vb.ext x7
          cases hpr : protoX k xs v.a with
          | error e =>
            rw [hpr] at lX
            simp only [] at lX
            refine ⟨_, _, _, rfl, cell_put vb7.v (i := 0) (by show 0 < 9; decide) rfl fun w8 h8 k8 => ?_⟩
            have vb8 : Vb W w8 w4.heap.size w1.heap.size { v with p := 0 } _ _ := vb7.put h8 k8
            refine cell_put vb8.v (i := 5) (by show 5 < 9; decide) (by rw [newA, add_mk]) fun w9 h9 k9 => ?_
            have vb9 : Vb W w9 w4.heap.size w1.heap.size { v with p := 0, a := 0 } _ _ := vb8.put h9 k9
            exact ifP_bne.2 ⟨fun _ => vb9.err (R := fun u w' => u = ansX (lookX k xs) ∧ Go.Rd.Ext W w') fun w' f => ⟨by rw [lX]; rfl, frExt f⟩, fun h => absurd h (protoX_ne hpr)⟩
          | ok s =>
            obtain ⟨p, a2⟩ := s
            have rg := protocol_range hx (by omega) hpr
            simp only at rg
            rw [hpr] at lX
            simp only [] at lX
            refine ⟨_, _, _, rfl, cell_put vb7.v (i := 0) (by show 0 < 9; decide) rfl fun w8 h8 k8 => ?_⟩
            have vb8 : Vb W w8 w4.heap.size w1.heap.size { v with p := p } _ _ := vb7.put h8 k8
            refine cell_put vb8.v (i := 5) (by show 5 < 9; decide) (by rw [newA, add_mk]) fun w9 h9 k9 => ?_
            have vb9 : Vb W w9 w4.heap.size w1.heap.size { v with p := p, a := a2 } _ _ := vb8.put h9 k9
            refine ifP_bne.2 ⟨fun h => absurd rfl h, fun _ => rlook_j1 hb hx hn vb9 (by show 0 ≤ a2; omega) (by show a2 ≤ _; omega) fun w' f => ⟨?_, frExt f⟩⟩
            have e : lookX k xs = if p = 33 ∨ p = 87 then ipX { v with p := p, a := a2 } xs else .ok { v with p := p, a := a2 } := by
              rw [lX, netX, if_neg (fun h => by have := h.2; rw [show ({ v with p := p, a := a2 } : Vw).b = v.b from rfl, hbt] at this; cases this)]
            rw [e]
        · refine rlook_j1 hb hx hn vb (by omega) (by omega) fun w' f => ⟨?_, frExt f⟩
          have e : lookX k xs = if v.p = 33 ∨ v.p = 87 then ipX v xs else .ok v := by
            rw [lX, innerX, if_neg (by rw [hm]; decide)]
            simp only [netX]
            rw [if_neg (fun h => by rw [hm] at h; cases h.1)]
          rw [e]
    refine ⟨_, at9.m, ifP_of (fun hm => ⟨_, at9.b, go _ ?_⟩) fun hm => go _ ?_⟩
    · rw [hm]; cases v.b <;> simp
    · rw [hm]; simp
end
end Go.Proofs.Ythcpkjfccfgiaaa
