/- Package vm: play. -/
import Derived.Test.YtllooifbiapeoaaD4
namespace Go.Proofs.Ytllooifbiapeoaa
open Go.Rd Go.RowKit
set_option linter.unusedVariables false
set_option linter.unusedSimpArgs false
set_option maxRecDepth 100000

/-- What is told of each place: a function value, and what it keeps. -/
structure Seen (seen : Value) (I : List Nat → (Nat → Prop) → World → Prop) : Prop where
  keep : ∀ {tr F w w'} {X : Nat → Prop}, I tr F w → Keep X w w' → (∀ k, F k → ¬ X k) → I tr F w'
  lt : ∀ {tr F w k}, I tr F w → F k → k < w.heap.size
  call : ∀ {tr F w} (a : Nat), I tr F w → a ≤ 4096 → tr.length ≤ 4096 → ∃ (g : FuncId) (fs cs : Array Value), seen = .func (.func g) fs cs ∧ okCall Try.prog g = true ∧ Run Try.prog g (fs ++ #[.int .i64 ((a : Nat) : Int)] ++ cs) w fun v w' => v = .tuple #[] ∧ ∃ F', I (tr ++ [a]) F' w' ∧ Keep F w w' ∧ ∀ k, F' k → F k ∨ w.heap.size ≤ k

theorem Taken.goalX {xs : List Ins} (T : Taken xs) {a : Nat} {i : Ins} (hi : xs[a]? = some i) (hok : i.ok) (h5 : classOf i.c = 5) (ws : List Int) : a < goalX i a ws ∧ goalX i a ws < xs.length := by
  have := T.goal hi h5
  obtain ⟨_, ⟨t0, t1⟩, ⟨f0, f1⟩, k0, k1⟩ := hok
  unfold Go.Proofs.Ytllooifbiapeoaa.goalX
  split at this
  · rename_i hc
    rw [if_pos hc]
    omega
  · rename_i hc
    rw [if_neg hc]
    split <;> omega
theorem nextX_jump {pkt : List Int} {i : Ins} {a : Nat} {ws : List Int} (h : classOf i.c = 5) : nextX pkt i a ws = .inr (goalX i a ws, ws) := by
  rw [nextX, if_neg (by rw [h]; decide), if_pos h]
  rfl
theorem nextX_ret {pkt : List Int} {i : Ins} {a : Nat} {ws : List Int} (h : classOf i.c = 6) : nextX pkt i a ws = .inl (if i.c = 22 then wd ws 0 else i.k, 0) := by
  rw [nextX, if_pos h]
theorem nextX_fault {pkt : List Int} {i : Ins} {a : Nat} {ws : List Int} (h5 : classOf i.c ≠ 5) (h6 : classOf i.c ≠ 6) (hf : (stepX pkt i ws).1 ≠ 0) : nextX pkt i a ws = .inl (0, (stepX pkt i ws).1) := by
  rw [nextX, if_neg h6, if_neg h5, if_pos hf]
theorem nextX_step {pkt : List Int} {i : Ins} {a : Nat} {ws : List Int} (h5 : classOf i.c ≠ 5) (h6 : classOf i.c ≠ 6) (hf : (stepX pkt i ws).1 = 0) : nextX pkt i a ws = .inr (a + 1, (stepX pkt i ws).2) := by
  rw [nextX, if_neg h6, if_neg h5, if_neg (by rw [hf]; decide)]
theorem nextX_gt {pkt : List Int} {i : Ins} {a : Nat} {ws : List Int} {r : Nat × List Int} (h : nextX pkt i a ws = .inr r) : a < r.1 := by
  by_cases h6 : classOf i.c = 6
  · rw [nextX_ret h6] at h; cases h
  by_cases h5 : classOf i.c = 5
  · rw [nextX_jump h5] at h
    obtain rfl := Sum.inr.inj h
    show a < Go.Proofs.Ytllooifbiapeoaa.goalX i a ws
    unfold Go.Proofs.Ytllooifbiapeoaa.goalX
    split
    · omega
    · split <;> omega
  by_cases hf : (stepX pkt i ws).1 = 0
  · rw [nextX_step h5 h6 hf] at h
    obtain rfl := Sum.inr.inj h
    exact Nat.lt_succ_self a
  · rw [nextX_fault h5 h6 hf] at h; cases h
/-- The fuel does not tell, if there is enough of it. -/
theorem runX_fuel {xs : List Ins} {pkt : List Int} : ∀ (f f' p : Nat) (ws : List Int), xs.length - p ≤ f → xs.length - p ≤ f' → runX xs pkt f p ws = runX xs pkt f' p ws := by
  have none_ : ∀ (f p : Nat) (ws : List Int), xs.length ≤ p → runX xs pkt f p ws = ((0, 0), []) := by
    intro f p ws h
    cases f with
    | zero => rfl
    | succ f => rw [runX, List.getElem?_eq_none h]
  intro f
  induction f with
  | zero => intro f' p ws h1 h2; rw [none_ 0 p ws (by omega), none_ f' p ws (by omega)]
  | succ f ih =>
    intro f' p ws h1 h2
    by_cases hp : xs.length ≤ p
    · rw [none_ _ p ws hp, none_ _ p ws hp]
    obtain ⟨g, rfl⟩ : ∃ g, f' = g + 1 := ⟨f' - 1, by omega⟩
    rw [runX, runX]
    cases hi : xs[p]? with
    | none => rfl
    | some i =>
      cases hn : nextX pkt i p ws with
      | inl r => simp only [hn]
      | inr r =>
        have := nextX_gt hn
        simp only [hn]
        rw [ih g r.1 r.2 (by omega) (by omega)]
theorem runX_at {xs : List Ins} {pkt : List Int} {n a : Nat} {ws : List Int} {i : Ins} (hn : xs.length = n) (hi : xs[a]? = some i) : runX xs pkt (n - a) a ws = (match nextX pkt i a ws with | .inl r => (r, [a]) | .inr (a', ws') => ((runX xs pkt (n - a') a' ws').1, a :: (runX xs pkt (n - a') a' ws').2)) := by
  have ha := (List.getElem?_eq_some_iff.1 hi).1
  obtain ⟨m, hm⟩ : ∃ m, n - a = m + 1 := ⟨n - a - 1, by omega⟩
  rw [hm, runX, hi]
  cases hx : nextX pkt i a ws with
  | inl r => simp only [hx]
  | inr r =>
    have := nextX_gt hx
    simp only [hx]
    rw [runX_fuel m (n - r.1) r.1 r.2 (by omega) (by omega)]
section
variable {Wb : World} {b D : Nat} {A P : Option Addr} {n c pn pc : Nat} {xs : List Ins} {pkt : List Int} {seen : Value} {I : List Nat → (Nat → Prop) → World → Prop} {ty : TypeId} {R : Value → World → Prop}
theorem play_loop (hx : IInsns Wb A n xs) (hok : Inss xs) (T : Taken xs) (hp : IBytes Wb P pn pkt) (hpc : pn ≤ pc) (hpn : pn ≤ 65536) (hb : Wb.heap.size ≤ b) (hbD : b < D) (sn : Seen seen I) :
    ∀ (d a : Nat), n - a ≤ d → a < n → ∀ (w : World) (F : Nat → Prop) (ws : List Int) (tr : List Nat), Go.Rd.Ext Wb w → RAt w b ws P pn pc 0 a 0 false → w.heap[D]? = some (.cells (tabN 10) ty (0, 0)) → I tr F w → (∀ k, F k → Wb.heap.size ≤ k ∧ k ≠ b ∧ k ≠ D) → tr.length ≤ a →
      (∀ w' F' ws' a' e', Go.Rd.Ext Wb w' → RAt w' b ws' P pn pc (runX xs pkt (n - a) a ws).1.2 a' (runX xs pkt (n - a) a ws).1.1 e' → I (tr ++ (runX xs pkt (n - a) a ws).2) F' w' → (∀ k, F' k → Wb.heap.size ≤ k ∧ k ≠ b ∧ k ≠ D) → R (.tuple #[]) w') →
      vm_run_play.L0 R (some ⟨b, 0, none⟩) A n c seen (some ⟨D, 0, none⟩) w := by
  intro d
  have hl := hx.len
  have hle := T.le
  induction d with
  | zero => intro a hd ha; omega
  | succ d ih =>
    intro a hd ha w F ws tr x hr hT hI hF htr hR
    have bF : ∀ k, F k → ¬ k = b := fun k hk => (hF k hk).2.1
    obtain ⟨q, i, hq, hi, h4⟩ := IInsns.at4 (RdM.ext hx x) (i := a) ha
    have hio : i.ok := hok i (List.mem_of_getElem? hi)
    have hfa := (T.at_ a i hi).1
    obtain ⟨g, fs, cs, hseen, hcall, hrun⟩ := sn.call a hI (by omega) (by omega)
    have c20 : ∀ {u : World} {z : Int} {ws : List Int}, RAt u b ws P pn pc 0 z 0 false → u.cell? ((Addr.mk b 0 none).add 20) = some (.int .i64 z) := fun hu => by rw [add_mk]; exact hu.tail (i := 2) rfl rfl
    have e1 := runX_at (pkt := pkt) (ws := ws) hl hi
    refine vm_run_play.L0_step ⟨_, rfl, _, by rw [add_mk]; exact hr.tail (i := 4) rfl rfl, ifP_t rfl ⟨_, rfl, _, by rw [add_mk]; exact hr.tail (i := 1) rfl rfl, ifP_t rfl ⟨_, rfl, _, c20 hr, g, fs, cs, hseen, hcall, hrun.mono ?_⟩⟩⟩
    rintro v w2 ⟨rfl, F2, hI2, k2, n2⟩
    have x2 : Go.Rd.Ext Wb w2 := x.fresh k2 fun k hk => (hF k hk).1
    have hr2 := hr.keep k2 fun hb => bF b hb rfl
    have hT2 : w2.heap[D]? = some (.cells (tabN 10) ty (0, 0)) := k2.heap hT fun h => (hF D h).2.2 rfl
    have hDl := (Array.getElem?_eq_some_iff.1 hT).1
    have hbl := (Array.getElem?_eq_some_iff.1 hr.cell).1
    have z := x.size
    have hF2 : ∀ k, F2 k → Wb.heap.size ≤ k ∧ k ≠ b ∧ k ≠ D := fun k hk => by
      rcases n2 k hk with h | h
      · exact hF k h
      · exact ⟨by omega, by omega, by omega⟩
    obtain ⟨q2, i2, hq2, hi2, h42⟩ := IInsns.at4 (RdM.ext hx x2) (i := a) ha
    obtain rfl : i2 = i := by rw [hi] at hi2; exact (Option.some.inj hi2).symm
    have ht : Int.toNat ((a : Nat) : Int) = a := Int.toNat_natCast a
    refine ⟨rfl, _, rfl, _, c20 hr2, by omega, by omega, q2, hq2, ?_⟩
    rw [ht]
    refine ⟨_, h42.c, _, h42.t, _, h42.f, _, h42.k, letA fun w3 h3 x3 s3 => ?_⟩
    have hr3 := hr2.ext x3
    have hT3 := x3.heap hT2
    refine storeRow_block h3 (show 0 + 0 + 4 ≤ 4 by decide) rfl fun w4 h4' k4 _ => ?_
    have hi4 : IAt w4 w2.heap.size i2 := by
      unfold IAt
      rw [h4', setFrom_all [.int .u16 0, .int .u8 0, .int .u8 0, .int .u32 0] [.int .u16 i2.c, .int .u8 i2.t, .int .u8 i2.f, .int .u32 i2.k] rfl]
      rfl
    have x24 : Go.Rd.Ext w2 w4 := x3.fresh k4 fun j hj => by rw [hj]; exact Nat.le_refl _
    have hr4 := hr2.ext x24
    have z2 := k2.size
    have bne : b ≠ w2.heap.size := by omega
    have ew : IntKind.i64.wrap (((a : Nat) : Int) + 1) = ((a + 1 : Nat) : Int) := wrap_i64 (by omega) (by omega)
    refine ⟨_, rfl, _, c20 hr4, _, rfl, ?_⟩
    rw [ew]
    refine hr4.putT (i := 2) (show 2 < 5 by decide) (by rw [add_mk]) fun w5 hr5 k5 => ?_
    have hr5 : RAt w5 b ws P pn pc 0 ((a + 1 : Nat) : Int) 0 false := hr5
    have x5 : Go.Rd.Ext Wb w5 := (x2.trans x24).fresh k5 fun j hj => by rw [hj]; exact hb
    have hi5 : IAt w5 w2.heap.size i2 := k5.heap hi4 fun h => bne h.symm
    have hT5 : w5.heap[D]? = some (.cells (tabN 10) ty (0, 0)) := k5.heap (x24.heap hT2) (by omega)
    have hI5 : I (tr ++ [a]) F2 w5 := sn.keep (sn.keep (X := fun _ => False) hI2 (Keep.ext x24) fun _ _ h => h) k5 fun k hk h => (hF2 k hk).2.1 h
    refine ⟨_, hi5.c0, class_spec.mono ?_⟩
    rintro v w6 ⟨rfl, hw6⟩
    subst hw6
    -- the next place
    have next : ∀ (w7 : World) (a' : Nat) (ws' : List Int), a < a' → a' < n → nextX pkt i2 a ws = .inr (a', ws') → RAt w7 b ws' P pn pc 0 a' 0 false → Keep (· = b) w6 w7 → vm_run_play.L0 R (some ⟨b, 0, none⟩) A n c seen (some ⟨D, 0, none⟩) w7 := by
      intro w7 a' ws' ha1 ha2 hn hr7 k7
      have x7 : Go.Rd.Ext Wb w7 := x5.fresh k7 fun j hj => by rw [hj]; exact hb
      rw [hn] at e1
      simp only at e1
      refine ih a' (by omega) ha2 w7 F2 ws' (tr ++ [a]) x7 hr7 (k7.heap hT5 (by omega)) (sn.keep hI5 k7 fun k hk h => (hF2 k hk).2.1 h) hF2 (by rw [List.length_append]; show tr.length + 1 ≤ a'; omega) fun w' F' ws'' a'' e' xw hrw hIw hFw => ?_
      rw [e1] at hR
      refine hR w' F' ws'' a'' e' xw hrw ?_ hFw
      rw [List.append_assoc] at hIw
      exact hIw
    have stop : ∀ (w7 : World) (ws' : List Int) (r : Int × Int) (z : Int) (e : Bool), nextX pkt i2 a ws = .inl r → RAt w7 b ws' P pn pc r.2 z r.1 e → Keep (· = b) w6 w7 → R (.tuple #[]) w7 := by
      intro w7 ws' r z e hn hr7 k7
      have x7 : Go.Rd.Ext Wb w7 := x5.fresh k7 fun j hj => by rw [hj]; exact hb
      rw [hn] at e1
      simp only at e1
      rw [e1] at hR
      exact hR w7 F2 ws' z e x7 hr7 (sn.keep hI5 k7 fun k hk h => (hF2 k hk).2.1 h) hF2
    refine ⟨_, rfl, ifP_beq.2 ⟨fun h5 => ?_, fun h5 => ifP_beq.2 ⟨fun h6 => ?_, fun h6 => ?_⟩⟩⟩
    · obtain ⟨g1, g2⟩ := T.goalX hi hio h5 ws
      refine IAt.rd hi5 ((jump_spec (i := i2) hr5 (by omega) hio).mono ?_)
      rintro v w7 ⟨rfl, hr7, k7⟩
      exact ⟨rfl, next w7 _ ws g1 (by omega) (nextX_jump h5) hr7 k7⟩
    · refine ⟨fun u => RAt u b ws P pn pc 0 ((a + 1 : Nat) : Int) 0 false ∧ IAt u w2.heap.size i2, ⟨hr5.ext (Go.Rd.Ext.drew w6), hi5.ext (Go.Rd.Ext.drew w6)⟩, letD fun w8 _ x8 => ⟨_, rfl, IAt.rdS (fun u hu => hu.2) ((back_spec (i := i2) (hr5.ext x8)).mono ?_)⟩⟩
      rintro v w9 ⟨rfl, x9⟩
      refine ⟨_, rfl, _, rfl, (hr5.ext (x8.trans x9)).putT (i := 3) (show 3 < 5 by decide) (by rw [add_mk]) fun w10 hr10 k10 => ⟨_, rfl, hr10.putT (i := 4) (show 4 < 5 by decide) (by rw [add_mk]) fun w11 hr11 k11 => ?_⟩⟩
      have hr11 : RAt w11 b ws P pn pc 0 ((a + 1 : Nat) : Int) (if i2.c = 22 then wd ws 0 else i2.k) true := hr11
      unfold vm_run_play.J1
      refine vm_run_play.L0_step ⟨_, rfl, _, by rw [add_mk]; exact hr11.tail (i := 4) rfl rfl, ifP_f rfl (ifP_f rfl ?_)⟩
      exact stop w11 ws (if i2.c = 22 then wd ws 0 else i2.k, 0) _ true (nextX_ret h6) hr11 (((Keep.ext (x8.trans x9)).trans' k10).trans' k11)
    · have hn6 := T.next hi h6
      refine ⟨fun u => IAt u w2.heap.size i2 ∧ u.heap[D]? = some (.cells (tabN 10) ty (0, 0)), ⟨hi5.ext (Go.Rd.Ext.drew w6), (Go.Rd.Ext.drew w6).heap hT5⟩, letD fun w8 _ x8 => ?_⟩
      have r8 : Rn w8 b ws P pn pc ((a + 1 : Nat) : Int) 0 false pkt i2 := ⟨hr5.ext x8, hp.ext (x5.trans x8), hpc, hpn, hio⟩
      obtain ⟨g2, htab, ⟨c0, c1⟩, hok2, hrun2⟩ := straight r8 hfa h5 h6
      refine ⟨_, fun u hu => hu.1.c0, _, rfl, c0, c1, fnV g2, fun u hu => ?_, _, rfl, IAt.rdS (fun u hu => hu.1) ⟨g2, #[], #[], rfl, hok2, ?_⟩⟩
      · rw [add_mk, Nat.zero_add, Nat.mul_one]
        exact (cell_of hu.2).trans htab
      · refine Run.mono hrun2 ?_
        rintro v w9 ⟨rfl, hr9, k9⟩
        refine ⟨rfl, ?_⟩
        have k69 := (Keep.ext x8).trans' k9
        by_cases hf : (stepX pkt i2 ws).1 = 0
        · rw [hf] at hr9
          exact next w9 (a + 1) _ (Nat.lt_succ_self a) (by omega) (nextX_step h5 h6 hf) hr9 k69
        · refine vm_run_play.L0_step ⟨_, rfl, _, by rw [add_mk]; exact hr9.tail (i := 4) rfl rfl, ifP_t rfl ⟨_, rfl, _, by rw [add_mk]; exact hr9.tail (i := 1) rfl rfl, ifP_f (by simpa using hf) ?_⟩⟩
          exact stop w9 (stepX pkt i2 ws).2 (0, (stepX pkt i2 ws).1) _ false (nextX_fault h5 h6 hf) hr9 k69
end
end Go.Proofs.Ytllooifbiapeoaa
