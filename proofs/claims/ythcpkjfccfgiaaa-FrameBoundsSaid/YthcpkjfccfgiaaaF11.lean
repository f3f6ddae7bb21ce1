/- The statement over frames: Bounds. -/
import Derived.Test.YthcpkjfccfgiaaaF10
import Derived.Test.YthcpkjfccfgiaaaV2
namespace Go.Proofs.Ythcpkjfccfgiaaa
open Go.Rd Go.RowKit
set_option linter.unusedVariables false
set_option linter.unusedSimpArgs false

section
variable {W : World} {A : Option Addr} {n c : Nat} {xs : List Int} {k : Lnk} {v : Vw} {w : World} {bk bv : Nat}

theorem bounds_j9 (f : Fr W w) : law7_FrameBounds.J12 (Good W) false w := by
  refine ifP_f rfl (awake_spec.mono ?_)
  rintro u w1 ⟨rfl, x1⟩
  exact ⟨_, rfl, rfl, f.ext x1⟩
theorem bounds_j8 (ok : ViewOk k xs v) (f : Fr W w) (hk : LAt w bk k) (hb : VAt w bv v) {sp : Int} (hs : sp = spaceOf k) : law7_FrameBounds.J11 (Good W) ⟨bk, 0, none⟩ ⟨bv, 0, none⟩ sp w := by
  have at9 := hb.at9
  have mp : w.cell? ((Addr.mk bk 0 none).add 2) = some (.int .i64 k.mp) := by rw [add_mk]; exact (cell_of hk).trans rfl
  have rest : (∃ t147 : Bool, w.cell? ((Addr.mk bv 0 none).add 1) = some (.bool t147) ∧ ifP t147 (∃ t150 : Int, w.cell? ((Addr.mk bk 0 none).add 2) = some (.int .i64 t150) ∧ ifP ((t150 : Int) == 0) (law7_FrameBounds.J12 (Good W) true w) (∃ t154 : Int, w.cell? ((Addr.mk bv 0 none).add 4) = some (.int .u32 t154) ∧ law7_FrameBounds.J12 (Good W) (decide ((t154 : Int) ≥ sp)) w)) (law7_FrameBounds.J12 (Good W) false w)) := by
    refine ⟨_, at9.m, ifP_of (fun hm => ⟨_, mp, ?_⟩) fun hm => bounds_j9 f⟩
    obtain ⟨h1, h2⟩ := ok.ms hm
    refine ifP_beq.2 ⟨fun h => absurd h h1, fun _ => ⟨_, at9.s, ?_⟩⟩
    rw [decide_eq_false (by omega)]
    exact bounds_j9 f
  refine ⟨_, at9.m, ifP_not.2 (ifP_of (fun hm => rest) fun hm => ?_)⟩
  obtain ⟨h1, h2, h3⟩ := ok.nm hm
  exact ⟨_, at9.b, ifP_f h1 ⟨_, at9.e, ifP_f h2 ⟨_, at9.s, ifP_bne.2 ⟨fun h => absurd h3 h, fun _ => rest⟩⟩⟩⟩
theorem bounds_j7 (ok : ViewOk k xs v) (f : Fr W w) (hk : LAt w bk k) (hb : VAt w bv v) : law7_FrameBounds.J9 (Good W) ⟨bk, 0, none⟩ ⟨bv, 0, none⟩ false w := by
  have mp : w.cell? ((Addr.mk bk 0 none).add 2) = some (.int .i64 k.mp) := by rw [add_mk]; exact (cell_of hk).trans rfl
  refine ifP_f rfl ?_
  unfold law7_FrameBounds.J10
  refine ⟨_, mp, ifP_beq.2 ⟨fun h => bounds_j8 ok f hk hb (by rw [spaceOf, if_pos h]), fun h => bounds_j8 ok f hk hb (by rw [spaceOf, if_neg h])⟩⟩
theorem bounds_j6 (ok : ViewOk k xs v) (f : Fr W w) (hk : LAt w bk k) (hb : VAt w bv v) {net : Int} (hn : net = netNo v) : law7_FrameBounds.J8 (Good W) ⟨bk, 0, none⟩ ⟨bv, 0, none⟩ net w := by
  have at9 := hb.at9
  have rest : (∃ t118 : Int, w.cell? ((Addr.mk bv 0 none).add 7) = some (.int .i64 t118) ∧ ifP (decide ((t118 : Int) < 0)) (law7_FrameBounds.J9 (Good W) ⟨bk, 0, none⟩ ⟨bv, 0, none⟩ true w) (∃ t123 : Int, w.cell? ((Addr.mk bv 0 none).add 7) = some (.int .i64 t123) ∧ law7_FrameBounds.J9 (Good W) ⟨bk, 0, none⟩ ⟨bv, 0, none⟩ (decide ((t123 : Int) > 255)) w)) := by
    refine ⟨_, at9.x, ifP_decide.2 ⟨fun h => absurd ok.x0 (by omega), fun _ => ⟨_, at9.x, ?_⟩⟩⟩
    rw [decide_eq_false (by have := ok.x1; omega)]
    exact bounds_j7 ok f hk hb
  refine ⟨_, at9.n, ifP_bne.2 ⟨fun h => absurd (ok.net.trans hn.symm) h, fun _ => ifP_beq.2 ⟨fun h0 => ?_, fun _ => rest⟩⟩⟩
  obtain ⟨h1, h2⟩ := ok.nz (by rw [← hn]; exact h0)
  exact ⟨_, at9.x, ifP_bne.2 ⟨fun h => absurd h1 h, fun _ => ⟨_, at9.l, ifP_bne.2 ⟨fun h => absurd h2 h, fun _ => rest⟩⟩⟩⟩
theorem bounds_j4 (ok : ViewOk k xs v) (f : Fr W w) (hk : LAt w bk k) (hb : VAt w bv v) {ip ip6 : Bool} (h4 : ip = true ↔ v.p = 33 ∧ (v.m = false ∨ v.b = true)) (h6 : ip6 = true ↔ v.p = 87 ∧ (v.m = false ∨ v.b = true)) :
    law7_FrameBounds.J6 (Good W) ⟨bk, 0, none⟩ ⟨bv, 0, none⟩ ip ip6 w := by
  have nn : ¬ (v.m = true ∧ v.b = false) ↔ (v.m = false ∨ v.b = true) := by cases v.m <;> cases v.b <;> simp
  have e : (if ip6 = true then (6 : Int) else if ip = true then 4 else 0) = netNo v := by
    unfold netNo
    by_cases hmb : v.m = true ∧ v.b = false
    · rw [if_pos hmb, if_neg (fun h => nn.2 (h6.1 h).2 hmb), if_neg (fun h => nn.2 (h4.1 h).2 hmb)]
    · rw [if_neg hmb]
      have hm := nn.1 hmb
      by_cases h87 : v.p = 87
      · rw [if_pos h87, if_pos (h6.2 ⟨h87, hm⟩)]
      · rw [if_neg h87, if_neg (fun h => h87 (h6.1 h).1)]
        by_cases h33 : v.p = 33
        · rw [if_pos h33, if_pos (h4.2 ⟨h33, hm⟩)]
        · rw [if_neg h33, if_neg (fun h => h33 (h4.1 h).1)]
  cases ip <;> cases ip6
  · exact ifP_f rfl (ifP_f rfl (bounds_j6 ok f hk hb e))
  · exact ifP_f rfl (ifP_t rfl (bounds_j6 ok f hk hb e))
  · exact ifP_t rfl (ifP_f rfl (bounds_j6 ok f hk hb e))
  · exact ifP_t rfl (ifP_t rfl (bounds_j6 ok f hk hb e))
theorem bounds_j3 (ok : ViewOk k xs v) (f : Fr W w) (hk : LAt w bk k) (hb : VAt w bv v) {ip : Bool} (h4 : ip = true ↔ v.p = 33 ∧ (v.m = false ∨ v.b = true)) : law7_FrameBounds.J5 (Good W) ⟨bk, 0, none⟩ ⟨bv, 0, none⟩ ip w := by
  have at9 := hb.at9
  refine ⟨_, at9.p, ifP_beq.2 ⟨fun h => ⟨_, at9.m, ifP_not.2 (ifP_of (fun hm => ⟨_, at9.b, bounds_j4 ok f hk hb h4 ?_⟩) fun hm => bounds_j4 ok f hk hb h4 ?_)⟩, fun h => bounds_j4 ok f hk hb h4 ?_⟩⟩
  · rw [hm]; simp [h]
  · rw [hm]; simp [h]
  · simp [h]
theorem bounds_j2 (ok : ViewOk k xs v) (f : Fr W w) (hk : LAt w bk k) (hb : VAt w bv v) : law7_FrameBounds.J3 (Good W) ⟨bk, 0, none⟩ ⟨bv, 0, none⟩ false w := by
  have at9 := hb.at9
  refine ifP_f rfl ?_
  unfold law7_FrameBounds.J4
  refine ⟨_, at9.p, ifP_beq.2 ⟨fun h => ⟨_, at9.m, ifP_not.2 (ifP_of (fun hm => ⟨_, at9.b, bounds_j3 ok f hk hb ?_⟩) fun hm => bounds_j3 ok f hk hb ?_)⟩, fun h => bounds_j3 ok f hk hb ?_⟩⟩
  · rw [hm]; simp [h]
  · rw [hm]; simp [h]
  · simp [h]

theorem FrameBounds_main (h : IBytes W A n xs) (hx : ∀ x ∈ xs, 0 ≤ x ∧ x ≤ 255) (hn : n ≤ 140737488351232) :
    Run Try.prog 6 #[.agg #[.bool k.ac, .bool k.pf, .int .i64 k.mp], .slice A n c] W (Good W) := by
  have hl := h.len
  refine law7_FrameBounds.ok (letA fun w1 h1 x1 s1 => ?_)
  have f1 := Fr.of_ext x1
  let S : World → Prop := fun u => LAt u W.heap.size k
  have hS : ∀ u u', S u → Go.Rd.Ext u u' → S u' := fun u u' hs x => x.heap hs
  refine ⟨S, hS _ _ h1 (Go.Rd.Ext.drew w1), letD fun w2 _ x2 => LAt.rdS (k := k) (fun u hu => hu) (look_three hS (hS _ _ h1 x2) hx (h.fr (f1.ext x2)) (by omega) (J := fun a e w' => law7_FrameBounds.J0 (Good W) A n c (newA W) a e w') ?_)⟩
  intro w3 b hb x3
  have f3 := (f1.ext x2).ext x3
  have hk3 : LAt w3 W.heap.size k := x3.heap (x2.heap h1)
  refine ifP_bne.2 ⟨fun he => ?_, fun he => ?_⟩
  · obtain ⟨e, hr⟩ := err_ne rfl he
    rw [hr] at hb
    refine hb.at9.rd ⟨_, w3, view_eql vw0, _, rfl, ifP_t rfl (awake_spec.mono ?_)⟩
    rintro u w4 ⟨rfl, x4⟩
    exact ⟨_, rfl, rfl, f3.ext x4⟩
  obtain ⟨v, hv⟩ := err_eq he
  rw [hv] at hb
  have hb : VAt w3 b v := hb
  have ok := lookX_ok hx hv
  have at9 := hb.at9
  have j2 := bounds_j2 ok f3 hk3 hb
  have tail : (∃ t63 : Int, w3.cell? ⟨b, 0, none⟩ = some (.int .u32 t63) ∧ ifP (decide ((t63 : Int) > 65535)) (law7_FrameBounds.J3 (Good W) (newA W) ⟨b, 0, none⟩ true w3) (∃ t68 : Int, w3.cell? ⟨b, 0, none⟩ = some (.int .u32 t68) ∧ law7_FrameBounds.J3 (Good W) (newA W) ⟨b, 0, none⟩ ((Int.tmod t68 2 : Int) == 0) w3)) := by
    refine ⟨_, at9.p, ifP_decide.2 ⟨fun h => absurd ok.p1 (by omega), fun _ => ⟨_, at9.p, ?_⟩⟩⟩
    rw [tmod2 ok.p0, ok.odd]
    exact j2
  have a0 := ok.a0
  have a1 := ok.a1
  have l0 := ok.l0
  have l1 := ok.l1
  unfold law7_FrameBounds.J2
  refine ⟨_, at9.a, ifP_decide.2 ⟨fun h => absurd h (by omega), fun _ => ⟨_, at9.a, ifP_decide.2 ⟨fun h => absurd h (by omega), fun _ => ⟨_, at9.l, ifP_decide.2 ⟨fun h => absurd h (by omega), fun _ => ⟨_, at9.l, ifP_decide.2 ⟨fun h => absurd h (by omega), fun _ => ⟨_, at9.l, ifP_bne.2 ⟨fun hlz => ⟨_, at9.l, _, at9.a, ?_⟩, fun _ => tail⟩⟩⟩⟩⟩⟩⟩⟩⟩⟩
  have l2 := ok.l2 hlz
  rw [show IntKind.i64.wrap (v.a + 20) = v.a + 20 from wrap_i64 (by omega) (by omega)]
  exact ifP_decide.2 ⟨fun h => absurd h (by omega), fun _ => tail⟩
end
end Go.Proofs.Ythcpkjfccfgiaaa
