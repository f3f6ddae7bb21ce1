/- The statements that a run ends. -/
import Derived.Test.YtllooifbiapeoaaD11
namespace Go.Proofs.Ytllooifbiapeoaa
open Go.Rd Go.RowKit
set_option linter.unusedVariables false
set_option linter.unusedSimpArgs false
set_option maxRecDepth 100000

theorem nats_at {w : World} {A : Option Addr} {n : Nat} {l : List Nat} (h : IInts w A n (nats l)) {i p : Nat} (hp : l[i]? = some p) : ∃ a, A = some a ∧ w.cell? (a.add (i * 1)) = some (.int .i64 (p : Int)) := by
  have := h.2 i (p : Int) (by simp [nats, hp])
  exact this
theorem bools_at {w : World} {A : Option Addr} {n : Nat} {l : List Bool} (h : IBools w A n l) {i : Nat} {p : Bool} (hp : l[i]? = some p) : ∃ a, A = some a ∧ w.cell? (a.add (i * 1)) = some (.bool p) := h.2 i p hp
section
variable {W : World} {A O Y : Option Addr} {n c oc tn yc V : Nat} {xs : List Ins} {r : (Int × Int) × List Nat} {R : Value → World → Prop}
theorem ends_loop (hx : IInsns W A n xs) (T : Taken xs) (hn : n ≤ 4096) (F : RunFrom xs 0 r) (ho : IBools W O n (reachV xs)) (hy : IInts W Y tn (nats r.2)) (hv : VAt W V (r.1.1, r.1.2, (r.2.length : Int))) (htn : tn ≤ 4096) (hR : ∀ w, Go.Rd.Ext W w → R (.bool true) w) :
    ∀ (d i : Nat), tn - i = d → i ≤ tn → ∀ w, Go.Rd.Ext W w → law5_ends.L0 R A n c O n oc ⟨V, 0, none⟩ Y tn yc i w := by
  intro d
  have hl := hx.len
  have tl : r.2.length = tn := by have := hy.len; rwa [List.length_map] at this
  induction d with
  | zero =>
    intro i hd hi w x
    obtain rfl : i = tn := by omega
    obtain ⟨p, ins, hp, hins, hend⟩ := F.last
    rw [tl] at hp
    have hpos : 0 < i := by
      have := (List.getElem?_eq_some_iff.1 hp).1
      omega
    have hpl := (List.getElem?_eq_some_iff.1 hins).1
    obtain ⟨a, ha, hc⟩ := nats_at (Rd.ext hy x) hp
    obtain ⟨q, y, hq, hy4, h4⟩ := IInsns.at4 (RdM.ext hx x) (i := p) (by omega)
    obtain rfl : y = ins := by rw [hins] at hy4; exact (Option.some.inj hy4).symm
    have e1 : IntKind.i64.wrap ((i : Int) - 1) = ((i - 1 : Nat) : Int) := by rw [wrap_i64 (by omega) (by omega)]; omega
    refine law5_ends.L0_step (ifP_no (by omega) ?_)
    rw [e1]
    refine ⟨by omega, by omega, a, ha, (p : Int), by rw [Int.toNat_natCast]; exact hc, by omega, by omega, q, hq, ?_⟩
    rw [Int.toNat_natCast]
    refine ⟨_, h4.c, _, h4.t, _, h4.f, _, h4.k, letA fun w3 h3 x3 s3 => ?_⟩
    refine storeRow_block h3 (show 0 + 0 + 4 ≤ 4 by decide) rfl fun w4 h4' k4 s4 => ?_
    have hi4 : IAt w4 w.heap.size y := by
      unfold IAt
      rw [h4', setFrom_all [.int .u16 0, .int .u8 0, .int .u8 0, .int .u32 0] [.int .u16 y.c, .int .u8 y.t, .int .u8 y.f, .int .u32 y.k] rfl]
      rfl
    have x4 : Go.Rd.Ext w w4 := x3.fresh k4 fun j hj => by rw [hj]; exact Nat.le_refl _
    have v4 := hv.ext (x.trans x4)
    refine ⟨_, hi4.c0, uses_spec.mono ?_⟩
    rintro v w5 ⟨rfl, rfl⟩
    refine ⟨_, _, _, rfl, _, v4.c1, ?_⟩
    have hk : isKnown y.c = true := (fault_zero (T.at_ p y hins).1).1
    rcases hend with ⟨f0, v0, hm⟩ | ⟨f0, h6, hval⟩
    · refine ifP_ne f0 ⟨_, v4.c0, ifP_eq v0 ?_⟩
      unfold law5_ends.J3
      rw [usesB, if_pos hk]
      show R (.bool (decide (y.c ∈ mayFaultL))) w5
      rw [decide_eq_true hm]
      exact hR _ (x.trans x4)
    · refine ifP_nne f0 ⟨_, hi4.c0, rReturn_spec.mono ?_⟩
      rintro v w6 ⟨rfl, hw6⟩
      subst hw6
      refine ⟨_, rfl, ifP_t (decide_eq_true h6) ⟨_, hi4.c0, ifP_beq.2 ⟨fun h22 => hR _ (x.trans x4), fun h22 => ⟨_, v4.c0, _, hi4.c3, ?_⟩⟩⟩⟩
      unfold law5_ends.J4
      have : r.1.1 = y.k := hval.resolve_left h22
      rw [show ((r.1.1, r.1.2, (r.2.length : Int)).1 == y.k) = true by simpa using this]
      exact hR _ (x.trans x4)
  | succ d ih =>
    intro i hd hi w x
    have hlt : i < tn := by omega
    obtain ⟨p, hp⟩ : ∃ p, r.2[i]? = some p := ⟨_, List.getElem?_eq_getElem (by omega)⟩
    obtain ⟨hpl, hpr⟩ := F.all p (List.mem_of_getElem? hp)
    refine law5_ends.L0_step (ifP_yes (by omega) (letD fun w1 h1 x1 => ?_))
    have x1 := x.trans x1
    obtain ⟨a, ha, hc⟩ := nats_at (Rd.ext hy x1) hp
    obtain ⟨o, hoo, hob⟩ := bools_at (Rd.ext ho x1) hpr
    have tI : Int.toNat ((i : Nat) : Int) = i := Int.toNat_natCast i
    have tP : Int.toNat ((p : Nat) : Int) = p := Int.toNat_natCast p
    have c1 : w1.cell? (a.add (Int.toNat ((i : Nat) : Int) * 1)) = some (.int .i64 (p : Int)) := by rw [tI]; exact hc
    have go : law5_ends.J2 R A n c O n oc ⟨V, 0, none⟩ Y tn yc i (!true) w1 := by
      refine ifP_f rfl ?_
      rw [wrap_i64 (by omega) (by omega)]
      exact ih (i + 1) (by omega) (by omega) w1 x1
    have last : 0 ≤ (i : Int) ∧ (i : Int) < ((tn : Nat) : Int) ∧ ∃ t127p : Addr, Y = some t127p ∧ ∃ t128 : Int, w1.cell? (t127p.add (Int.toNat i * 1)) = some (.int .i64 t128) ∧ 0 ≤ (t128 : Int) ∧ (t128 : Int) < ((n : Nat) : Int) ∧ ∃ t129p : Addr, O = some t129p ∧ ∃ t130 : Bool, w1.cell? (t129p.add (Int.toNat t128 * 1)) = some (.bool t130) ∧ law5_ends.J2 R A n c O n oc ⟨V, 0, none⟩ Y tn yc i (!t130) w1 :=
      ⟨by omega, by omega, a, ha, _, c1, by omega, by omega, o, hoo, true, by rw [tP]; exact hob, go⟩
    refine ⟨by omega, by omega, a, ha, _, c1, ifP_no (by omega) ?_⟩
    by_cases h0 : i = 0
    · exact ifP_no (by omega) last
    · obtain ⟨q, hq⟩ : ∃ q, r.2[i - 1]? = some q := ⟨_, List.getElem?_eq_getElem (by omega)⟩
      have hr := F.rise (i - 1) q p hq (by rw [Nat.sub_add_cancel (by omega)]; exact hp)
      have e1 : IntKind.i64.wrap ((i : Int) - 1) = ((i - 1 : Nat) : Int) := by rw [wrap_i64 (by omega) (by omega)]; omega
      obtain ⟨a2, ha2, hc2⟩ := nats_at (Rd.ext hy x1) hq
      refine ifP_yes (by omega) ⟨by omega, by omega, a, ha, _, c1, ?_⟩
      rw [e1]
      exact ⟨by omega, by omega, a2, ha2, (q : Int), by rw [Int.toNat_natCast]; exact hc2, ifP_no (by omega) last⟩

theorem ends_spec {P : Option Addr} {pn pc : Nat} {pkt : List Int} (hx : IInsns W A n xs) (hi : Inss xs) (hn : n * 8 ≤ 140737488351232) (hp : IBytes W P pn pkt) (hpn : pn ≤ 65536) :
    Run Try.prog 26 #[.slice A n c, .slice P pn pc] W fun v w' => v = .bool true ∧ Go.Rd.Ext W w' := by
  have hl := hx.len
  have hpl := hp.len
  have tl := traceV_le xs pkt
  refine law5_ends.ok ((copyInsns_spec hx (by omega)).mono ?_)
  rintro v w1 ⟨A1, c1, rfl, o1, l1, b1, x1⟩
  refine ⟨_, _, _, rfl, (reach_spec (o1.rdM l1) hi (by omega)).mono ?_⟩
  rintro v w2 ⟨O, oc, rfl, o2, b2, x2⟩
  have x02 := x1.trans x2
  refine ⟨_, _, _, _, rfl, (copyInsns_spec (hx.ext x02) (by omega)).mono ?_⟩
  rintro v w3 ⟨A3, c3, rfl, o3, l3, b3, x3⟩
  have x03 := x02.trans x3
  refine ⟨_, _, _, rfl, (copyBytes_spec (hp.ext x03) (by omega)).mono ?_⟩
  rintro v w4 ⟨P4, c4, rfl, o4, l4, b4, x4⟩
  have x04 := x03.trans x4
  refine ⟨_, _, _, rfl, (vrun_spec ((o3.rdM l3).ext x4) hi (by omega) (o4.rd l4) (Own.len (n := pn) (by decide) o4 (by rw [List.length_map, l4, Nat.mul_one]))).mono ?_⟩
  rintro v w5 ⟨rfl, x5⟩
  have x05 := x04.trans x5
  refine ⟨_, _, _, _, rfl, vstore (x := verdV xs pkt) fun w6 v6 x6 s6 => (copyInsns_spec (hx.ext (x05.trans x6)) (by omega)).mono ?_⟩
  have x06 := x05.trans x6
  rintro v w7 ⟨A7, c7, rfl, o7, l7, b7, x7⟩
  have x07 := x06.trans x7
  refine ⟨_, _, _, rfl, (copyBytes_spec (hp.ext x07) (by omega)).mono ?_⟩
  rintro v w8 ⟨P8, c8, rfl, o8, l8, b8, x8⟩
  have x08 := x07.trans x8
  refine ⟨_, _, _, rfl, (vtrace_spec ((o7.rdM l7).ext x8) hi (by omega) (o8.rd l8) (Own.len (n := pn) (by decide) o8 (by rw [List.length_map, l8, Nat.mul_one]))).mono ?_⟩
  rintro v w9 ⟨Y, yc, rfl, o9, x9, b9⟩
  have x09 := x08.trans x9
  have v9 := v6.ext ((x7.trans x8).trans x9)
  refine ⟨_, _, _, _, rfl, ifP_bne.2 ⟨fun hne => ?_, fun h0 => ?_⟩⟩
  · have ec : codeV xs pkt = 50 := by rw [codeV, if_pos hne]
    have ev : verdV xs pkt = (0, 0, 0) := by rw [verdV, if_neg (by rw [ec]; decide)]
    have et : traceV xs pkt = [] := by rw [traceV, if_neg (by rw [ec]; decide)]
    rw [ev] at v9
    refine ifP_eq ec (ifP_eq ec (v9.rd ⟨_, _, verd_eql, _, rfl, ifP_t (by decide) ?_⟩))
    rw [et]
    exact ⟨rfl, x09⟩
  · obtain ⟨T, _⟩ := taken_of h0
    have ec : codeV xs pkt = 0 := by rw [codeV, if_neg (not_not_intro h0), if_neg (by omega)]
    have F := runV_facts (pkt := pkt) T hi
    have hle := T.le
    have er : reachR xs = reachV xs := by unfold reachR; rw [if_pos h0]
    have et : traceV xs pkt = nats (runV xs pkt).2 := by rw [traceV, if_pos ec]
    have ev : verdV xs pkt = ((runV xs pkt).1.1, (runV xs pkt).1.2, ((runV xs pkt).2.length : Int)) := by rw [verdV, if_pos ec]
    have en : (nats (runV xs pkt).2).length = (runV xs pkt).2.length := by rw [List.length_map]
    rw [et] at tl o9 ⊢
    rw [ev] at v9
    rw [er] at o2 ⊢
    rw [reachV_length, hl]
    have hpos : 0 < (runV xs pkt).2.length := (List.getElem?_eq_some_iff.1 F.head).1
    have hmax := runX_len xs pkt xs.length 0 ws0
    have hmax : (runV xs pkt).2.length ≤ xs.length := hmax
    have y9 : IInts w9 Y (nats (runV xs pkt).2).length (nats (runV xs pkt).2) := o9.rd rfl
    obtain ⟨a, ha, hc⟩ := nats_at y9 F.head
    have o29 := o2.ext (((((((x3.trans x4).trans x5).trans x6).trans x7).trans x8).trans x9))
    refine ifP_nne ec (ifP_nne ec ⟨_, v9.c2, ifP_nne (by rw [en]) (ifP_f (by rw [en]; simp only [beq_eq_false_iff_ne]; omega) (ifP_no (by rw [en]; omega) (ifP_nne rfl ⟨by omega, by rw [en]; omega, a, ha, 0, hc, ?_⟩)))⟩)
    refine ifP_f rfl ?_
    refine ends_loop (W := w9) (hx.ext x09) T (by omega) F (o29.rd (by rw [reachV_length, hl])) y9 v9 (by omega) (fun w' x' => ⟨rfl, x09.trans x'⟩) _ 0 rfl (by omega) w9 (Go.Rd.Ext.refl w9)

theorem VmStops_main {P : Option Addr} {pn pc : Nat} {pkt : List Int} (hx : IInsns W A n xs) (hi : Inss xs) (hn : n * 8 ≤ 140737488351232) (hp : IBytes W P pn pkt) :
    Run Try.prog 9 #[.slice A n c, .slice P pn pc] W (Good W) := by
  refine law5_VmStops.ok (ifP_decide.2 ⟨fun hlt => awake_spec.mono ?_, fun hlt => (ends_spec hx hi hn hp (by omega)).mono ?_⟩)
  · rintro v w1 ⟨rfl, x1⟩
    exact ⟨_, rfl, rfl, Fr.of_ext x1⟩
  · rintro v w1 ⟨rfl, x1⟩
    refine ⟨_, rfl, ifP_t rfl (awake_spec.mono ?_)⟩
    rintro v w2 ⟨rfl, x2⟩
    exact ⟨_, rfl, rfl, Fr.of_ext (x1.trans x2)⟩
end
end Go.Proofs.Ytllooifbiapeoaa
