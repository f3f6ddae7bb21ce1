/- The statement over loads, walked. -/
import Derived.Test.YtllooifbiapeoaaD15
import Derived.Test.YtllooifbiapeoaaWJoin2
namespace Go.Proofs.Ytllooifbiapeoaa
open Go.Rd Go.RowKit
set_option linter.unusedVariables false
set_option linter.unusedSimpArgs false
set_option maxRecDepth 100000

theorem ok4 {c t f k : Int} (hc : 0 ≤ c ∧ c ≤ 65535) (ht : 0 ≤ t ∧ t ≤ 255) (hf : 0 ≤ f ∧ f ≤ 255) (hk : U k) : Ins.ok ⟨c, t, f, k⟩ := ⟨hc, ht, hf, hk⟩
section
variable {w : World} {P A B FA : Option Addr} {pn pc an ac bn bc : Nat} {pkt : List Int} {x k code far s sum : Int} {i j : Nat} {R : Value → World → Prop}
theorem vl_one (hx : U x) (hk : U k) (hc : 0 ≤ code ∧ code ≤ 65535) (hp : IBytes w P pn pkt) (hpn : pn ≤ 5000) (hf : faultOf ⟨code, 0, 0, k⟩ = 0) (h5 : classOf code ≠ 5) (h6 : classOf code ≠ 6) (hs : stepX pkt ⟨code, 0, 0, k⟩ (ws0.set 1 x) = ldA (ws0.set 1 x) (loadX pkt far s)) (hU : 0 ≤ far ∧ far ≤ 8589934592)
    (hsi : IntKind.i64.wrap (1 * 2 ^ (min (Int.toNat (i : Int)) (IntKind.bits .i64))) = s) (hfar : ∃ a, FA = some a ∧ w.cell? (a.add (j * 1)) = some (.int .u64 far)) (hj : j < 2) (hnext : ∀ w', Go.Rd.Ext w w' → law5_VmLoads.L2 R P pn pc x k A an ac B bn bc sum i FA 2 2 ((j + 1 : Nat) : Int) w') :
    law5_VmLoads.J0 R P pn pc x k A an ac B bn bc sum i FA 2 2 j code w := by
  have hpl := hp.len
  have okp : Inss [⟨1, 0, 0, x⟩, ⟨code, 0, 0, k⟩, ⟨22, 0, 0, 0⟩] := by
    intro y hy
    simp only [List.mem_cons, List.not_mem_nil, or_false] at hy
    rcases hy with rfl | rfl | rfl
    · exact ok4 (by decide) (by decide) (by decide) hx
    · exact ok4 hc (by decide) (by decide) hk
    · exact ok4 (by decide) (by decide) (by decide) ⟨by decide, by decide⟩
  obtain ⟨ec, ev⟩ := load_verd (pkt := pkt) (x := x) (k := k) (by omega) hf h5 h6 hs
  obtain ⟨fa, hfa, hcell⟩ := hfar
  have tJ : Int.toNat ((j : Nat) : Int) = j := Int.toNat_natCast j
  have go : ∀ w', Go.Rd.Ext w w' → law5_VmLoads.J3 R P pn pc x k A an ac B bn bc sum i FA 2 2 j false w' := by
    intro w' x'
    refine ifP_f rfl ?_
    rw [wrap_i64 (by omega) (by omega)]
    exact hnext w' x'
  have tail : ∀ (V : Nat) (w' : World) (want : Int) (in_ : Bool), Go.Rd.Ext w w' → VAt w' V (verdV [⟨1, 0, 0, x⟩, ⟨code, 0, 0, k⟩, ⟨22, 0, 0, 0⟩] pkt) → (match loadX pkt far s with | some v => want = v ∧ in_ = true | none => in_ = false) → law5_VmLoads.J2 R P pn pc x k A an ac B bn bc sum i FA 2 2 j ⟨V, 0, none⟩ (codeV [⟨1, 0, 0, x⟩, ⟨code, 0, 0, k⟩, ⟨22, 0, 0, 0⟩] pkt) want in_ w' := by
    intro V w' want in_ x' v' hin
    rw [ev] at v'
    cases hl : loadX pkt far s with
    | some v =>
      rw [hl] at hin v'
      obtain ⟨rfl, rfl⟩ := hin
      exact ifP_nne ec ⟨_, v'.c1, ifP_f rfl (ifP_f rfl (ifP_t rfl (v'.rd ⟨_, _, verd_neq, _, rfl, by simp only [decide_true, Bool.not_true]; exact go w' x'⟩)))⟩
    | none =>
      rw [hl] at hin v'
      subst hin
      exact ifP_nne ec ⟨_, v'.c1, ifP_f (by decide) (ifP_t rfl (v'.rd ⟨_, _, verd_neq, _, rfl, ifP_f (by decide) (ifP_f rfl (go w' x'))⟩))⟩
  unfold law5_VmLoads.J0
  refine letA fun w1 h1 x1 s1 => (copyBytes_spec (hp.ext x1) (by omega)).mono ?_
  have i1 : IInsns w1 (some (newA w)) 3 [⟨1, 0, 0, x⟩, ⟨code, 0, 0, k⟩, ⟨22, 0, 0, 0⟩] := (lit_insns (xs := [⟨1, 0, 0, x⟩, ⟨code, 0, 0, k⟩, ⟨22, 0, 0, 0⟩]) h1 rfl).rdM rfl
  rintro v w2 ⟨A2, c2, rfl, o2, l2, b2, x2⟩
  refine ⟨_, _, _, rfl, (vrun_spec (i1.ext x2) okp (by decide) (o2.rd l2) (Own.len (n := pn) (by decide) o2 (by rw [List.length_map, l2, Nat.mul_one]))).mono ?_⟩
  rintro v w3 ⟨rfl, x3⟩
  refine ⟨_, _, _, _, rfl, vstore (x := verdV [⟨1, 0, 0, x⟩, ⟨code, 0, 0, k⟩, ⟨22, 0, 0, 0⟩] pkt) fun w4 v4 x4 s4 => ?_⟩
  have x04 := ((x1.trans x2).trans x3).trans x4
  have c4 : w4.cell? (fa.add (Int.toNat ((j : Nat) : Int) * 1)) = some (.int .u64 far) := by rw [tJ]; exact x04.cell hcell
  refine ⟨by omega, by omega, fa, hfa, far, c4, ifP_decide.2 ⟨fun hlt => ?_, fun hlt => ?_⟩⟩
  · refine ⟨fun u => u.cell? (fa.add (Int.toNat ((j : Nat) : Int) * 1)) = some (.int .u64 far), (Go.Rd.Ext.drew w4).cell c4, letD fun w5 _ x5 => ⟨by omega, by omega, fa, hfa, far, fun u hu => hu, by omega, (copyBytes_spec (hp.ext (x04.trans x5)) (by omega)).mono ?_⟩⟩
    rintro v w6 ⟨A6, c6, rfl, o6, l6, b6, x6⟩
    refine ⟨_, _, _, rfl, (x5.trans x6).cell c4, ?_⟩
    rw [hsi, wrap_i64 (by omega) (by omega)]
    refine (get_spec (o6.rd l6) (Own.len (n := pn) (by decide) o6 (by rw [List.length_map, l6, Nat.mul_one])) (by omega)).mono ?_
    rintro v w7 ⟨rfl, rfl⟩
    by_cases hfit : fitsB pn far s = true
    · rw [if_pos hfit]
      refine ⟨_, _, rfl, tail _ w7 _ _ (x04.trans (x5.trans x6)) (v4.ext (x5.trans x6)) ?_⟩
      rw [loadX, hpl, if_pos hfit]
      exact ⟨rfl, rfl⟩
    · rw [if_neg hfit]
      refine ⟨_, _, rfl, tail _ w7 _ _ (x04.trans (x5.trans x6)) (v4.ext (x5.trans x6)) ?_⟩
      rw [loadX, hpl, if_neg hfit]
  · refine tail _ w4 _ _ x04 v4 ?_
    have hfit : ¬ fitsB pn far s = true := fun hfit => by
      obtain ⟨h1, h2, h3⟩ := fitsB_iff.1 hfit
      omega
    rw [loadX, hpl, if_neg hfit]
end
section
variable {W : World} {P : Option Addr} {pn pc : Nat} {pkt : List Int} {x k : Int}
/-- The last two programs. -/
theorem vl_last {w : World} (x0 : Go.Rd.Ext W w) (hp : IBytes W P pn pkt) (hpn : pn ≤ 5000) : law5_VmLoads.J4 (Good W) P pn pc false w := by
  have hpl := hp.len
  refine ifP_f rfl (letA fun w1 h1 x1 s1 => (copyBytes_spec ((hp.ext x0).ext x1) (by omega)).mono ?_)
  have i1 : IInsns w1 (some (newA w)) 2 [⟨128, 0, 0, 0⟩, ⟨22, 0, 0, 0⟩] := (lit_insns (xs := [⟨128, 0, 0, 0⟩, ⟨22, 0, 0, 0⟩]) h1 rfl).rdM rfl
  have okp : Inss [⟨128, 0, 0, 0⟩, ⟨22, 0, 0, 0⟩] := by
    intro y hy
    simp only [List.mem_cons, List.not_mem_nil, or_false] at hy
    rcases hy with rfl | rfl <;> exact ok4 (by decide) (by decide) (by decide) ⟨by decide, by decide⟩
  rintro v w2 ⟨A2, c2, rfl, o2, l2, b2, x2⟩
  refine ⟨_, _, _, rfl, (vrun_spec (i1.ext x2) okp (by decide) (o2.rd l2) (Own.len (n := pn) (by decide) o2 (by rw [List.length_map, l2, Nat.mul_one]))).mono ?_⟩
  rintro v w3 ⟨rfl, x3⟩
  refine ⟨_, _, _, _, rfl, vstore (x := verdV [⟨128, 0, 0, 0⟩, ⟨22, 0, 0, 0⟩] pkt) fun w4 v4 x4 s4 => ?_⟩
  have e : (verdV [⟨128, 0, 0, 0⟩, ⟨22, 0, 0, 0⟩] pkt).1 = IntKind.u32.wrap ((pn : Nat) : Int) := by
    rw [len_verd (by omega), wrap_u32_mod, hpl]
    show ((pn : Nat) : Int) = _
    omega
  refine ⟨_, v4.c0, ifP_eq e (awake_spec.mono ?_)⟩
  rintro v w5 ⟨rfl, x5⟩
  exact ⟨_, rfl, rfl, Fr.of_ext (((((x0.trans x1).trans x2).trans x3).trans x4).trans x5)⟩
theorem vl_mid {w : World} {A B : Option Addr} {sum : Int} (hk : U k) (x0 : Go.Rd.Ext W w) (hp : IBytes W P pn pkt) (hb : ∀ x ∈ pkt, 0 ≤ x ∧ x ≤ 255) (hpn : pn ≤ 5000) : law5_VmLoads.L0 (Good W) P pn pc x k A 3 3 B 3 3 sum ((3 : Nat) : Int) w := by
  have hpl := hp.len
  have k0 := hk.1
  have k1 := hk.2
  refine law5_VmLoads.L0_step (ifP_no (by omega) (letA fun w1 h1 x1 s1 => (copyBytes_spec ((hp.ext x0).ext x1) (by omega)).mono ?_))
  have i1 : IInsns w1 (some (newA w)) 3 [⟨177, 0, 0, k⟩, ⟨135, 0, 0, 0⟩, ⟨22, 0, 0, 0⟩] := (lit_insns (xs := [⟨177, 0, 0, k⟩, ⟨135, 0, 0, 0⟩, ⟨22, 0, 0, 0⟩]) h1 rfl).rdM rfl
  have okp : Inss [⟨177, 0, 0, k⟩, ⟨135, 0, 0, 0⟩, ⟨22, 0, 0, 0⟩] := by
    intro y hy
    simp only [List.mem_cons, List.not_mem_nil, or_false] at hy
    rcases hy with rfl | rfl | rfl
    · exact ok4 (by decide) (by decide) (by decide) hk
    · exact ok4 (by decide) (by decide) (by decide) ⟨by decide, by decide⟩
    · exact ok4 (by decide) (by decide) (by decide) ⟨by decide, by decide⟩
  rintro v w2 ⟨A2, c2, rfl, o2, l2, b2, x2⟩
  refine ⟨_, _, _, rfl, (vrun_spec (i1.ext x2) okp (by decide) (o2.rd l2) (Own.len (n := pn) (by decide) o2 (by rw [List.length_map, l2, Nat.mul_one]))).mono ?_⟩
  rintro v w3 ⟨rfl, x3⟩
  refine ⟨_, _, _, _, rfl, vstore (x := verdV [⟨177, 0, 0, k⟩, ⟨135, 0, 0, 0⟩, ⟨22, 0, 0, 0⟩] pkt) fun w4 v4 x4 s4 => ?_⟩
  have x04 := (((x0.trans x1).trans x2).trans x3).trans x4
  rw [(msh_verd (by omega)).2] at v4
  have ek : IntKind.u64.wrap k = k := wrap_u64 (by omega) (by omega)
  have en : IntKind.u64.wrap ((pn : Nat) : Int) = ((pn : Nat) : Int) := wrap_u64 (by omega) (by omega)
  refine ⟨fun u => VAt u w3.heap.size _ ∧ IBytes u P pn pkt, ⟨v4.ext (Go.Rd.Ext.drew w4), hp.ext (x04.trans (Go.Rd.Ext.drew w4))⟩, letD fun w5 _ x5 => ?_⟩
  have x05 := x04.trans x5
  rw [ek, en]
  by_cases hlt : k < pn
  · obtain ⟨hl, hb2⟩ := load_byte hb k0 (show k < pkt.length by omega)
    rw [hl] at v4 ⊢
    obtain ⟨a, ha⟩ : ∃ a, P = some a := ⟨_, (hp.get k0 hlt).choose_spec.1⟩
    refine ifP_yes hlt ?_
    refine ⟨_, fun u hu => hu.1.c0, _, fun u hu => hu.1.c1, _, fun u hu => hu.1.c2, k0, hlt, a, ha, pkt.getD k.toNat 0, fun u hu => ?_, _, _, verd_neq, _, rfl, ⟨v4.ext x5, hp.ext x05⟩, ?_⟩
    · obtain ⟨p, hp1, hp2⟩ := hu.2.get k0 hlt
      rw [ha] at hp1
      obtain rfl := Option.some.inj hp1
      exact hp2
    · rw [hb2]
      refine ifP_f (by simp) (ifP_no (by omega) (vl_last x05 hp hpn))
  · have hl : loadX pkt k 1 = none := by
      rw [loadX, if_neg]
      intro hf
      obtain ⟨h1, h2, h3⟩ := fitsB_iff.1 hf
      omega
    rw [hl] at v4 ⊢
    exact ifP_no hlt (ifP_yes (by omega) ⟨1, fun u hu => hu.1.c1, vl_last x05 hp hpn⟩)
theorem VmLoads_main (hp : IBytes W P pn pkt) (hb : ∀ x ∈ pkt, 0 ≤ x ∧ x ≤ 255) (hx : U x) (hk : U k) : Run Try.prog 6 #[.slice P pn pc, .int .u32 x, .int .u32 k] W (Good W) := by
  have k0 := hk.1
  have k1 := hk.2
  have x00 := hx.1
  have x01 := hx.2
  refine law5_VmLoads.ok (ifP_decide.2 ⟨fun hlt => awake_spec.mono ?_, fun hlt => letA fun w1 h1 x1 s1 => letA fun w2 h2 x2 s2 => ?_⟩)
  · rintro v w1 ⟨rfl, x1⟩
    exact ⟨_, rfl, rfl, Fr.of_ext x1⟩
  have hpn : pn ≤ 5000 := by omega
  have x02 := x1.trans x2
  have es : IntKind.u64.wrap (IntKind.u64.wrap x + IntKind.u64.wrap k) = x + k := by rw [wrap_u64 (x := x) (by omega) (by omega), wrap_u64 (x := k) (by omega) (by omega), wrap_u64 (by omega) (by omega)]
  have ek : IntKind.u64.wrap k = k := wrap_u64 (by omega) (by omega)
  rw [es]
  have rA : Rd (Value.int .u16) w2 (some (newA W)) 3 [48, 40, 32] := (lit_rd (f := Value.int .u16) (xs := [48, 40, 32]) h1 rfl).ext x2
  have rB : Rd (Value.int .u16) w2 (some (newA w1)) 3 [80, 72, 64] := lit_rd (f := Value.int .u16) (xs := [80, 72, 64]) h2 rfl
  -- one round
  have round : ∀ (i : Nat) (ca cb s : Int) (w : World), i < 3 → ([48, 40, 32] : List Int)[i]? = some ca → ([80, 72, 64] : List Int)[i]? = some cb → IntKind.i64.wrap (1 * 2 ^ (min (Int.toNat (i : Int)) (IntKind.bits .i64))) = s →
      (0 ≤ ca ∧ ca ≤ 65535) → (0 ≤ cb ∧ cb ≤ 65535) → faultOf ⟨ca, 0, 0, k⟩ = 0 → faultOf ⟨cb, 0, 0, k⟩ = 0 → classOf ca ≠ 5 → classOf ca ≠ 6 → classOf cb ≠ 5 → classOf cb ≠ 6 →
      stepX pkt ⟨ca, 0, 0, k⟩ (ws0.set 1 x) = ldA (ws0.set 1 x) (loadX pkt k s) → stepX pkt ⟨cb, 0, 0, k⟩ (ws0.set 1 x) = ldA (ws0.set 1 x) (loadX pkt (x + k) s) → Go.Rd.Ext w2 w →
      (∀ w', Go.Rd.Ext w2 w' → law5_VmLoads.L0 (Good W) P pn pc x k (some (newA W)) 3 3 (some (newA w1)) 3 3 (x + k) ((i + 1 : Nat) : Int) w') →
      law5_VmLoads.L0 (Good W) P pn pc x k (some (newA W)) 3 3 (some (newA w1)) 3 3 (x + k) (i : Int) w := by
    intro i ca cb s w hi3 hca hcb hsi ra rb fa fb a5 a6 b5 b6 sa sb xw hnext
    have tI : Int.toNat ((i : Nat) : Int) = i := Int.toNat_natCast i
    refine law5_VmLoads.L0_step (ifP_yes (by omega) (letA fun w3 h3 x3 s3 => ?_))
    rw [ek] at h3
    have rF : Rd (Value.int .u64) w3 (some (newA w)) 2 [k, x + k] := lit_rd (f := Value.int .u64) (xs := [k, x + k]) h3 rfl
    have c1 : ∀ {u : World}, Go.Rd.Ext w2 u → u.cell? ((newA W).add (Int.toNat ((i : Nat) : Int) * 1)) = some (.int .u16 ca) := by
      intro u xu
      obtain ⟨a, ha, hc⟩ := (rA.ext xu).2 i ca hca
      obtain rfl := Option.some.inj ha
      rw [tI]
      exact hc
    have c2 : ∀ {u : World}, Go.Rd.Ext w2 u → u.cell? ((newA w1).add (Int.toNat ((i : Nat) : Int) * 1)) = some (.int .u16 cb) := by
      intro u xu
      obtain ⟨a, ha, hc⟩ := (rB.ext xu).2 i cb hcb
      obtain rfl := Option.some.inj ha
      rw [tI]
      exact hc
    have xw3 := xw.trans x3
    refine law5_VmLoads.L2_step (ifP_yes (by decide) ⟨by omega, by omega, _, rfl, ca, c1 xw3, ifP_f (by decide) ?_⟩)
    refine vl_one (i := i) (j := 0) hx hk ra (hp.ext (x02.trans xw3)) hpn fa a5 a6 sa ⟨by omega, by omega⟩ hsi (rF.2 0 k rfl) (by decide) fun w4 x4 => ?_
    have xw4 := xw3.trans x4
    refine law5_VmLoads.L2_step (ifP_yes (by decide) ⟨by omega, by omega, _, rfl, ca, c1 xw4, ifP_t (by decide) ⟨by omega, by omega, _, rfl, cb, c2 xw4, ?_⟩⟩)
    refine vl_one (i := i) (j := 1) hx hk rb (hp.ext (x02.trans xw4)) hpn fb b5 b6 sb ⟨by omega, by omega⟩ hsi ((rF.ext x4).2 1 (x + k) rfl) (by decide) fun w5 x5 => ?_
    have xw5 := xw4.trans x5
    refine law5_VmLoads.L2_step (ifP_no (by decide) ?_)
    rw [wrap_i64 (by omega) (by omega)]
    exact hnext w5 xw5
  refine round 0 48 80 1 w2 (by decide) rfl rfl (by decide) (by decide) (by decide) rfl rfl (by decide) (by decide) (by decide) (by decide) rfl rfl (Go.Rd.Ext.refl w2) fun w3 x3 => ?_
  refine round 1 40 72 2 w3 (by decide) rfl rfl (by decide) (by decide) (by decide) rfl rfl (by decide) (by decide) (by decide) (by decide) rfl rfl x3 fun w4 x4 => ?_
  refine round 2 32 64 4 w4 (by decide) rfl rfl (by decide) (by decide) (by decide) rfl rfl (by decide) (by decide) (by decide) (by decide) rfl rfl x4 fun w5 x5 => ?_
  exact vl_mid hk (x02.trans x5) hp hb hpn
end
end Go.Proofs.Ytllooifbiapeoaa
