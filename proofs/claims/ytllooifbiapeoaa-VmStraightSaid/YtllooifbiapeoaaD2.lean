/- Package machine: what each instruction does, walked. -/
import Derived.Test.YtllooifbiapeoaaD1
namespace Go.Proofs.Ytllooifbiapeoaa
open Go.Rd Go.RowKit
set_option linter.unusedVariables false
set_option linter.unusedSimpArgs false

def tlR (P : Option Addr) (pn pc : Nat) (f a v : Int) (e : Bool) : List Value := [.slice P pn pc, .int .i64 f, .int .i64 a, .int .u32 v, .bool e]
abbrev RAt (w : World) (b : Nat) (ws : List Int) (P : Option Addr) (pn pc : Nat) (f a v : Int) (e : Bool) : Prop := WsAt w b ws (tlR P pn pc f a v e) 77
/-- An instruction was carried out. -/
def Did (w : World) (b : Nat) (r : Int × List Int) (P : Option Addr) (pn pc : Nat) (a v : Int) (e : Bool) (u : Value) (w' : World) : Prop := u = .tuple #[] ∧ RAt w' b r.2 P pn pc r.1 a v e ∧ Keep (· = b) w w'
section
variable {w w1 w2 : World} {b : Nat} {ws : List Int} {P : Option Addr} {pn pc : Nat} {a v : Int} {e : Bool} {pkt : List Int} {i : Ins}
theorem Did.of {r : Int × List Int} (x : Go.Rd.Ext w w1) {ws' : List Int} {f : Int} (hr : r = (f, ws')) (h : RAt w2 b ws' P pn pc f a v e) (k : Keep (· = b) w1 w2) : Did w b r P pn pc a v e (.tuple #[]) w2 := by
  subst hr
  exact ⟨rfl, h, (Keep.ext x).trans' k⟩
theorem mload_spec (h : RAt w b ws P pn pc 0 a v e) (hp : IBytes w P pn pkt) (hc : pn ≤ pc) (hn : pn ≤ 65536) {at_ s : Int} (h0 : 0 ≤ at_) (h1 : at_ ≤ 8589934592) :
    Run Try.prog 95 #[.pointer (some ⟨b, 0, none⟩), .int .u64 at_, .int .i64 s] w fun u w' => (match loadX pkt at_ s with | some x => u = .tuple #[.int .u32 x, .bool true] ∧ w' = w | none => u = .tuple #[.int .u32 0, .bool false] ∧ RAt w' b ws P pn pc 1 a v e ∧ Keep (· = b) w w') := by
  have hl := hp.len
  have cp : w.cell? ((Addr.mk b 0 none).add 18) = some (.slice P pn pc) := by rw [add_mk]; exact h.tail (i := 0) rfl rfl
  have no : loadX pkt at_ s = none → machine_Machine_load.J0 (fun u w' => (match loadX pkt at_ s with | some x => u = .tuple #[.int .u32 x, .bool true] ∧ w' = w | none => u = .tuple #[.int .u32 0, .bool false] ∧ RAt w' b ws P pn pc 1 a v e ∧ Keep (· = b) w w')) (some ⟨b, 0, none⟩) 0 false w := by
    intro hno
    refine ifP_t rfl ⟨_, rfl, h.putT (i := 1) (show 1 < 5 by decide) (by rw [add_mk]) fun w1 h1 k1 => ?_⟩
    unfold machine_Machine_load.J1
    rw [hno]
    exact ⟨rfl, h1, k1⟩
  refine machine_Machine_load.ok ⟨_, rfl, _, _, _, cp, ifP_decide.2 ⟨fun hlt => ⟨_, rfl, _, _, _, cp, ?_⟩, fun hlt => no ?_⟩⟩
  · rw [wrap_u64 (by omega) (by omega)] at hlt
    rw [wrap_i64 (by omega) (by omega)]
    refine (get_spec hp hc (by omega)).mono ?_
    rintro u w1 ⟨rfl, rfl⟩
    by_cases hf : fitsB pn at_ s = true
    · rw [if_pos hf]
      refine ⟨_, _, rfl, ifP_f rfl ?_⟩
      unfold machine_Machine_load.J1
      rw [loadX, hl, if_pos hf]
      exact ⟨rfl, rfl⟩
    · rw [if_neg hf]
      exact ⟨_, _, rfl, no (by rw [loadX, hl, if_neg hf])⟩
  · rw [wrap_u64 (by omega) (by omega)] at hlt
    rw [loadX, hl, if_neg]
    intro hf
    obtain ⟨h2, h3, h4⟩ := fitsB_iff.1 hf
    omega
theorem minto_spec (h : RAt w b ws P pn pc 0 a v e) (hp : IBytes w P pn pkt) (hc : pn ≤ pc) (hn : pn ≤ 65536) {at_ s : Int} (h0 : 0 ≤ at_) (h1 : at_ ≤ 8589934592) :
    Run Try.prog 94 #[.pointer (some ⟨b, 0, none⟩), .int .u64 at_, .int .i64 s] w (Did w b (ldA ws (loadX pkt at_ s)) P pn pc a v e) := by
  refine machine_Machine_into.ok ((mload_spec h hp hc hn h0 h1).mono ?_)
  intro u w1 hu
  have hU : ∀ x, loadX pkt at_ s = some x → U x := fun x hx => by
    unfold loadX at hx
    split at hx
    · obtain rfl := Option.some.inj hx; exact getV_U _ _ _
    · cases hx
  cases hx : loadX pkt at_ s with
  | some x =>
    rw [hx] at hu
    obtain ⟨rfl, rfl⟩ := hu
    exact ⟨_, _, rfl, ifP_t rfl ⟨_, rfl, h.put (i := 0) (by decide) (hU x hx) rfl fun w2 h2 k2 => ⟨rfl, h2, k2⟩⟩⟩
  | none =>
    rw [hx] at hu
    obtain ⟨rfl, h2, k2⟩ := hu
    exact ⟨_, _, rfl, ifP_f rfl ⟨rfl, h2, k2⟩⟩

abbrev ArgM (b : Nat) (i : Ins) : Array Value := #[.pointer (some ⟨b, 0, none⟩), .agg #[.int .u16 i.c, .int .u8 i.t, .int .u8 i.f, .int .u32 i.k]]
/-- What a method of the machine meets. -/
structure Rn (w : World) (b : Nat) (ws : List Int) (P : Option Addr) (pn pc : Nat) (a v : Int) (e : Bool) (pkt : List Int) (i : Ins) : Prop where
  h : RAt w b ws P pn pc 0 a v e
  hp : IBytes w P pn pkt
  hc : pn ≤ pc
  hn : pn ≤ 65536
  hi : i.ok
theorem at2' {k : Int} : ((Addr.mk b 0 none).add 2).add (Int.toNat k * 1) = ⟨b, 2 + k.toNat, none⟩ := by
  rw [add_mk, add_mk, Nat.zero_add, Nat.mul_one]
theorem into_did {s at_ : Int} (h : RAt w b ws P pn pc 0 a v e) (hp : IBytes w P pn pkt) (hc : pn ≤ pc) (hn : pn ≤ 65536) (x : Go.Rd.Ext w w1) (h0 : 0 ≤ at_) (h1 : at_ ≤ 8589934592) (hr : stepX pkt i ws = ldA ws (loadX pkt at_ s)) {R : Value → World → Prop} (hR : ∀ w2, Did w b (stepX pkt i ws) P pn pc a v e (.tuple #[]) w2 → R (.tuple #[]) w2) :
    Run Try.prog 94 #[.pointer (some ⟨b, 0, none⟩), .int .u64 at_, .int .i64 s] w1 fun v w_3 => v = (.tuple #[]) ∧ R (.tuple #[]) w_3 := by
  refine (minto_spec (h.ext x) (hp.ext x) hc hn h0 h1).mono ?_
  rintro u w2 ⟨rfl, h2, k2⟩
  refine ⟨rfl, hR w2 ?_⟩
  rw [hr]
  exact ⟨rfl, h2, (Keep.ext x).trans' k2⟩
theorem ind_sum (h : RAt w b ws P pn pc 0 a v e) (hi : i.ok) : IntKind.u64.wrap (IntKind.u64.wrap (wd ws 1) + IntKind.u64.wrap i.k) = wd ws 1 + i.k ∧ 0 ≤ wd ws 1 + i.k ∧ wd ws 1 + i.k ≤ 8589934592 := by
  have k0 : U i.k := hi.2.2.2
  have x0 := h.ok.wd 1
  unfold U at k0 x0
  rw [wrap_u64 (x := wd ws 1) (by omega) (by omega), wrap_u64 (x := i.k) (by omega) (by omega), wrap_u64 (by omega) (by omega)]
  omega
theorem ldImm_spec (r : Rn w b ws P pn pc a v e pkt i) (hcode : i.c = 0) : Run Try.prog 63 (ArgM b i) w (Did w b (stepX pkt i ws) P pn pc a v e) := by
  obtain ⟨h, hp, hc, hn, hi⟩ := r
  refine machine_Machine_ldImm.ok (letA fun w1 h1 x1 s1 => ⟨_, IAt.c3 h1, _, rfl, (h.ext x1).put (i := 0) (by decide) hi.2.2.2 rfl fun w2 h2 k2 => Did.of x1 (by unfold stepX; rw [if_pos hcode]) h2 k2⟩)
theorem ldxImm_spec (r : Rn w b ws P pn pc a v e pkt i) (hcode : i.c = 1) : Run Try.prog 72 (ArgM b i) w (Did w b (stepX pkt i ws) P pn pc a v e) := by
  obtain ⟨h, hp, hc, hn, hi⟩ := r
  refine machine_Machine_ldxImm.ok (letA fun w1 h1 x1 s1 => ⟨_, IAt.c3 h1, _, rfl, (h.ext x1).put (i := 1) (by decide) hi.2.2.2 (by rw [add_mk]) fun w2 h2 k2 => Did.of x1 (by unfold stepX; simp only [hcode]; rfl) h2 k2⟩)
theorem neg_spec (r : Rn w b ws P pn pc a v e pkt i) (hcode : i.c = 132) : Run Try.prog 78 (ArgM b i) w (Did w b (stepX pkt i ws) P pn pc a v e) := by
  obtain ⟨h, hp, hc, hn, hi⟩ := r
  refine machine_Machine_neg.ok (letA fun w1 h1 x1 s1 => ⟨_, rfl, _, (h.ext x1).get (i := 0) (by decide) rfl, _, rfl, (h.ext x1).put (i := 0) (by decide) (U.wrap _) rfl fun w2 h2 k2 => Did.of x1 (by unfold stepX; simp only [hcode]; rfl) h2 k2⟩)
theorem tax_spec (r : Rn w b ws P pn pc a v e pkt i) (hcode : i.c = 7) : Run Try.prog 79 (ArgM b i) w (Did w b (stepX pkt i ws) P pn pc a v e) := by
  obtain ⟨h, hp, hc, hn, hi⟩ := r
  refine machine_Machine_tax.ok (letA fun w1 h1 x1 s1 => ⟨_, rfl, _, (h.ext x1).get (i := 0) (by decide) rfl, _, rfl, (h.ext x1).put (i := 1) (by decide) (h.ok.wd 0) (by rw [add_mk]) fun w2 h2 k2 => Did.of x1 (by unfold stepX; simp only [hcode]; rfl) h2 k2⟩)
theorem txa_spec (r : Rn w b ws P pn pc a v e pkt i) (hcode : i.c = 135) : Run Try.prog 80 (ArgM b i) w (Did w b (stepX pkt i ws) P pn pc a v e) := by
  obtain ⟨h, hp, hc, hn, hi⟩ := r
  refine machine_Machine_txa.ok (letA fun w1 h1 x1 s1 => ⟨_, rfl, _, (h.ext x1).get (i := 1) (by decide) (by rw [add_mk]), _, rfl, (h.ext x1).put (i := 0) (by decide) (h.ok.wd 1) rfl fun w2 h2 k2 => Did.of x1 (by unfold stepX; simp only [hcode]; rfl) h2 k2⟩)
theorem ldMem_spec (r : Rn w b ws P pn pc a v e pkt i) (hcode : i.c = 96) (hk : i.k < 16) : Run Try.prog 70 (ArgM b i) w (Did w b (stepX pkt i ws) P pn pc a v e) := by
  obtain ⟨h, hp, hc, hn, hi⟩ := r
  have k0 : U i.k := hi.2.2.2
  refine machine_Machine_ldMem.ok (letA fun w1 h1 x1 s1 => ⟨fun u => RAt u b ws P pn pc 0 a v e ∧ IAt u w.heap.size i, ⟨(h.ext x1).ext (Go.Rd.Ext.drew w1), IAt.ext h1 (Go.Rd.Ext.drew w1)⟩, letD fun w2 _ x2 => ⟨_, fun u hu => hu.2.c3, _, rfl, k0.1, hk, _, fun u hu => hu.1.get (i := 2 + i.k.toNat) (by have := k0.1; omega) at2', _, rfl, ((h.ext x1).ext x2).put (i := 0) (by decide) (h.ok.wd _) rfl fun w3 h3 k3 => Did.of (x1.trans x2) (by unfold stepX; simp only [hcode]; rfl) h3 k3⟩⟩)
theorem ldxMem_spec (r : Rn w b ws P pn pc a v e pkt i) (hcode : i.c = 97) (hk : i.k < 16) : Run Try.prog 73 (ArgM b i) w (Did w b (stepX pkt i ws) P pn pc a v e) := by
  obtain ⟨h, hp, hc, hn, hi⟩ := r
  have k0 : U i.k := hi.2.2.2
  refine machine_Machine_ldxMem.ok (letA fun w1 h1 x1 s1 => ⟨fun u => RAt u b ws P pn pc 0 a v e ∧ IAt u w.heap.size i, ⟨(h.ext x1).ext (Go.Rd.Ext.drew w1), IAt.ext h1 (Go.Rd.Ext.drew w1)⟩, letD fun w2 _ x2 => ⟨_, fun u hu => hu.2.c3, _, rfl, k0.1, hk, _, fun u hu => hu.1.get (i := 2 + i.k.toNat) (by have := k0.1; omega) at2', _, rfl, ((h.ext x1).ext x2).put (i := 1) (by decide) (h.ok.wd _) (by rw [add_mk]) fun w3 h3 k3 => Did.of (x1.trans x2) (by unfold stepX; simp only [hcode]; rfl) h3 k3⟩⟩)
theorem st_spec (r : Rn w b ws P pn pc a v e pkt i) (hcode : i.c = 2) (hk : i.k < 16) : Run Try.prog 76 (ArgM b i) w (Did w b (stepX pkt i ws) P pn pc a v e) := by
  obtain ⟨h, hp, hc, hn, hi⟩ := r
  have k0 : U i.k := hi.2.2.2
  refine machine_Machine_st.ok (letA fun w1 h1 x1 s1 => ⟨fun u => RAt u b ws P pn pc 0 a v e ∧ IAt u w.heap.size i, ⟨(h.ext x1).ext (Go.Rd.Ext.drew w1), IAt.ext h1 (Go.Rd.Ext.drew w1)⟩, letD fun w2 _ x2 => ⟨_, fun u hu => hu.2.c3, _, rfl, _, fun u hu => hu.1.get (i := 0) (by decide) rfl, _, rfl, k0.1, hk, ((h.ext x1).ext x2).put (i := 2 + i.k.toNat) (by have := k0.1; omega) (h.ok.wd _) at2' fun w3 h3 k3 => Did.of (x1.trans x2) (by unfold stepX; simp only [hcode]; rfl) h3 k3⟩⟩)
theorem stx_spec (r : Rn w b ws P pn pc a v e pkt i) (hcode : i.c = 3) (hk : i.k < 16) : Run Try.prog 77 (ArgM b i) w (Did w b (stepX pkt i ws) P pn pc a v e) := by
  obtain ⟨h, hp, hc, hn, hi⟩ := r
  have k0 : U i.k := hi.2.2.2
  refine machine_Machine_stx.ok (letA fun w1 h1 x1 s1 => ⟨fun u => RAt u b ws P pn pc 0 a v e ∧ IAt u w.heap.size i, ⟨(h.ext x1).ext (Go.Rd.Ext.drew w1), IAt.ext h1 (Go.Rd.Ext.drew w1)⟩, letD fun w2 _ x2 => ⟨_, fun u hu => hu.2.c3, _, rfl, _, fun u hu => hu.1.get (i := 1) (by decide) (by rw [add_mk]), _, rfl, k0.1, hk, ((h.ext x1).ext x2).put (i := 2 + i.k.toNat) (by have := k0.1; omega) (h.ok.wd _) at2' fun w3 h3 k3 => Did.of (x1.trans x2) (by unfold stepX; simp only [hcode]; rfl) h3 k3⟩⟩)
theorem ldLen_spec (r : Rn w b ws P pn pc a v e pkt i) (hcode : i.c = 128) : Run Try.prog 71 (ArgM b i) w (Did w b (stepX pkt i ws) P pn pc a v e) := by
  obtain ⟨h, hp, hc, hn, hi⟩ := r
  have hl := hp.len
  have ew : IntKind.u32.wrap ((pn : Nat) : Int) = (pkt.length : Int) := by rw [hl]; exact wrap_u32 (by omega) (by omega)
  refine machine_Machine_ldLen.ok (letA fun w1 h1 x1 s1 => ?_)
  have cp : w1.cell? ((Addr.mk b 0 none).add 18) = some (.slice P pn pc) := by rw [add_mk]; exact (h.ext x1).tail (i := 0) rfl rfl
  rw [← hl] at cp
  first
    | (refine ⟨_, rfl, _, _, _, cp, _, rfl, ?_⟩
       rw [hl, ew]
       exact (h.ext x1).put (i := 0) (by decide) ⟨by omega, by omega⟩ rfl fun w2 h2 k2 => Did.of x1 (by unfold stepX; simp only [hcode]; rfl) h2 k2)
theorem ldxLen_spec (r : Rn w b ws P pn pc a v e pkt i) (hcode : i.c = 129) : Run Try.prog 74 (ArgM b i) w (Did w b (stepX pkt i ws) P pn pc a v e) := by
  obtain ⟨h, hp, hc, hn, hi⟩ := r
  have hl := hp.len
  have ew : IntKind.u32.wrap ((pn : Nat) : Int) = (pkt.length : Int) := by rw [hl]; exact wrap_u32 (by omega) (by omega)
  refine machine_Machine_ldxLen.ok (letA fun w1 h1 x1 s1 => ?_)
  have cp : w1.cell? ((Addr.mk b 0 none).add 18) = some (.slice P pn pc) := by rw [add_mk]; exact (h.ext x1).tail (i := 0) rfl rfl
  rw [← hl] at cp
  refine ⟨_, rfl, _, _, _, cp, _, rfl, ?_⟩
  rw [hl, ew]
  exact (h.ext x1).put (i := 1) (by decide) ⟨by omega, by omega⟩ (by rw [add_mk]) fun w2 h2 k2 => Did.of x1 (by unfold stepX; simp only [hcode]; rfl) h2 k2
theorem ldAbsW_spec (r : Rn w b ws P pn pc a v e pkt i) (hcode : i.c = 32) : Run Try.prog 64 (ArgM b i) w (Did w b (stepX pkt i ws) P pn pc a v e) := by
  obtain ⟨h, hp, hc, hn, hi⟩ := r
  have k0 : U i.k := hi.2.2.2
  refine machine_Machine_ldAbsW.ok (letA fun w1 h1 x1 s1 => ⟨_, IAt.c3 h1, ?_⟩)
  rw [wrap_u64 k0.1 (by have := k0.2; omega)]
  exact into_did h hp hc hn x1 k0.1 (by have := k0.2; omega) (by unfold stepX; simp only [hcode]; rfl) fun _ h => h
theorem ldAbsH_spec (r : Rn w b ws P pn pc a v e pkt i) (hcode : i.c = 40) : Run Try.prog 65 (ArgM b i) w (Did w b (stepX pkt i ws) P pn pc a v e) := by
  obtain ⟨h, hp, hc, hn, hi⟩ := r
  have k0 : U i.k := hi.2.2.2
  refine machine_Machine_ldAbsH.ok (letA fun w1 h1 x1 s1 => ⟨_, IAt.c3 h1, ?_⟩)
  rw [wrap_u64 k0.1 (by have := k0.2; omega)]
  exact into_did h hp hc hn x1 k0.1 (by have := k0.2; omega) (by unfold stepX; simp only [hcode]; rfl) fun _ h => h
theorem ldAbsB_spec (r : Rn w b ws P pn pc a v e pkt i) (hcode : i.c = 48) : Run Try.prog 66 (ArgM b i) w (Did w b (stepX pkt i ws) P pn pc a v e) := by
  obtain ⟨h, hp, hc, hn, hi⟩ := r
  have k0 : U i.k := hi.2.2.2
  refine machine_Machine_ldAbsB.ok (letA fun w1 h1 x1 s1 => ⟨_, IAt.c3 h1, ?_⟩)
  rw [wrap_u64 k0.1 (by have := k0.2; omega)]
  exact into_did h hp hc hn x1 k0.1 (by have := k0.2; omega) (by unfold stepX; simp only [hcode]; rfl) fun _ h => h
theorem ldIndW_spec (r : Rn w b ws P pn pc a v e pkt i) (hcode : i.c = 64) : Run Try.prog 67 (ArgM b i) w (Did w b (stepX pkt i ws) P pn pc a v e) := by
  obtain ⟨h, hp, hc, hn, hi⟩ := r
  obtain ⟨s1, s2, s3⟩ := ind_sum h hi
  refine machine_Machine_ldIndW.ok (letA fun w1 h1 x1 _ => ⟨fun u => RAt u b ws P pn pc 0 a v e ∧ IAt u w.heap.size i, ⟨(h.ext x1).ext (Go.Rd.Ext.drew w1), IAt.ext h1 (Go.Rd.Ext.drew w1)⟩, letD fun w2 _ x2 => ⟨_, rfl, _, fun u hu => hu.1.get (i := 1) (by decide) (by rw [add_mk]), _, fun u hu => hu.2.c3, ?_⟩⟩)
  rw [s1]
  exact into_did h hp hc hn (x1.trans x2) s2 s3 (by unfold stepX; simp only [hcode]; rfl) fun _ h => h
theorem ldIndH_spec (r : Rn w b ws P pn pc a v e pkt i) (hcode : i.c = 72) : Run Try.prog 68 (ArgM b i) w (Did w b (stepX pkt i ws) P pn pc a v e) := by
  obtain ⟨h, hp, hc, hn, hi⟩ := r
  obtain ⟨s1, s2, s3⟩ := ind_sum h hi
  refine machine_Machine_ldIndH.ok (letA fun w1 h1 x1 _ => ⟨fun u => RAt u b ws P pn pc 0 a v e ∧ IAt u w.heap.size i, ⟨(h.ext x1).ext (Go.Rd.Ext.drew w1), IAt.ext h1 (Go.Rd.Ext.drew w1)⟩, letD fun w2 _ x2 => ⟨_, rfl, _, fun u hu => hu.1.get (i := 1) (by decide) (by rw [add_mk]), _, fun u hu => hu.2.c3, ?_⟩⟩)
  rw [s1]
  exact into_did h hp hc hn (x1.trans x2) s2 s3 (by unfold stepX; simp only [hcode]; rfl) fun _ h => h
theorem ldIndB_spec (r : Rn w b ws P pn pc a v e pkt i) (hcode : i.c = 80) : Run Try.prog 69 (ArgM b i) w (Did w b (stepX pkt i ws) P pn pc a v e) := by
  obtain ⟨h, hp, hc, hn, hi⟩ := r
  obtain ⟨s1, s2, s3⟩ := ind_sum h hi
  refine machine_Machine_ldIndB.ok (letA fun w1 h1 x1 _ => ⟨fun u => RAt u b ws P pn pc 0 a v e ∧ IAt u w.heap.size i, ⟨(h.ext x1).ext (Go.Rd.Ext.drew w1), IAt.ext h1 (Go.Rd.Ext.drew w1)⟩, letD fun w2 _ x2 => ⟨_, rfl, _, fun u hu => hu.1.get (i := 1) (by decide) (by rw [add_mk]), _, fun u hu => hu.2.c3, ?_⟩⟩)
  rw [s1]
  exact into_did h hp hc hn (x1.trans x2) s2 s3 (by unfold stepX; simp only [hcode]; rfl) fun _ h => h
theorem ldxMsh_spec (r : Rn w b ws P pn pc a v e pkt i) (hcode : i.c = 177) : Run Try.prog 75 (ArgM b i) w (Did w b (stepX pkt i ws) P pn pc a v e) := by
  obtain ⟨h, hp, hc, hn, hi⟩ := r
  have k0 : U i.k := hi.2.2.2
  have es : stepX pkt i ws = (match loadX pkt i.k 1 with | some v => (0, ws.set 1 (IntKind.u32.wrap (4 * andI .u32 v 15))) | none => (1, ws)) := by unfold stepX; simp only [hcode]; rfl
  refine machine_Machine_ldxMsh.ok (letA fun w1 h1 x1 s1 => ⟨_, IAt.c3 h1, ?_⟩)
  rw [wrap_u64 k0.1 (by have := k0.2; omega)]
  refine (mload_spec (h.ext x1) (hp.ext x1) hc hn k0.1 (by have := k0.2; omega)).mono ?_
  intro u w2 hu
  cases hx : loadX pkt i.k 1 with
  | some x =>
    rw [hx] at hu es
    obtain ⟨rfl, rfl⟩ := hu
    exact ⟨_, _, rfl, ifP_t rfl ⟨_, rfl, (h.ext x1).put (i := 1) (by decide) (U.wrap _) (by rw [add_mk]) fun w3 h3 k3 => Did.of x1 es h3 k3⟩⟩
  | none =>
    rw [hx] at hu es
    obtain ⟨rfl, h2, k2⟩ := hu
    exact ⟨_, _, rfl, ifP_f rfl (Did.of x1 es h2 k2)⟩
end
end Go.Proofs.Ytllooifbiapeoaa
