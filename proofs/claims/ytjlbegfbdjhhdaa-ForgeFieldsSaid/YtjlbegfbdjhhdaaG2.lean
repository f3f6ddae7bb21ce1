/- What may be wrong with what is asked for. -/
import Derived.Test.YtjlbegfbdjhhdaaGArr
namespace Go.Proofs.Ytjlbegfbdjhhdaa
open Go.Rd Go.RowKit
set_option linter.unusedVariables false
set_option linter.unusedSimpArgs false

def saidB (s : Sp) : Bool := !s.mu || s.bg
def ipB (s : Sp) : Bool := saidB s && (s.pr == 33 || s.pr == 87)
def seqsN (k : Lnk) : Int := if k.mp = 2 then 16777215 else 4095
abbrev all16 : List Nat := [0, 1, 2, 3, 4, 5, 6, 7, 8, 9, 10, 11, 12, 13, 14, 15]
abbrev from4 : List Nat := [4, 5, 6, 7, 8, 9, 10, 11, 12, 13, 14, 15]
def wr1 (k : Lnk) (s : Sp) : Bool := !s.wd && !k.ac
def wr2 (k : Lnk) (s : Sp) : Bool := s.mu && (k.mp == 0 || decide (s.sq > seqsN k))
def wr3 (k : Lnk) (s : Sp) : Bool := !s.mu && (s.bg || s.en || s.sq != 0 || (s.pr == 61 && k.mp != 0))
def wr4 (s : Sp) : Bool := !saidB s && (s.pr != 0 || s.nx != 0 || s.po)
def wr5 (s : Sp) : Bool := saidB s && (decide (s.pr > 65535) || s.pr % 2 == 0 || s.pr / 256 % 2 == 1)
def wr6 (s : Sp) : Bool := !ipB s && (s.nx != 0 || !allZ s.sr all16 || !allZ s.ds all16 || s.po)
def wr7 (s : Sp) : Bool := decide (s.nx < 0) || decide (s.nx > 255)
def wr8 (s : Sp) : Bool := ipB s && (s.pr == 33 && (!allZ s.sr from4 || !allZ s.ds from4))
def wr9 (s : Sp) : Bool := !s.po && (s.fr != 0 || s.to != 0)
def wr10 (s : Sp) : Bool := decide (s.fr > 65535) || decide (s.to > 65535)
def wr11 (k : Lnk) (s : Sp) : Bool := !s.mu && (!s.wd && (k.pf && (!s.pl && s.pr == 255)))

section
variable {w : World} {k : Lnk} {s : Sp} {bs bl bn : Nat}
theorem seqs_spec : Run Try.prog 45 #[.agg #[.bool k.ac, .bool k.pf, .int .i64 k.mp]] w fun v w' => v = .int .u32 (seqsN k) ∧ Ext w w' := by
  refine forge_seqs.ok (letA fun w1 h1 x1 s1 => ?_)
  have hk : LAt w1 w.heap.size k := h1
  exact ⟨_, hk.c2, ifP_beq.2 ⟨fun h => ⟨by rw [seqsN, if_pos h], x1⟩, fun h => ⟨by rw [seqsN, if_neg h], x1⟩⟩⟩
theorem says_spec : Run Try.prog 28 #[s.v] w fun v w' => v = .bool (saidB s) ∧ Ext w w' := by
  refine forge_says.ok (letA fun w1 h1 x1 s1 => ?_)
  have hs : SAt w1 w.heap.size s := h1
  have j : ∀ b, b = saidB s → forge_says.J0 (fun v w' => v = .bool (saidB s) ∧ Ext w w') b w1 := fun b h => ⟨by rw [h], x1⟩
  exact ⟨_, hs.at_ 2 rfl, ifP_not.2 (ifP_of (fun h => ⟨_, hs.at_ 3 rfl, j _ (by simp [saidB, h])⟩) fun h => j _ (by simp [saidB, h]))⟩
theorem gip_spec : Run Try.prog 31 #[s.v] w fun v w' => v = .bool (ipB s) ∧ Ext w w' := by
  refine forge_ip.ok (letA fun w1 h1 x1 s1 => ?_)
  have hs : SAt w1 w.heap.size s := h1
  refine hs.rd (says_spec.mono ?_)
  rintro v w2 ⟨rfl, x2⟩
  have hs2 := hs.ext x2
  have j : ∀ b, b = ipB s → forge_ip.J0 (fun v w' => v = .bool (ipB s) ∧ Ext w w') b w2 := fun b h => ⟨by rw [h], x1.trans x2⟩
  exact ⟨_, rfl, ifP_of (fun h => ⟨_, hs2.at_ 6 rfl, ifP_beq.2 ⟨fun h33 => j _ (by simp [ipB, h, h33]), fun h33 => ⟨_, hs2.at_ 6 rfl, j _ (by simp [ipB, h, h33])⟩⟩⟩) fun h => j _ (by simp [ipB, h])⟩

abbrev Wr (w : World) (b : Bool) (v : Value) (w' : World) : Prop := v = .bool b ∧ Ext w w'
theorem wr1_spec (hs : SAt w bs s) (hk : LAt w bl k) : Run Try.prog 43 #[.pointer (some ⟨bs, 0, none⟩), .pointer (some ⟨bl, 0, none⟩)] w (Wr w (wr1 k s)) := by
  have j : ∀ b, b = wr1 k s → forge_wrongs_1.J0 (Wr w (wr1 k s)) b w := fun b h => ⟨by rw [h], Ext.refl w⟩
  exact forge_wrongs_1.ok ⟨_, hs.at_ 1 rfl, ifP_not.2 (ifP_of (fun h => j _ (by simp [wr1, h])) fun h => ⟨_, hk.c0, j _ (by simp [wr1, h])⟩)⟩
theorem wr2_spec (hs : SAt w bs s) (hk : LAt w bl k) : Run Try.prog 44 #[.pointer (some ⟨bs, 0, none⟩), .pointer (some ⟨bl, 0, none⟩)] w (Wr w (wr2 k s)) := by
  have j : ∀ b w', b = wr2 k s → Ext w w' → forge_wrongs_2.J0 (Wr w (wr2 k s)) b w' := fun b w' h x => ⟨by rw [h], x⟩
  refine forge_wrongs_2.ok ⟨fun u => SAt u bs s ∧ LAt u bl k, ⟨hs.ext (Ext.drew w), hk.ext (Ext.drew w)⟩, letD fun w1 _ x1 => ⟨_, fun u hu => hu.1.at_ 2 rfl, ifP_of (fun h => ⟨_, fun u hu => hu.2.c2, ifP_beq.2 ⟨fun h0 => j _ _ (by simp [wr2, h, h0]) x1, fun h0 => ⟨_, fun u hu => hu.1.at_ 5 rfl, LAt.rdS (fun u hu => hu.2) (seqs_spec.mono ?_)⟩⟩⟩) fun h => j _ _ (by simp [wr2, h]) x1⟩⟩
  rintro v w2 ⟨rfl, x2⟩
  exact ⟨_, rfl, ⟨(hs.ext x1).ext x2, (hk.ext x1).ext x2⟩, j _ _ (by simp [wr2, h, h0]) (x1.trans x2)⟩
theorem wr3_spec (hs : SAt w bs s) (hk : LAt w bl k) : Run Try.prog 46 #[.pointer (some ⟨bs, 0, none⟩), .pointer (some ⟨bl, 0, none⟩)] w (Wr w (wr3 k s)) := by
  have j : ∀ b, b = wr3 k s → forge_wrongs_3.J0 (Wr w (wr3 k s)) b w := fun b h => ⟨by rw [h], Ext.refl w⟩
  refine forge_wrongs_3.ok ⟨_, hs.at_ 2 rfl, ifP_not.2 (ifP_of (fun h => j _ (by simp [wr3, h])) fun h => ⟨_, hs.at_ 3 rfl, ifP_of (fun hb => j _ (by simp [wr3, h, hb])) fun hb => ⟨_, hs.at_ 4 rfl, ifP_of (fun he => j _ (by simp [wr3, h, he])) fun he => ⟨_, hs.at_ 5 rfl, ifP_bne.2 ⟨fun hq => j _ (by simp [wr3, h, hq]), fun hq => ⟨_, hs.at_ 6 rfl, ifP_beq.2 ⟨fun hp => ⟨_, hk.c2, j _ (by simp [wr3, h, hb, he, hq, hp])⟩, fun hp => j _ (by simp [wr3, h, hb, he, hq, hp])⟩⟩⟩⟩⟩⟩)⟩
theorem wr4_spec (hs : SAt w bs s) : Run Try.prog 47 #[.pointer (some ⟨bs, 0, none⟩)] w (Wr w (wr4 s)) := by
  refine forge_wrongs_4.ok (hs.rd (says_spec.mono ?_))
  rintro v w1 ⟨rfl, x1⟩
  have h1 := hs.ext x1
  have j : ∀ b, b = wr4 s → forge_wrongs_4.J0 (Wr w (wr4 s)) b w1 := fun b h => ⟨by rw [h], x1⟩
  exact ⟨_, rfl, ifP_not.2 (ifP_of (fun h => j _ (by simp [wr4, h])) fun h => ⟨_, h1.at_ 6 rfl, ifP_bne.2 ⟨fun hp => j _ (by simp [wr4, h, hp]), fun hp => ⟨_, h1.at_ 7 rfl, ifP_bne.2 ⟨fun hn => j _ (by simp [wr4, h, hn]), fun hn => ⟨_, h1.at_ 40 rfl, j _ (by simp [wr4, h, hp, hn])⟩⟩⟩⟩⟩)⟩
theorem and_one {x : Int} (h0 : 0 ≤ x) (h1 : x ≤ 4294967295) : andI .u32 x 1 = x % 2 := by
  obtain ⟨n, rfl⟩ := Int.eq_ofNat_of_zero_le h0
  unfold andI
  have e : (BitVec.ofInt IntKind.u32.bits (n : Int) &&& BitVec.ofInt IntKind.u32.bits 1).toNat = n % 2 := by
    rw [BitVec.toNat_and, toNat_ofInt, toNat_ofInt, ← Int.natCast_emod, Int.toNat_natCast]
    have hb : 2 ^ IntKind.u32.bits = 4294967296 := rfl
    rw [Nat.mod_eq_of_lt (by omega)]
    exact Nat.and_two_pow_sub_one_eq_mod n 1
  rw [e, wrap_u32 (by omega) (by omega)]
  exact Int.natCast_emod n 2
theorem wr5_spec (hs : SAt w bs s) (p0 : 0 ≤ s.pr) (p1 : s.pr ≤ 4294967295) : Run Try.prog 48 #[.pointer (some ⟨bs, 0, none⟩)] w (Wr w (wr5 s)) := by
  refine forge_wrongs_5.ok (hs.rd (says_spec.mono ?_))
  rintro v w1 ⟨rfl, x1⟩
  have h1 := hs.ext x1
  have j : ∀ b, b = wr5 s → forge_wrongs_5.J0 (Wr w (wr5 s)) b w1 := fun b h => ⟨by rw [h], x1⟩
  have e8 : Int.fdiv s.pr (2 ^ 8) = s.pr / 256 := Int.fdiv_eq_ediv_of_nonneg _ (by decide)
  refine ⟨_, rfl, ifP_of (fun h => ⟨_, h1.at_ 6 rfl, ifP_decide.2 ⟨fun hp => j _ (by simp [wr5, h, hp]), fun hp => ⟨_, h1.at_ 6 rfl, ?_⟩⟩⟩) fun h => j _ (by simp [wr5, h])⟩
  rw [and_one p0 p1]
  refine ifP_beq.2 ⟨fun ho => j _ (by simp [wr5, h, ho]), fun ho => ⟨_, h1.at_ 6 rfl, j _ ?_⟩⟩
  rw [e8, and_one (by omega) (by omega)]
  simp [wr5, h, hp, ho]
theorem wr7_spec (hs : SAt w bs s) : Run Try.prog 50 #[.pointer (some ⟨bs, 0, none⟩)] w (Wr w (wr7 s)) := by
  have j : ∀ b, b = wr7 s → forge_wrongs_7.J0 (Wr w (wr7 s)) b w := fun b h => ⟨by rw [h], Ext.refl w⟩
  exact forge_wrongs_7.ok ⟨_, hs.at_ 7 rfl, ifP_decide.2 ⟨fun h => j _ (by simp [wr7, h]), fun h => ⟨_, hs.at_ 7 rfl, j _ (by simp [wr7, h])⟩⟩⟩
theorem wr9_spec (hs : SAt w bs s) : Run Try.prog 53 #[.pointer (some ⟨bs, 0, none⟩)] w (Wr w (wr9 s)) := by
  have j : ∀ b, b = wr9 s → forge_wrongs_9.J0 (Wr w (wr9 s)) b w := fun b h => ⟨by rw [h], Ext.refl w⟩
  exact forge_wrongs_9.ok ⟨_, hs.at_ 40 rfl, ifP_not.2 (ifP_of (fun h => j _ (by simp [wr9, h])) fun h => ⟨_, hs.at_ 41 rfl, ifP_bne.2 ⟨fun hf => j _ (by simp [wr9, h, hf]), fun hf => ⟨_, hs.at_ 42 rfl, j _ (by simp [wr9, h, hf])⟩⟩⟩)⟩
theorem wr10_spec (hs : SAt w bs s) : Run Try.prog 54 #[.pointer (some ⟨bs, 0, none⟩)] w (Wr w (wr10 s)) := by
  have j : ∀ b, b = wr10 s → forge_wrongs_10.J0 (Wr w (wr10 s)) b w := fun b h => ⟨by rw [h], Ext.refl w⟩
  exact forge_wrongs_10.ok ⟨_, hs.at_ 41 rfl, ifP_decide.2 ⟨fun h => j _ (by simp [wr10, h]), fun h => ⟨_, hs.at_ 42 rfl, j _ (by simp [wr10, h])⟩⟩⟩
theorem wr11_spec (hs : SAt w bs s) (hk : LAt w bl k) : Run Try.prog 55 #[.pointer (some ⟨bs, 0, none⟩), .pointer (some ⟨bl, 0, none⟩)] w (Wr w (wr11 k s)) := by
  have j : ∀ b, b = wr11 k s → forge_wrongs_11.J0 (Wr w (wr11 k s)) b w := fun b h => ⟨by rw [h], Ext.refl w⟩
  exact forge_wrongs_11.ok ⟨_, hs.at_ 2 rfl, ifP_not.2 (ifP_of (fun h => j _ (by simp [wr11, h])) fun h => ⟨_, hs.at_ 1 rfl, ifP_not.2 (ifP_of (fun h2 => j _ (by simp [wr11, h2])) fun h2 => ⟨_, hk.c1, ifP_of (fun h3 => ⟨_, hs.at0, ifP_not.2 (ifP_of (fun h4 => j _ (by simp [wr11, h4])) fun h4 => ⟨_, hs.at_ 6 rfl, j _ (by simp [wr11, h, h2, h3, h4])⟩)⟩) fun h3 => j _ (by simp [wr11, h3])⟩)⟩)⟩
theorem srcCells (hs : SAt w bs s) : ∀ i, i < 16 → w.cell? (((Addr.mk bs 0 none).add 8).add i) = some (.int .u8 (s.sr i)) := fun i hi => by
  rw [add_mk, add_mk, show 0 + 8 + i = 0 + (8 + i) by omega, ← add_mk]
  match i, hi with
  | 0, _ | 1, _ | 2, _ | 3, _ | 4, _ | 5, _ | 6, _ | 7, _ | 8, _ | 9, _ | 10, _ | 11, _ | 12, _ | 13, _ | 14, _ | 15, _ => exact hs.at_ _ rfl
  | m + 16, h => exact absurd h (by omega)
theorem dstCells (hs : SAt w bs s) : ∀ i, i < 16 → w.cell? (((Addr.mk bs 0 none).add 24).add i) = some (.int .u8 (s.ds i)) := fun i hi => by
  rw [add_mk, add_mk, show 0 + 24 + i = 0 + (24 + i) by omega, ← add_mk]
  match i, hi with
  | 0, _ | 1, _ | 2, _ | 3, _ | 4, _ | 5, _ | 6, _ | 7, _ | 8, _ | 9, _ | 10, _ | 11, _ | 12, _ | 13, _ | 14, _ | 15, _ => exact hs.at_ _ rfl
  | m + 16, h => exact absurd h (by omega)
theorem wr6_spec (hs : SAt w bs s) (hn : w.heap[bn]? = some (.cells (Array.replicate 16 (Value.int .u8 0)) 25 (0, 0))) : Run Try.prog 49 #[.pointer (some ⟨bs, 0, none⟩), .pointer (some ⟨bn, 0, none⟩)] w (Wr w (wr6 s)) := by
  refine forge_wrongs_6.ok (hs.rd (gip_spec.mono ?_))
  rintro v w1 ⟨rfl, x1⟩
  have h1 := hs.ext x1
  have n1 := x1.heap hn
  have j : ∀ b, b = wr6 s → forge_wrongs_6.J0 (Wr w (wr6 s)) b w1 := fun b h => ⟨by rw [h], x1⟩
  have none16 : ∀ i, i < 16 → w1.cell? ((Addr.mk bn 0 none).add i) = some (.int .u8 ((fun _ => 0 : Nat → Int) i)) := fun i hi => by
    rw [add_mk, cell_of n1, Nat.zero_add, Array.getElem?_replicate, if_pos hi]
  refine ⟨_, rfl, ifP_not.2 (ifP_of (fun h => j _ (by simp [wr6, h])) fun h => ⟨_, h1.at_ 7 rfl, ifP_bne.2 ⟨fun hx => j _ (by simp [wr6, h, hx]), fun hx => ?_⟩⟩)⟩
  refine rd16 (srcCells h1) (h1.at_ 8 rfl) (rd16 (f := fun _ => 0) none16 (none16 0 (by decide)) ⟨_, w1, zero16 (f := s.sr), _, rfl, ifP_not.2 (ifP_of (fun hz => ?_) fun hz => j _ (by simp [wr6, h, hz]))⟩)
  refine rd16 (dstCells h1) (h1.at_ 24 rfl) (rd16 (f := fun _ => 0) none16 (none16 0 (by decide)) ⟨_, w1, zero16 (f := s.ds), _, rfl, ifP_not.2 (ifP_of (fun hz2 => ?_) fun hz2 => j _ (by simp [wr6, h, hz2]))⟩)
  exact ⟨_, h1.at_ 40 rfl, j _ (by simp [wr6, h, hx, hz, hz2])⟩
end

section
variable {w : World} {f : Nat → Int}
theorem long_spec : Run Try.prog 52 #[.agg #[.int .u8 (f 0), .int .u8 (f 1), .int .u8 (f 2), .int .u8 (f 3), .int .u8 (f 4), .int .u8 (f 5), .int .u8 (f 6), .int .u8 (f 7), .int .u8 (f 8), .int .u8 (f 9), .int .u8 (f 10), .int .u8 (f 11), .int .u8 (f 12), .int .u8 (f 13), .int .u8 (f 14), .int .u8 (f 15)]] w fun v w' => v = .bool (!allZ f from4) ∧ Ext w w' := by
  refine forge_long.ok (letA fun w1 h1 x1 s1 => ⟨by decide, by decide, by decide, by decide, ?_⟩)
  have c : ∀ i v, (#[Value.int .u8 (f 0), .int .u8 (f 1), .int .u8 (f 2), .int .u8 (f 3), .int .u8 (f 4), .int .u8 (f 5), .int .u8 (f 6), .int .u8 (f 7), .int .u8 (f 8), .int .u8 (f 9), .int .u8 (f 10), .int .u8 (f 11), .int .u8 (f 12), .int .u8 (f 13), .int .u8 (f 14), .int .u8 (f 15)] : Array Value)[4 + i]? = some v → w1.cell? (((newA w).add 4).add i) = some v := by
    intro i v hv
    rw [newA, add_mk, add_mk, cell_of h1, Nat.zero_add]
    exact hv
  have c0 : w1.cell? ((newA w).add 4) = some (.int .u8 (f 4)) := by rw [newA, add_mk, cell_of h1]; rfl
  refine ⟨_, c0, _, c 1 _ rfl, _, c 2 _ rfl, _, c 3 _ rfl, _, c 4 _ rfl, _, c 5 _ rfl, _, c 6 _ rfl, _, c 7 _ rfl, _, c 8 _ rfl, _, c 9 _ rfl, _, c 10 _ rfl, _, c 11 _ rfl, _, w1, zero12, _, rfl, rfl, x1⟩
end
section
variable {w : World} {k : Lnk} {s : Sp} {bs bl bn : Nat}
theorem wr8_spec (hs : SAt w bs s) : Run Try.prog 51 #[.pointer (some ⟨bs, 0, none⟩)] w (Wr w (wr8 s)) := by
  refine forge_wrongs_8.ok (hs.rd (gip_spec.mono ?_))
  rintro v w1 ⟨rfl, x1⟩
  have h1 := hs.ext x1
  have j : ∀ b w', b = wr8 s → Ext w w' → forge_wrongs_8.J0 (Wr w (wr8 s)) b w' := fun b w' h x => ⟨by rw [h], x⟩
  refine ⟨_, rfl, ifP_of (fun h => ⟨_, h1.at_ 6 rfl, ifP_beq.2 ⟨fun hp => ?_, fun hp => j _ _ (by simp [wr8, h, hp]) x1⟩⟩) fun h => j _ _ (by simp [wr8, h]) x1⟩
  refine rd16 (srcCells h1) (h1.at_ 8 rfl) (long_spec.mono ?_)
  rintro v w2 ⟨rfl, x2⟩
  have h2 := h1.ext x2
  refine ⟨_, rfl, ifP_of (fun hl => j _ _ (by rw [wr8, h]; simp [hp]; left; simpa using hl) (x1.trans x2)) fun hl => ?_⟩
  refine rd16 (dstCells h2) (h2.at_ 24 rfl) (long_spec.mono ?_)
  rintro v w3 ⟨rfl, x3⟩
  exact ⟨_, rfl, j _ _ (by rw [wr8, h, hl, hp]; simp) ((x1.trans x2).trans x3)⟩
end
end Go.Proofs.Ytjlbegfbdjhhdaa
