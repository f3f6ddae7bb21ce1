/- The statement over bytes behind a packet. -/
import Derived.Test.YtllooifbiapeoaaD11
import Derived.Test.YtllooifbiapeoaaWJoin2
namespace Go.Proofs.Ytllooifbiapeoaa
open Go.Rd Go.RowKit
set_option linter.unusedVariables false
set_option linter.unusedSimpArgs false
set_option maxRecDepth 100000

theorem loadX_more {pkt more : List Int} {a s v : Int} (h : loadX pkt a s = some v) : loadX (pkt ++ more) a s = some v := by
  unfold loadX at h ⊢
  split at h
  · rename_i hf
    obtain ⟨h1, h2, h3⟩ := fitsB_iff.1 hf
    rw [if_pos (fitsB_iff.2 ⟨h1, h2, by rw [List.length_append]; omega⟩)]
    rw [← h]
    unfold getV
    congr 2
    rw [List.drop_append_of_le_length (by omega), List.take_append_of_le_length (by rw [List.length_drop]; omega)]
  · cases h
theorem stepX_more {pkt more : List Int} {i : Ins} {ws : List Int} (h1 : i.c ≠ 128) (h2 : i.c ≠ 129) (h : (stepX pkt i ws).1 = 0) : stepX (pkt ++ more) i ws = stepX pkt i ws := by
  have ld : ∀ a s, (ldA ws (loadX pkt a s)).1 = 0 → ldA ws (loadX (pkt ++ more) a s) = ldA ws (loadX pkt a s) := by
    intro a s h0
    cases hl : loadX pkt a s with
    | some v => rw [loadX_more hl]
    | none => rw [hl] at h0; cases h0
  unfold stepX at h ⊢
  by_cases e : i.c = 0
  · rw [if_pos e, if_pos e]
  rw [if_neg e] at h
  rw [if_neg e, if_neg e]
  clear e
  by_cases e : i.c = 32
  · rw [if_pos e] at h
    rw [if_pos e, if_pos e]
    exact ld _ _ h
  rw [if_neg e] at h
  rw [if_neg e, if_neg e]
  clear e
  by_cases e : i.c = 40
  · rw [if_pos e] at h
    rw [if_pos e, if_pos e]
    exact ld _ _ h
  rw [if_neg e] at h
  rw [if_neg e, if_neg e]
  clear e
  by_cases e : i.c = 48
  · rw [if_pos e] at h
    rw [if_pos e, if_pos e]
    exact ld _ _ h
  rw [if_neg e] at h
  rw [if_neg e, if_neg e]
  clear e
  by_cases e : i.c = 64
  · rw [if_pos e] at h
    rw [if_pos e, if_pos e]
    exact ld _ _ h
  rw [if_neg e] at h
  rw [if_neg e, if_neg e]
  clear e
  by_cases e : i.c = 72
  · rw [if_pos e] at h
    rw [if_pos e, if_pos e]
    exact ld _ _ h
  rw [if_neg e] at h
  rw [if_neg e, if_neg e]
  clear e
  by_cases e : i.c = 80
  · rw [if_pos e] at h
    rw [if_pos e, if_pos e]
    exact ld _ _ h
  rw [if_neg e] at h
  rw [if_neg e, if_neg e]
  clear e
  by_cases e : i.c = 96
  · rw [if_pos e, if_pos e]
  rw [if_neg e] at h
  rw [if_neg e, if_neg e]
  clear e
  rw [if_neg h1] at h
  rw [if_neg h1, if_neg h1]
  by_cases e : i.c = 1
  · rw [if_pos e, if_pos e]
  rw [if_neg e] at h
  rw [if_neg e, if_neg e]
  clear e
  by_cases e : i.c = 97
  · rw [if_pos e, if_pos e]
  rw [if_neg e] at h
  rw [if_neg e, if_neg e]
  clear e
  rw [if_neg h2] at h
  rw [if_neg h2, if_neg h2]
  by_cases e : i.c = 177
  · rw [if_pos e] at h
    rw [if_pos e, if_pos e]
    cases hl : loadX pkt i.k 1 with
    | some v => rw [loadX_more hl]
    | none => rw [hl] at h; cases h
  rw [if_neg e] at h
  rw [if_neg e, if_neg e]
theorem runX_more {xs : List Ins} {pkt more : List Int} (hq : ∀ i ∈ xs, i.c ≠ 128 ∧ i.c ≠ 129) : ∀ (f a : Nat) (ws : List Int), (runX xs pkt f a ws).1.2 = 0 → runX xs (pkt ++ more) f a ws = runX xs pkt f a ws := by
  intro f
  induction f with
  | zero => intro a ws h; rfl
  | succ f ih =>
    intro a ws h
    rw [runX] at h ⊢
    rw [runX]
    cases hi : xs[a]? with
    | none => rfl
    | some i =>
      rw [hi] at h
      obtain ⟨q1, q2⟩ := hq i (List.mem_of_getElem? hi)
      have same : nextX (pkt ++ more) i a ws = nextX pkt i a ws := by
        by_cases h6 : classOf i.c = 6
        · rw [nextX_ret h6, nextX_ret h6]
        · by_cases h5 : classOf i.c = 5
          · rw [nextX_jump h5, nextX_jump h5]
          · by_cases hf : (stepX pkt i ws).1 = 0
            · have e := stepX_more (more := more) q1 q2 hf
              rw [nextX_step h5 h6 hf, nextX_step h5 h6 (by rw [e]; exact hf), e]
            · simp only [nextX_fault h5 h6 hf] at h
              exact absurd h hf
      simp only [same]
      cases hn : nextX pkt i a ws with
      | inl r => rfl
      | inr r =>
        simp only [hn] at h
        simp only
        rw [ih r.1 r.2 h]

def asksB (xs : List Ins) : Bool := xs.any fun i => i.c == 128 || i.c == 129
theorem asks_loop {W : World} {A : Option Addr} {n c : Nat} {xs : List Ins} {R : Value → World → Prop} (hx : IInsns W A n xs) (hn : n ≤ 281474976710656) (hR : R (.bool (asksB xs)) W) :
    ∀ (d i : Nat), n - i = d → i ≤ n → asksB (xs.take i) = false → law5_asksLength.L0 R A n c i W := by
  intro d
  have hl := hx.len
  induction d with
  | zero =>
    intro i hd hi he
    rw [List.take_of_length_le (by omega)] at he
    rw [he] at hR
    exact law5_asksLength.L0_step (ifP_no (by omega) hR)
  | succ d ih =>
    intro i hd hi he
    obtain ⟨a, x, rfl, hxi, h4⟩ := hx.at4 (i := i) (by omega)
    have yes : (x.c == 128 || x.c == 129) = true → law5_asksLength.J0 R (some a) n c i true W := by
      intro h
      have : asksB xs = true := by
        unfold asksB
        rw [List.any_eq_true]
        exact ⟨x, List.mem_of_getElem? hxi, h⟩
      rw [this] at hR
      exact ifP_t rfl hR
    refine law5_asksLength.L0_step (ifP_yes (by omega) ⟨by omega, by omega, a, rfl, x.c, by rw [Int.toNat_natCast]; exact h4.c, ifP_beq.2 ⟨fun h => yes (by rw [h]; rfl), fun h1 => ⟨by omega, by omega, a, rfl, x.c, by rw [Int.toNat_natCast]; exact h4.c, ?_⟩⟩⟩)
    by_cases h2 : x.c = 129
    · rw [show (x.c == 129) = true by rw [h2]; rfl]
      exact yes (by rw [h2]; rfl)
    · rw [show (x.c == 129) = false by simpa using h2]
      refine ifP_f rfl ?_
      rw [wrap_i64 (by omega) (by omega)]
      refine ih (i + 1) (by omega) (by omega) ?_
      rw [List.take_add_one, hxi]
      unfold asksB at he ⊢
      rw [List.any_append, he]
      simp [h1, h2]
section
variable {W : World} {A P Q : Option Addr} {n c pn pc qn qc : Nat} {xs : List Ins} {pkt more : List Int}
theorem VmBehind_main (hx : IInsns W A n xs) (hi : Inss xs) (hn : n * 8 ≤ 140737488351232) (hp : IBytes W P pn pkt) (hpn : pn ≤ 140737488351232) (hq : IBytes W Q qn more) (hqn : qn ≤ 140737488351232) :
    Run Try.prog 8 #[.slice A n c, .slice P pn pc, .slice Q qn qc] W (Good W) := by
  have hl := hx.len
  have hpl := hp.len
  have hql := hq.len
  refine law5_VmBehind.ok ((copyInsns_spec hx (by omega)).mono ?_)
  rintro v w3 ⟨A3, c3, rfl, o3, l3, b3, x3⟩
  refine ⟨_, _, _, rfl, (copyBytes_spec (hp.ext x3) (by omega)).mono ?_⟩
  rintro v w4 ⟨P4, c4, rfl, o4, l4, b4, x4⟩
  have x04 := x3.trans x4
  refine ⟨_, _, _, rfl, (vrun_spec ((o3.rdM l3).ext x4) hi (by omega) (o4.rd l4) (Own.len (n := pn) (by decide) o4 (by rw [List.length_map, l4, Nat.mul_one]))).mono ?_⟩
  rintro v w5 ⟨rfl, x5⟩
  have x05 := x04.trans x5
  refine ⟨_, _, _, _, rfl, vstore (x := verdV xs pkt) fun w6 v6 x6 s6 => ?_⟩
  have x06 := x05.trans x6
  have idle : law5_VmBehind.J0 (Good W) A n c P pn pc Q qn qc ⟨w5.heap.size, 0, none⟩ true w6 := by
    refine ifP_t rfl (awake_spec.mono ?_)
    rintro v w7 ⟨rfl, x7⟩
    exact ⟨_, rfl, rfl, Fr.of_ext (x06.trans x7)⟩
  refine ifP_bne.2 ⟨fun hc => idle, fun hc => ⟨_, v6.c1, ifP_bne.2 ⟨fun hf => idle, fun hf => ?_⟩⟩⟩
  refine law5_asksLength.ok (asks_loop (hx.ext x06) (by omega) ?_ n 0 (by omega) (by omega) rfl)
  refine ⟨_, rfl, ifP_of (fun ha => idle) fun ha => ?_⟩
  have ew : IntKind.i64.wrap (((pn : Nat) : Int) + ((qn : Nat) : Int)) = ((pn + qn : Nat) : Int) := wrap_i64 (by omega) (by omega)
  rw [ew]
  by_cases hb : 65536 < pn + qn
  · rw [show decide (((pn + qn : Nat) : Int) > 65536) = true by rw [decide_eq_true_eq]; omega]
    exact idle
  refine ifP_no (by omega) ((copyInsns_spec (hx.ext x06) (by omega)).mono ?_)
  rintro v w7 ⟨A7, c7, rfl, o7, l7, b7, x7⟩
  have x07 := x06.trans x7
  refine ⟨_, _, _, rfl, letA fun w8 h8 x8 s8 => ?_⟩
  have x08 := x07.trans x8
  have r8 : Rd Part.v w8 (some (newA w7)) 2 [⟨P, pn, pc, pkt⟩, ⟨Q, qn, qc, more⟩] := lit_rd (f := Part.v) (xs := [Part.mk P pn pc pkt, Part.mk Q qn qc more]) h8 rfl
  refine (join_two r8 (hp.ext x08) (hq.ext x08) (by show pn + qn ≤ _; omega)).mono ?_
  rintro v w9 ⟨P9, c9, rfl, o9, l9, b9, x9⟩
  have x09 := x08.trans x9
  refine ⟨_, _, _, rfl, (vrun_spec ((o7.rdM l7).ext (x8.trans x9)) hi (by omega) (o9.rd l9) (Own.len (n := pn + qn) (by decide) o9 (by rw [List.length_map, l9, Nat.mul_one]))).mono ?_⟩
  rintro v w10 ⟨rfl, x10⟩
  obtain ⟨hc0, hc1⟩ := codeV_zero hc
  have ec : codeV xs (pkt ++ more) = 0 := by rw [codeV, if_neg (not_not_intro hc0), if_neg (by rw [List.length_append]; omega)]
  have hq2 : ∀ i ∈ xs, i.c ≠ 128 ∧ i.c ≠ 129 := by
    intro i him
    unfold asksB at ha
    rw [List.any_eq_false] at ha
    have := ha i him
    simpa using this
  have ev : verdV xs (pkt ++ more) = verdV xs pkt := by
    rw [verdV, if_pos ec, verdV, if_pos hc]
    rw [verdV, if_pos hc] at hf
    unfold runV at hf ⊢
    rw [runX_more hq2 _ _ _ hf]
  refine ⟨_, _, _, _, rfl, vstore (x := verdV xs (pkt ++ more)) fun w11 v11 x11 s11 => ifP_eq ec ?_⟩
  refine v11.rd ((v6.ext ((((x7.trans x8).trans x9).trans x10).trans x11)).rd ⟨_, _, verd_eql, _, rfl, ifP_t (by rw [ev]; simp) (awake_spec.mono ?_)⟩)
  rintro v w12 ⟨rfl, x12⟩
  exact ⟨_, rfl, rfl, Fr.of_ext (((x09.trans x10).trans x11).trans x12)⟩
end
end Go.Proofs.Ytllooifbiapeoaa
