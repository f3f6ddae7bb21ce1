/- The statement over jumps, walked. -/
import Derived.Test.YtllooifbiapeoaaD18
namespace Go.Proofs.Ytllooifbiapeoaa
open Go.Rd Go.RowKit
set_option linter.unusedVariables false
set_option linter.unusedSimpArgs false
set_option maxRecDepth 100000

section
variable {W : World} {a b : Int} {A B : Option Addr} {i j m : Nat} {R : Value → World → Prop}
/-- A program that is whole: run, and asked. -/
theorem vj_run {w : World} {P : Option Addr} {pn pc : Nat} {xs : List Ins} {want : Bool} (hp : IInsns w P pn xs) (hok : Inss xs) (hpn : pn ≤ 4096) (hv : codeV xs [] = 0 ∧ (verdV xs []).1 = if want = true then 1 else 2) (hw : ∃ q, B = some q ∧ w.cell? (q.add (i * 1)) = some (.bool want)) (hi : i < 4) (hj : j < 2)
    (hnext : ∀ w', Go.Rd.Ext w w' → law5_VmJumps.L2 R a b m A 4 4 B 4 4 i ((j + 1 : Nat) : Int) w') : law5_VmJumps.J2 R a b m A 4 4 B 4 4 i j P pn pc w := by
  obtain ⟨ec, ev⟩ := hv
  obtain ⟨q, hq, hc⟩ := hw
  have tI : Int.toNat ((i : Nat) : Int) = i := Int.toNat_natCast i
  unfold law5_VmJumps.J2
  refine (vrun_spec hp hok (by omega) (P := none) (pn := 0) (pc := 0) (pkt := []) Rd.nil (Nat.le_refl _)).mono ?_
  rintro v w1 ⟨rfl, x1⟩
  refine ⟨_, _, _, _, rfl, vstore (x := verdV xs []) fun w2 v2 x2 s2 => ⟨by omega, by omega, q, hq, want, by rw [tI]; exact (x1.trans x2).cell hc, ?_⟩⟩
  have fin : ∀ said : Int, (verdV xs []).1 = said → law5_VmJumps.J3 R a b m A 4 4 B 4 4 i j ⟨w1.heap.size, 0, none⟩ (codeV xs []) said w2 := by
    intro said hs
    refine ifP_nne ec ⟨_, v2.c0, ifP_f (by simpa using hs) ?_⟩
    rw [wrap_i64 (by omega) (by omega)]
    exact hnext w2 (x1.trans x2)
  refine ifP_of (fun h => fin 1 ?_) fun h => fin 2 ?_
  · rw [ev, if_pos h]
  · rw [ev, if_neg (by rw [h]; decide)]
theorem okHead {op t f kk : Int} (hop : op ∈ jops) (ht : 0 ≤ t ∧ t ≤ 255) (hf : 0 ≤ f ∧ f ≤ 255) (hk : U kk) (ha : U a) (hb : U b) : ∀ y ∈ jHead op t f kk a b, y.ok := by
  intro y hy
  simp only [jHead, List.mem_cons, List.not_mem_nil, or_false] at hy
  rcases hy with rfl | rfl | rfl
  · exact ok4 (by decide) (by decide) (by decide) hb
  · exact ok4 (by decide) (by decide) (by decide) ha
  · exact ok4 (jop_facts hop).2.2.2.2.2.2 ht hf hk
theorem okTail : ∀ y ∈ jTail, y.ok := by
  intro y hy
  simp only [jTail, List.mem_cons, List.not_mem_nil, or_false] at hy
  rcases hy with rfl | rfl <;> exact ok4 (by decide) (by decide) (by decide) ⟨by decide, by decide⟩
/-- The block of one more instruction. -/
theorem one_rd {w w1 : World} {xs : List Ins} {cs : Array Value} (h : w1.heap[w.heap.size]? = some (.cells cs 45 (0, 0))) (hx : cs = (xs.flatMap Ins.v).toArray) : RdC w1 (some (newA w)) (xs.flatMap Ins.v) := (lit_insns h hx).cells
/-- The loop that adds returns, and what comes behind it. -/
theorem vj_loop {op t f kk : Int} {q : Bool} (hop : op ∈ jops) (hm : m ≤ 255) (htf : if m = 0 then t = 0 ∧ f = 1 else t = m ∧ f = 0) (hk : U kk) (ha : U a) (hb : U b) (hr : rightX ⟨op, t, f, kk⟩ (jW a b) = b) (hq : askX op a b = q) (hi : i < 4) (hj : j < 2)
    (hw : ∃ p, B = some p ∧ ∀ w', Go.Rd.Ext W w' → w'.cell? (p.add (i * 1)) = some (.bool q)) (hnext : ∀ w', Go.Rd.Ext W w' → law5_VmJumps.L2 R a b m A 4 4 B 4 4 i ((j + 1 : Nat) : Int) w') :
    ∀ (d n : Nat), max m 1 - n = d → 1 ≤ n → n ≤ max m 1 → ∀ (w : World) (P : Option Addr) (pn pc : Nat), pn = 3 + n → Go.Rd.Ext W w → OInsns w P pc (jHead op t f kk a b ++ ([⟨5, 0, 0, m⟩] ++ List.replicate (n - 1) (⟨6, 0, 0, 77⟩ : Ins))) → (∀ k, blk P k → W.heap.size ≤ k) →
      law5_VmJumps.L4 R a b m A 4 4 B 4 4 i j P pn pc n w := by
  obtain ⟨p, hp, hpc⟩ := hw
  have em : IntKind.i64.wrap (m : Int) = (m : Int) := wrap_i64 (by omega) (by omega)
  have len : ∀ n, 1 ≤ n → (jHead op t f kk a b ++ ([(⟨5, 0, 0, m⟩ : Ins)] ++ List.replicate (n - 1) (⟨6, 0, 0, 77⟩ : Ins))).length = 3 + n := by
    intro n hn
    simp only [jHead, List.length_append, List.length_cons, List.length_nil, List.length_replicate]
    omega
  intro d
  induction d with
  | zero =>
    intro n hd hn1 hn2 w P pn pc hpn x o bl
    subst hpn
    refine law5_VmJumps.L4_step (ifP_no (by rw [em]; omega) (ifP_beq.2 ⟨fun h0 => ?_, fun h0 => letA fun w1 h1 x1 s1 => ?_⟩))
    · have hm0 : m = 0 := by omega
      rw [if_pos hm0] at htf
      obtain ⟨rfl, rfl⟩ := htf
      have rp : ∀ {u : World}, Go.Rd.Ext w u → IInsns u P (3 + n) (jHead op 0 1 kk a b ++ ([(⟨5, 0, 0, m⟩ : Ins)] ++ List.replicate (n - 1) (⟨6, 0, 0, 77⟩ : Ins))) := fun xu => (o.ext xu).rdM (len n hn1)
      obtain ⟨z, y0, hz, hy0, _⟩ := IInsns.at4 (rp (Go.Rd.Ext.refl w)) (i := 0) (by omega)
      have g : ∀ {u : World} (k : Nat) (y : Ins), Go.Rd.Ext w u → (jHead op 0 1 kk a b)[k]? = some y → k < 3 → At4 u (z.add (k * 4)) y := by
        intro u k y xu hy hk3
        obtain ⟨z1, y1, hz1, hy1, h4⟩ := IInsns.at4 (rp xu) (i := k) (by omega)
        rw [hz] at hz1
        obtain rfl := Option.some.inj hz1
        rw [List.getElem?_append_left (by show k < 3; exact hk3), hy] at hy1
        obtain rfl := Option.some.inj hy1
        exact h4
      refine ⟨Go.Rd.Ext w, Go.Rd.Ext.drew w, letD fun w2 _ x2 => ⟨by omega, by omega, z, hz, ?_⟩⟩
      refine ⟨_, fun u hu => (g 0 _ hu rfl (by decide)).c, _, fun u hu => (g 0 _ hu rfl (by decide)).t, _, fun u hu => (g 0 _ hu rfl (by decide)).f, _, fun u hu => (g 0 _ hu rfl (by decide)).k, by omega, by omega, z, hz, ?_⟩
      refine ⟨_, fun u hu => (g 1 _ hu rfl (by decide)).c, _, fun u hu => (g 1 _ hu rfl (by decide)).t, _, fun u hu => (g 1 _ hu rfl (by decide)).f, _, fun u hu => (g 1 _ hu rfl (by decide)).k, by omega, by omega, z, hz, ?_⟩
      refine ⟨_, fun u hu => (g 2 _ hu rfl (by decide)).c, _, fun u hu => (g 2 _ hu rfl (by decide)).t, _, fun u hu => (g 2 _ hu rfl (by decide)).f, _, fun u hu => (g 2 _ hu rfl (by decide)).k, letA fun w3 h3 x3 s3 => ?_⟩
      have i3 : IInsns w3 (some (newA w2)) 5 (jNear op kk a b) := (lit_insns (xs := jNear op kk a b) h3 rfl).rdM rfl
      have xw := (x.trans x2).trans x3
      refine vj_run i3 ?_ (by decide) (near_verd hop hr hq) ⟨p, hp, hpc w3 xw⟩ hi hj fun w' x' => hnext w' (xw.trans x')
      intro y hy
      rcases List.mem_append.1 hy with h | h
      · exact okHead hop (by decide) (by decide) hk ha hb y h
      · exact okTail y h
    · have hm1 : m ≠ 0 := by omega
      rw [if_neg hm1] at htf
      obtain ⟨rfl, rfl⟩ := htf
      obtain rfl : n = m := by omega
      have hB : RdC w1 (some (newA w)) (jTail.flatMap Ins.v) := one_rd (xs := jTail) h1 rfl
      obtain ⟨P', pc', w2, hr2, o2, hc2, k2, b2⟩ := append_own slInsns (ty := 22) (n := 3 + n) (d := 2) (o.ext x1) (by rw [flat_len Ins.len, len n hn1]) hB (m := 2) rfl rfl (by omega) (by omega)
      have e : jHead op n 0 kk a b ++ ([(⟨5, 0, 0, n⟩ : Ins)] ++ List.replicate (n - 1) (⟨6, 0, 0, 77⟩ : Ins)) ++ jTail = jFar op kk a b n := by simp [jFar]
      rw [← List.flatMap_append, e] at o2
      have xw : Go.Rd.Ext W w2 := (x.trans x1).fresh k2 fun k hk => bl k hk
      refine ⟨_, w2, hr2, _, _, _, rfl, vj_run (o2.rdM (by rw [jFar_len hn1]; omega)) ?_ (by omega) (far_verd hop hn1 hm hr hq) ⟨p, hp, hpc w2 xw⟩ hi hj fun w' x' => hnext w' (xw.trans x')⟩
      intro y hy
      unfold jFar at hy
      rcases List.mem_append.1 hy with h | h
      · exact okHead hop ⟨by omega, by omega⟩ (by decide) hk ha hb y h
      · rcases List.mem_append.1 h with h | h
        · simp only [List.mem_cons, List.not_mem_nil, or_false] at h
          subst h
          exact ok4 (by decide) (by decide) (by decide) ⟨by omega, by omega⟩
        · rcases List.mem_append.1 h with h | h
          · obtain rfl := List.eq_of_mem_replicate h
            exact ok4 (by decide) (by decide) (by decide) ⟨by decide, by decide⟩
          · exact okTail y h
  | succ d ih =>
    intro n hd hn1 hn2 w P pn pc hpn x o bl
    subst hpn
    refine law5_VmJumps.L4_step (ifP_yes (by rw [em]; omega) (letA fun w1 h1 x1 s1 => ?_))
    have hB : RdC w1 (some (newA w)) ([(⟨6, 0, 0, 77⟩ : Ins)].flatMap Ins.v) := one_rd (xs := [⟨6, 0, 0, 77⟩]) h1 rfl
    obtain ⟨P', pc', w2, hr2, o2, hc2, k2, b2⟩ := append_own slInsns (ty := 22) (n := 3 + n) (d := 1) (o.ext x1) (by rw [flat_len Ins.len, len n hn1]) hB (m := 1) rfl rfl (by omega) (by omega)
    have e : jHead op t f kk a b ++ ([(⟨5, 0, 0, m⟩ : Ins)] ++ List.replicate (n - 1) (⟨6, 0, 0, 77⟩ : Ins)) ++ [(⟨6, 0, 0, 77⟩ : Ins)] = jHead op t f kk a b ++ ([(⟨5, 0, 0, m⟩ : Ins)] ++ List.replicate (n + 1 - 1) (⟨6, 0, 0, 77⟩ : Ins)) := by
      obtain ⟨r, rfl⟩ : ∃ r, n = r + 1 := ⟨n - 1, by omega⟩
      rw [Nat.add_sub_cancel, Nat.add_sub_cancel, List.replicate_succ']
      simp
    rw [← List.flatMap_append, e] at o2
    have xw : Go.Rd.Ext W w2 := (x.trans x1).fresh k2 fun k hk => bl k hk
    refine ⟨_, w2, hr2, _, _, _, rfl, ?_⟩
    rw [wrap_i64 (by omega) (by omega)]
    refine ih (n + 1) (by omega) (by omega) (by omega) w2 P' (3 + n + 1) pc' (by omega) xw o2 fun k hk => ?_
    have z := x.size
    have z1 := x1.size
    rcases b2 k hk with h | h
    · exact bl k h
    · omega
/-- From the jump on. -/
theorem vj_one {w : World} {op kk : Int} {q : Bool} {J : Nat} (hJ : IAt w J ⟨op, m, 0, kk⟩) (hop : op ∈ jops) (hm : m ≤ 255) (hk : U kk) (ha : U a) (hb : U b) (hr : ∀ t f, rightX ⟨op, t, f, kk⟩ (jW a b) = b) (hq : askX op a b = q) (hi : i < 4) (hj : j < 2)
    (hw : ∃ p, B = some p ∧ ∀ w', Go.Rd.Ext w w' → w'.cell? (p.add (i * 1)) = some (.bool q)) (hnext : ∀ w', Go.Rd.Ext w w' → law5_VmJumps.L2 R a b m A 4 4 B 4 4 i ((j + 1 : Nat) : Int) w') :
    law5_VmJumps.J0 R a b m A 4 4 B 4 4 i j ⟨J, 0, none⟩ w := by
  have em : IntKind.u32.wrap ((m : Nat) : Int) = (m : Int) := by rw [wrap_u32_mod]; omega
  -- behind the three
  have three : ∀ (t f : Int) (w1 : World), (if m = 0 then t = 0 ∧ f = 1 else t = m ∧ f = 0) → OInsns w1 (some (newA w)) 3 (jHead op t f kk a b) → Go.Rd.Ext w w1 → law5_VmJumps.J1 R a b m A 4 4 B 4 4 i j (some (newA w)) 3 3 w1 := by
    intro t f w1 htf o1 x1
    unfold law5_VmJumps.J1
    refine letA fun w2 h2 x2 s2 => ?_
    rw [em] at h2
    have hB : RdC w2 (some (newA w1)) ([(⟨5, 0, 0, m⟩ : Ins)].flatMap Ins.v) := one_rd (xs := [⟨5, 0, 0, m⟩]) h2 rfl
    obtain ⟨P', pc', w3, hr3, o3, hc3, k3, b3⟩ := append_own slInsns (ty := 22) (n := 3) (d := 1) (o1.ext x2) rfl hB (m := 1) rfl rfl (by omega) (by omega)
    have xw : Go.Rd.Ext w w3 := (x1.trans x2).fresh k3 fun k hk => by rw [blk_some.1 hk]; exact Nat.le_refl _
    refine ⟨_, w3, hr3, _, _, _, rfl, ?_⟩
    have z1 := x1.size
    have z2 := x2.size
    refine vj_loop (W := w) (t := t) (f := f) hop hm htf hk ha hb (hr t f) hq hi hj hw hnext _ 1 rfl (Nat.le_refl _) (by omega) w3 P' 4 pc' rfl xw ?_ fun k hk => ?_
    · rw [← List.flatMap_append] at o3
      exact o3
    · rcases b3 k hk with h | h
      · rw [blk_some.1 h]; exact Nat.le_refl _
      · omega
  unfold law5_VmJumps.J0
  refine IAt.rd hJ (letA fun w1 h1 x1 s1 => ifP_beq.2 ⟨fun h0 => ?_, fun h0 => ?_⟩)
  · obtain rfl : m = 0 := by omega
    refine ⟨by omega, by omega, _, rfl, cell_put h1 (i := 10) (show 10 < 12 by decide) (by rw [newA, add_mk, add_mk]; rfl) fun w2 h2 k2 => ?_⟩
    exact three 0 1 w2 ⟨rfl, rfl⟩ (lit_insns (w := w) (xs := jHead op 0 1 kk a b) h2 rfl) (x1.fresh k2 fun j hj => by rw [hj]; exact Nat.le_refl _)
  · exact three m 0 w1 (by rw [if_neg (by omega)]; exact ⟨rfl, rfl⟩) (lit_insns (xs := jHead op m 0 kk a b) h1 rfl) x1
end
section
variable {W : World} {a b : Int} {m : Nat}
theorem VmJumps_nat (ha : U a) (hb : U b) (hm : m ≤ 255) : Run Try.prog 7 #[.int .u32 a, .int .u32 b, .int .u8 (m : Int)] W (Good W) := by
  refine law5_VmJumps.ok (letA fun w1 h1 x1 s1 => letA fun w2 h2 x2 s2 => ?_)
  have x02 := x1.trans x2
  have rA : Rd (Value.int .u16) w2 (some (newA W)) 4 [21, 37, 53, 69] := (lit_rd (f := Value.int .u16) (xs := [21, 37, 53, 69]) h1 rfl).ext x2
  have rB : Rd Value.bool w2 (some (newA w1)) 4 [a == b, decide (a > b), decide (a ≥ b), andI .u32 a b != 0] := lit_rd (f := Value.bool) (xs := [a == b, decide (a > b), decide (a ≥ b), andI .u32 a b != 0]) h2 rfl
  have uk : U (xorI .u32 (IntKind.max .u32) b) := U.xorI _ _
  have round : ∀ (i : Nat) (op : Int) (q : Bool) (w : World), i < 4 → ([21, 37, 53, 69] : List Int)[i]? = some op → [a == b, decide (a > b), decide (a ≥ b), andI .u32 a b != 0][i]? = some q → op ∈ jops → orI .u16 op 8 ∈ jops → andI .u16 op 8 = 0 → andI .u16 (orI .u16 op 8) 8 ≠ 0 → askX op a b = q → askX (orI .u16 op 8) a b = q → Go.Rd.Ext w2 w →
      (∀ w', Go.Rd.Ext w2 w' → law5_VmJumps.L0 (Good W) a b m (some (newA W)) 4 4 (some (newA w1)) 4 4 ((i + 1 : Nat) : Int) w') → law5_VmJumps.L0 (Good W) a b m (some (newA W)) 4 4 (some (newA w1)) 4 4 (i : Int) w := by
    intro i op q w hi hop hqq j1 j2 n1 n2 q1 q2 xw hnext
    have tI : Int.toNat ((i : Nat) : Int) = i := Int.toNat_natCast i
    have c1 : ∀ {u : World}, Go.Rd.Ext w2 u → u.cell? ((newA W).add (Int.toNat ((i : Nat) : Int) * 1)) = some (.int .u16 op) := by
      intro u xu
      obtain ⟨z, hz, hc⟩ := (rA.ext xu).2 i op hop
      obtain rfl := Option.some.inj hz
      rw [tI]
      exact hc
    have cw : ∀ {u : World}, Go.Rd.Ext w2 u → ∃ p, some (newA w1) = some p ∧ ∀ w', Go.Rd.Ext u w' → w'.cell? (p.add (i * 1)) = some (.bool q) := by
      intro u xu
      obtain ⟨z, hz, hc⟩ := rB.2 i q hqq
      exact ⟨z, hz, fun w' x' => (xu.trans x').cell hc⟩
    refine law5_VmJumps.L0_step (ifP_yes (by omega) ?_)
    refine law5_VmJumps.L2_step (ifP_yes (by decide) ⟨by omega, by omega, _, rfl, op, c1 xw, letA fun w3 h3 x3 s3 => storeRow_block h3 (show 0 + 0 + 4 ≤ 4 by decide) rfl fun w4 h4 k4 s4 => ifP_f (by decide) ?_⟩)
    rw [setFrom_all [.int .u16 0, .int .u8 0, .int .u8 0, .int .u32 0] [.int .u16 op, .int .u8 (m : Int), .int .u8 0, .int .u32 b] rfl] at h4
    have x4 : Go.Rd.Ext w w4 := x3.fresh k4 fun j hj => by rw [hj]; exact Nat.le_refl _
    have xw4 := xw.trans x4
    refine vj_one (i := i) (j := 0) (J := w.heap.size) (kk := b) h4 j1 hm hb ha hb (fun t f => by rw [rightX, if_neg (not_not_intro n1)]) q1 hi (by decide) (cw xw4) fun w5 x5 => ?_
    have xw5 := xw4.trans x5
    refine law5_VmJumps.L2_step (ifP_yes (by decide) ⟨by omega, by omega, _, rfl, op, c1 xw5, letA fun w6 h6 x6 s6 => storeRow_block h6 (show 0 + 0 + 4 ≤ 4 by decide) rfl fun w7 h7 k7 s7 => ifP_t (by decide) ?_⟩)
    rw [setFrom_all [.int .u16 0, .int .u8 0, .int .u8 0, .int .u32 0] [.int .u16 op, .int .u8 (m : Int), .int .u8 0, .int .u32 b] rfl] at h7
    have x7 : Go.Rd.Ext w5 w7 := x6.fresh k7 fun j hj => by rw [hj]; exact Nat.le_refl _
    refine ⟨by omega, by omega, _, rfl, op, c1 (xw5.trans x7), cell_put h7 (i := 0) (show 0 < 4 by decide) rfl fun w8 h8 k8 => cell_put h8 (i := 3) (show 3 < 4 by decide) (by rw [newA, add_mk]) fun w9 h9 k9 => ?_⟩
    have x9 : Go.Rd.Ext w5 w9 := (x7.fresh k8 fun j hj => by rw [hj]; exact Nat.le_refl _).fresh k9 fun j hj => by rw [hj]; exact Nat.le_refl _
    have xw9 := xw5.trans x9
    refine vj_one (i := i) (j := 1) (J := w5.heap.size) (op := orI .u16 op 8) (kk := xorI .u32 (IntKind.max .u32) b) h9 j2 hm uk ha hb (fun t f => by rw [rightX, if_pos n2]; rfl) q2 hi (by decide) (cw xw9) fun w10 x10 => ?_
    have xw10 := xw9.trans x10
    refine law5_VmJumps.L2_step (ifP_no (by decide) ?_)
    rw [wrap_i64 (by omega) (by omega)]
    exact hnext w10 xw10
  refine round 0 21 (a == b) w2 (by decide) rfl rfl (by decide) (by decide) (by decide) (by decide) (by unfold askX; rw [if_pos (by decide)]) (by unfold askX; rw [if_pos (by decide)]) (Go.Rd.Ext.refl w2) fun w3 x3 => ?_
  refine round 1 37 (decide (a > b)) w3 (by decide) rfl rfl (by decide) (by decide) (by decide) (by decide) (by unfold askX; rw [if_neg (by decide), if_pos (by decide)]) (by unfold askX; rw [if_neg (by decide), if_pos (by decide)]) x3 fun w4 x4 => ?_
  refine round 2 53 (decide (a ≥ b)) w4 (by decide) rfl rfl (by decide) (by decide) (by decide) (by decide) (by unfold askX; rw [if_neg (by decide), if_neg (by decide), if_pos (by decide)]) (by unfold askX; rw [if_neg (by decide), if_neg (by decide), if_pos (by decide)]) x4 fun w5 x5 => ?_
  refine round 3 69 (andI .u32 a b != 0) w5 (by decide) rfl rfl (by decide) (by decide) (by decide) (by decide) (by unfold askX; rw [if_neg (by decide), if_neg (by decide), if_neg (by decide)]) (by unfold askX; rw [if_neg (by decide), if_neg (by decide), if_neg (by decide)]) x5 fun w6 x6 => ?_
  refine law5_VmJumps.L0_step (ifP_no (by omega) (awake_spec.mono ?_))
  rintro v w7 ⟨rfl, x7⟩
  exact ⟨_, rfl, rfl, Fr.of_ext ((x02.trans x6).trans x7)⟩
theorem VmJumps_main {far : Int} (ha : U a) (hb : U b) (hf : 0 ≤ far ∧ far ≤ 255) : Run Try.prog 7 #[.int .u32 a, .int .u32 b, .int .u8 far] W (Good W) := by
  obtain ⟨m, rfl⟩ := Int.eq_ofNat_of_zero_le hf.1
  exact VmJumps_nat ha hb (by omega)
end
end Go.Proofs.Ytllooifbiapeoaa
