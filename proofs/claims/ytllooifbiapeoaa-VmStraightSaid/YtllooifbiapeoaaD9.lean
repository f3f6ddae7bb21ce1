/- The document's Run. -/
import Derived.Test.YtllooifbiapeoaaD6
import Derived.Test.YtllooifbiapeoaaD8
namespace Go.Proofs.Ytllooifbiapeoaa
open Go.Rd Go.RowKit
set_option linter.unusedVariables false
set_option linter.unusedSimpArgs false
set_option maxRecDepth 100000
abbrev nats (l : List Nat) : List Int := l.map fun n : Nat => (n : Int)
section
variable {Wb : World} {V m : Nat} {A P : Option Addr} {n c pn pc : Nat} {xs : List Ins} {pkt : List Int} {R : Value → World → Prop}
theorem rrun_loop (hx : IInsns Wb A n xs) (hok : Inss xs) (T : Taken xs) (hp : IBytes Wb P pn pkt) (hpn : pn ≤ 65536) (hV : Wb.heap.size ≤ V) (hm : Wb.heap.size ≤ m) (hne : V ≠ m) :
    ∀ (d a : Nat), n - a ≤ d → a < n → ∀ (w : World) (O : Option Addr) (oc tn : Nat) (ws : List Int) (tr : List Nat), tr.length = tn → Go.Rd.Ext Wb w → w.heap[V]? = some (.cells #[.int .u32 0, .int .i64 0, .int .i64 0] 26 (0, 0)) → WsAt w m ws [] 64 → OInts w O oc (nats tr) → (∀ k, blk O k → Wb.heap.size ≤ k ∧ k ≠ V ∧ k ≠ m) → tr.length ≤ a →
      (∀ w' O' oc' (x : Int × Int × Int) (l : Nat), x = ((runX xs pkt (n - a) a ws).1.1, (runX xs pkt (n - a) a ws).1.2, (l : Int)) → l = (tr ++ (runX xs pkt (n - a) a ws).2).length → Go.Rd.Ext Wb w' → OInts w' O' oc' (nats (tr ++ (runX xs pkt (n - a) a ws).2)) → (∀ k, blk O' k → Wb.heap.size ≤ k) → R (.tuple #[vArr x, .slice O' l oc', .int .i64 0]) w') →
      ref5_Run.L0 R A n c P pn pc ⟨V, 0, none⟩ ⟨m, 0, none⟩ O tn oc a w := by
  intro d
  have hl := hx.len
  have hle := T.le
  induction d with
  | zero => intro a hd ha; omega
  | succ d ih =>
    intro a hd ha w O oc tn ws tr htn x hv hM hO hb htr hR
    subst htn
    obtain ⟨q, i, hq, hi, h4⟩ := IInsns.at4 (RdM.ext hx x) (i := a) ha
    have hio : i.ok := hok i (List.mem_of_getElem? hi)
    have hfa := (T.at_ a i hi).1
    have e1 := runX_at (pkt := pkt) (ws := ws) hl hi
    have ht : Int.toNat ((a : Nat) : Int) = a := Int.toNat_natCast a
    have hVl := (Array.getElem?_eq_some_iff.1 hv).1
    have hml := (Array.getElem?_eq_some_iff.1 hM.cell).1
    have z := x.size
    refine ref5_Run.L0_step ⟨by omega, by omega, q, hq, ?_⟩
    rw [ht]
    refine ⟨_, h4.c, _, h4.t, _, h4.f, _, h4.k, letA fun w3 h3 x3 s3 => ?_⟩
    refine storeRow_block h3 (show 0 + 0 + 4 ≤ 4 by decide) rfl fun w4 h4' k4 s4 => ?_
    have hi4 : IAt w4 w.heap.size i := by
      unfold IAt
      rw [h4', setFrom_all [.int .u16 0, .int .u8 0, .int .u8 0, .int .u32 0] [.int .u16 i.c, .int .u8 i.t, .int .u8 i.f, .int .u32 i.k] rfl]
      rfl
    have x04 : Go.Rd.Ext w w4 := x3.fresh k4 fun j hj => by rw [hj]; exact Nat.le_refl _
    refine letA fun w5 h5 x5 s5 => ?_
    have hB : RdC w5 (some (newA w4)) [.int .i64 ((a : Nat) : Int)] := by
      have : Own 3 1 w5 (some (newA w4)) 1 [.int .i64 ((a : Nat) : Int)] := .inr ⟨_, [], rfl, h5, rfl⟩
      exact this.cells
    obtain ⟨O', oc', w6, hr, ho6, hc6, k6, b6⟩ := append_own slInts (ty := 27) (n := tr.length) (d := 1) (hO.ext (x04.trans x5)) (by rw [List.length_map, List.length_map, Nat.mul_one]) hB (m := 1) rfl rfl (by omega) (by omega)
    have x05 := x04.trans x5
    have x6 : Go.Rd.Ext Wb w6 := (x.trans x05).fresh k6 fun k hk => (hb k hk).1
    have hi6 : IAt w6 w.heap.size i := k6.heap (x5.heap hi4) fun h => by have := hO.lt _ h; omega
    have hv6 := k6.heap (x05.heap hv) fun h => (hb _ h).2.1 rfl
    have hM6 := (hM.ext x05).keep k6 fun h => (hb _ h).2.2 rfl
    have hb6 : ∀ k, blk O' k → Wb.heap.size ≤ k ∧ k ≠ V ∧ k ≠ m := fun k hk => by
      have z5 := x05.size
      rcases b6 k hk with h | h
      · exact hb k h
      · exact ⟨by omega, by omega, by omega⟩
    have ho6 : OInts w6 O' oc' (nats (tr ++ [a])) := by
      have e : (nats (tr ++ [a])).map (Value.int .i64) = (nats tr).map (Value.int .i64) ++ [.int .i64 ((a : Nat) : Int)] := by simp [nats]
      show Own _ 1 w6 O' oc' ((nats (tr ++ [a])).map (Value.int .i64))
      rw [e]
      exact ho6
    have hlen : (tr ++ [a]).length = tr.length + 1 := by rw [List.length_append]; rfl
    refine ⟨_, w6, hr, O', tr.length + 1, oc', rfl, ?_⟩
    have ew : IntKind.i64.wrap (((a : Nat) : Int) + 1) = ((a + 1 : Nat) : Int) := wrap_i64 (by omega) (by omega)
    have z6 := x6.size
    have z06 : w.heap.size ≤ w6.heap.size := Nat.le_trans x05.size k6.size
    have stop : ∀ (w7 : World) (v f : Int), nextX pkt i a ws = .inl (v, f) → Keep (· = m) w6 w7 → storeRow ⟨V, 0, none⟩ 0 [.int .u32 v, .int .i64 f, .int .i64 ((tr.length + 1 : Nat) : Int)] w7 fun w8 => ∃ t0 : Int, w8.cell? ⟨V, 0, none⟩ = some (.int .u32 t0) ∧ ∃ t1 : Int, w8.cell? ((Addr.mk V 0 none).add 1) = some (.int .i64 t1) ∧ ∃ t2 : Int, w8.cell? ((Addr.mk V 0 none).add 2) = some (.int .i64 t2) ∧ R (.tuple #[.agg #[.int .u32 t0, .int .i64 t1, .int .i64 t2], .slice O' (tr.length + 1) oc', .int .i64 0]) w8 := by
      intro w7 v f hn k7
      refine storeRow_block (k7.heap hv6 hne) (show 0 + 0 + 3 ≤ 3 by decide) rfl fun w8 h8 k8 _ => ?_
      rw [setFrom_all [.int .u32 0, .int .i64 0, .int .i64 0] [.int .u32 v, .int .i64 f, .int .i64 ((tr.length + 1 : Nat) : Int)] rfl] at h8
      refine rd3 (x := (v, f, ((tr.length + 1 : Nat) : Int))) h8 ?_
      rw [hn] at e1
      simp only at e1
      rw [e1] at hR
      refine hR w8 O' oc' (v, f, ((tr.length + 1 : Nat) : Int)) (tr.length + 1) rfl hlen.symm ((x6.fresh k7 fun j hj => by rw [hj]; exact hm).fresh k8 fun j hj => by rw [hj]; exact hV) ?_ fun k hk => (hb6 k hk).1
      exact (ho6.keep k7 fun j hj => (hb6 j hj).2.2).keep k8 fun j hj => (hb6 j hj).2.1
    have next : ∀ (w7 : World) (a' : Nat) (ws' : List Int), a < a' → a' < n → nextX pkt i a ws = .inr (a', ws') → WsAt w7 m ws' [] 64 → Keep (· = m) w6 w7 → ref5_Run.L0 R A n c P pn pc ⟨V, 0, none⟩ ⟨m, 0, none⟩ O' (tr.length + 1) oc' a' w7 := by
      intro w7 a' ws' ha1 ha2 hn hM7 k7
      rw [hn] at e1
      simp only at e1
      refine ih a' (by omega) ha2 w7 O' oc' (tr.length + 1) ws' (tr ++ [a]) hlen (x6.fresh k7 fun j hj => by rw [hj]; exact hm) (k7.heap hv6 hne) hM7 (ho6.keep k7 fun j hj => (hb6 j hj).2.2) hb6 (by omega) ?_
      intro w' O2 oc2 y l hy hll x' ho' hb'
      rw [e1] at hR
      rw [List.append_assoc] at hll ho'
      exact hR w' O2 oc2 y l hy hll x' ho' hb'
    have g5 : classOf i.c = 5 → a < goalX i a ws ∧ goalX i a ws < n := fun h5 => by have := T.goalX hi hio h5 ws; omega
    refine ⟨_, hi6.c0, ifP_beq.2 ⟨fun e => ⟨_, hi6.c3, stop w6 _ _ ?_ (Keep.refl w6)⟩, fun n6 => ⟨_, hi6.c0, ifP_beq.2 ⟨fun e => ⟨_, hM6.get (i := 0) (by decide) rfl, stop w6 _ _ ?_ (Keep.refl w6)⟩, fun n22 => ⟨_, hi6.c0, ifP_beq.2 ⟨fun e => ⟨_, hi6.c3, ?_⟩, fun n5 => ⟨_, hi6.c0, rJump_spec.mono ?_⟩⟩⟩⟩⟩⟩⟩
    · rw [nextX_ret ((ret_iff _).2 (.inl e)), if_neg (by rw [e]; decide)]
    · rw [nextX_ret ((ret_iff _).2 (.inr e)), if_pos e]
    · have h5 := (jmp_iff i.c).2 (.inl e)
      obtain ⟨g1, g2⟩ := g5 h5
      have eg : goalX i a ws = a + 1 + i.k.toNat := by rw [goalX, if_pos e]
      obtain ⟨_, _, _, k0, kk1⟩ := hio
      rw [ew, wrap_i64 (x := i.k) (by omega) (by omega), wrap_i64 (by omega) (by omega), show ((a + 1 : Nat) : Int) + i.k = ((goalX i a ws : Nat) : Int) by rw [eg]; omega]
      exact next w6 _ ws g1 g2 (nextX_jump h5) hM6 (Keep.refl w6)
    rintro v w7 ⟨rfl, hw7⟩
    subst hw7
    rw [ew]
    refine ⟨_, rfl, ifP_of (fun hj => ?_) fun hj => ?_⟩
    · have hj := of_decide_eq_true hj
      have h5 := (jmp_iff i.c).2 (.inr hj)
      obtain ⟨g1, g2⟩ := g5 h5
      refine IAt.rd hi6 ⟨_, hM6.get (i := 0) (by decide) rfl, _, hM6.get (i := 1) (by decide) (by rw [add_mk]), (rholds_spec hj).mono ?_⟩
      rintro v w8 ⟨rfl, x8⟩
      have hi8 := hi6.ext x8
      obtain ⟨_, ⟨t0, t1⟩, ⟨f0, f1⟩, _⟩ := hio
      refine ⟨_, rfl, ifP_of (fun hq => ⟨_, hi8.c1, ?_⟩) fun hq => ⟨_, hi8.c0, rJump_spec.mono ?_⟩⟩
      · have eg : goalX i a ws = a + 1 + i.t.toNat := by rw [goalX, if_neg n5, if_pos hq]
        rw [wrap_i64 (x := i.t) (by omega) (by omega), wrap_i64 (by omega) (by omega), show ((a + 1 : Nat) : Int) + i.t = ((goalX i a ws : Nat) : Int) by rw [eg]; omega]
        exact next w8 _ ws g1 g2 (nextX_jump h5) (hM6.ext x8) (Keep.ext x8)
      · rintro v w9 ⟨rfl, hw9⟩
        subst hw9
        have eg : goalX i a ws = a + 1 + i.f.toNat := by rw [goalX, if_neg n5, if_neg (by rw [hq]; decide)]
        refine ⟨_, rfl, ifP_t (decide_eq_true hj) ⟨_, hi8.c2, ?_⟩⟩
        rw [wrap_i64 (x := i.f) (by omega) (by omega), wrap_i64 (by omega) (by omega), show ((a + 1 : Nat) : Int) + i.f = ((goalX i a ws : Nat) : Int) by rw [eg]; omega]
        exact next _ _ ws g1 g2 (nextX_jump h5) (hM6.ext x8) (Keep.ext x8)
    · have hnj : ¬ i.c ∈ rJumpL := by simpa using hj
      have h5 : classOf i.c ≠ 5 := fun h => ((jmp_iff i.c).1 h).elim n5 hnj
      have h6 : classOf i.c ≠ 6 := fun h => ((ret_iff i.c).1 h).elim n6 n22
      have hn6 := T.next hi h6
      refine ifP_f rfl ⟨_, hi6.c0, rJump_spec.mono ?_⟩
      rintro v w8 ⟨rfl, hw8⟩
      subst hw8
      refine ⟨_, rfl, ifP_f (decide_eq_false hnj) (IAt.rd hi6 ((rstep_spec hM6 hio hfa h5 h6 (hp.ext x6) hpn).mono ?_))⟩
      rintro v w9 ⟨rfl, hM9, k9⟩
      refine ⟨_, rfl, ifP_bne.2 ⟨fun hf => stop w9 _ _ (nextX_fault h5 h6 hf) k9, fun hf => ?_⟩⟩
      exact next w9 (a + 1) _ (Nat.lt_succ_self a) (by omega) (nextX_step h5 h6 hf) (hM9 hf) k9
theorem rrun_spec {w : World} (hx : IInsns w A n xs) (hok : Inss xs) (hn : n ≤ 281474976710656) (hp : IBytes w P pn pkt) :
    Run Try.prog 11 #[.slice A n c, .slice P pn pc] w fun v w' => ∃ O oc, v = .tuple #[vArr (verdV xs pkt), .slice O (traceV xs pkt).length oc, .int .i64 (codeV xs pkt)] ∧ OInts w' O oc (traceV xs pkt) ∧ Go.Rd.Ext w w' ∧ ∀ k, blk O k → w.heap.size ≤ k := by
  have hl := hp.len
  refine ref5_Run.ok (letA fun w1 h1 x1 s1 => (rcode_spec (hx.ext x1) hok hn hl).mono ?_)
  rintro v w2 ⟨rfl, x2⟩
  have h2 := x2.heap h1
  refine ⟨_, rfl, ifP_bne.2 ⟨fun hc => ?_, fun hc => letA fun w3 h3 x3 s3 => ?_⟩⟩
  · refine storeRow_block h2 (show 0 + 0 + 3 ≤ 3 by decide) rfl fun w7 h7 k7 _ => ?_
    rw [setFrom_all [.int .u32 0, .int .i64 0, .int .i64 0] [.int .u32 0, .int .i64 0, .int .i64 0] rfl] at h7
    refine rd3 (x := (0, 0, 0)) h7 ⟨none, 0, ?_, ?_, (x1.trans x2).fresh k7 fun j hj => by rw [hj]; exact Nat.le_refl _, fun k hk => absurd hk blk_none⟩
    · rw [traceV, if_neg hc, verdV, if_neg hc]
      rfl
    · rw [traceV, if_neg hc]
      exact Own.empty
  · obtain ⟨hc0, hlen⟩ := codeV_zero hc
    obtain ⟨T, _⟩ := taken_of hc0
    have z := x2.size
    have h0 := T.pos
    have hxl := hx.len
    refine rrun_loop (Wb := w) (V := w.heap.size) (m := w2.heap.size) hx hok T hp (by omega) (Nat.le_refl _) (by omega) (by omega) n 0 (by omega) (by omega) w3 none 0 0 ws0 [] rfl ((x1.trans x2).trans x3) (x3.heap h2) ⟨h3, ws0_ok⟩ Own.empty (fun k hk => absurd hk blk_none) (Nat.le_refl _) ?_
    intro w' O' oc' y l hy hll x' ho' hb'
    have e : runX xs pkt (n - 0) 0 ws0 = runV xs pkt := by rw [runV, hxl]; rfl
    rw [e] at hy hll ho'
    rw [List.nil_append] at hll ho'
    subst hll
    refine ⟨O', oc', ?_, ?_, x', hb'⟩
    · rw [verdV, if_pos hc, traceV, if_pos hc, hc, List.length_map, hy]
    · rw [traceV, if_pos hc]
      exact ho'
end
end Go.Proofs.Ytllooifbiapeoaa
