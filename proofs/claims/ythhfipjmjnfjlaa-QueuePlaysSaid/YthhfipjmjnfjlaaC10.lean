/- The statement over what Drain tells. -/
import Derived.Test.YthhfipjmjnfjlaaC9
namespace Go.Proofs.Ythhfipjmjnfjlaa
open Go.Rd Go.RowKit
set_option linter.unusedVariables false
set_option linter.unusedSimpArgs false

/-! ## Two queues -/

structure Two (W w : World) (p q : Nat) (Fp Fq : Nat → Prop) (cp cq : List Cls) : Prop where
  p : Since W w p Fp cp
  q : Since W w q Fq cq
  dis : ∀ k, Fp k → ¬ Fq k
section
variable {W w w' : World} {p q : Nat} {Fp Fq : Nat → Prop} {cp cq cl' : List Cls}
theorem Two.symm (t : Two W w p q Fp Fq cp cq) : Two W w q p Fq Fp cq cp := ⟨t.q, t.p, fun k hq hp => t.dis k hp hq⟩
theorem Two.ext (t : Two W w p q Fp Fq cp cq) (x : Ext w w') : Two W w' p q Fp Fq cp cq := ⟨t.p.more x, t.q.more x, t.dis⟩
theorem Two.step (t : Two W w p q Fp Fq cp cq) (s : QStep w p Fp cl' w') : ∃ F', Two W w' p q F' Fq cl' cq := by
  obtain ⟨F', ok, K, sub⟩ := s
  refine ⟨F', ⟨ok, t.p.ext.fresh K t.p.new, fun k hk => (sub k hk).elim (t.p.new k) fun h2 => by have := t.p.ext.size; omega⟩, t.q.keepX K (fun k hq hp => t.dis k hp hq) t.p.new, fun k hk hq => ?_⟩
  rcases sub k hk with h | h
  · exact t.dis k h hq
  · have := t.q.lt k hq; omega
theorem Two.put {k e : Int} {ok : Bool} {xs : List Int} {cs : Array Value} {R : Value → World → Prop} (t : Two W w p q Fp Fq cp cq) (hc : cs = (xs.map (Value.int .u8)).toArray) (hx : xs.length ≤ 100000) (hp : putQ cp k xs = ((ok, e), cl'))
    (hR : ∀ w' F', Two W w' p q F' Fq cl' cq → R (.tuple #[.bool ok, .int .i64 e]) w') :
    letW (w.alloc (.cells cs 5)) fun w1 => Run Try.prog 15 #[.pointer (some ⟨p, 0, none⟩), .int .i64 k, .slice (some (newA w)) xs.length xs.length] w1 R := by
  refine letA fun w1 h1 x1 s1 => ?_
  have i1 : IBytes w1 (some (newA w)) xs.length xs := (lit_bytes h1 hc).rd rfl
  refine (qput_spec (t.ext x1).p.ok i1 (by omega)).mono ?_
  rintro v w2 ⟨rfl, s⟩
  rw [hp] at s ⊢
  obtain ⟨F', hS⟩ := (t.ext x1).step s
  exact hR _ _ hS
end

theorem drain_set : ∀ {cl : List Cls} {i : Nat} {C C' : Cls}, cl[i]? = some C → (drainL (cl.set i C')).length + C.fr.length = (drainL cl).length + C'.fr.length
  | [], i, C, C', h => by cases h
  | D :: cl, 0, C, C', h => by
    obtain rfl : D = C := by simpa using h
    simp only [drainL, List.set_cons_zero, List.flatMap_cons, List.length_append]
    omega
  | D :: cl, i + 1, C, C', h => by
    have := drain_set (cl := cl) (i := i) (C := C) (C' := C') (by simpa using h)
    simp only [drainL, List.set_cons_succ, List.flatMap_cons, List.length_append] at this ⊢
    omega
def Small (cl : List Cls) : Prop := ∀ C ∈ cl, ∀ x ∈ C.fr, x.length ≤ 65535
theorem Small.drain {cl : List Cls} (h : Small cl) : ∀ x ∈ drainL cl, x.length ≤ 65535 := by
  intro x hx
  obtain ⟨C, hC, hx⟩ := List.mem_flatMap.1 hx
  exact h C hC x hx
theorem Small.bare (cl : List Cls) : Small (bare cl) := by
  intro C hC x hx
  obtain ⟨E, _, rfl⟩ := List.mem_map.1 hC
  cases hx
theorem putQ_some (cl : List Cls) (k : Int) (xs : List Int) : ∃ ok e cl', putQ cl k xs = ((ok, e), cl') ∧ cl'.length = cl.length ∧ (drainL cl').length ≤ (drainL cl).length + 1 ∧ (Small cl → Small cl') := by
  unfold putQ
  split
  · exact ⟨_, _, _, rfl, rfl, by omega, fun h => h⟩
  · split
    · exact ⟨_, _, _, rfl, rfl, by omega, fun h => h⟩
    · rename_i hxs
      split
      · exact ⟨_, _, _, rfl, rfl, by omega, fun h => h⟩
      · rename_i C hC
        refine ⟨_, _, _, rfl, List.length_set, ?_, fun hs E hE => ?_⟩
        case refine_2 =>
          rcases List.mem_or_eq_of_mem_set hE with hE | rfl
          · exact hs E hE
          · have hs := hs C (List.mem_of_getElem? hC)
            unfold Cls.put
            split
            · exact hs
            · intro x hx
              rcases List.mem_append.1 hx with hx | hx
              · exact hs x hx
              · rw [List.mem_singleton.1 hx]; omega
        have := drain_set (C' := (C.put xs).2) hC
        have : (C.put xs).2.fr.length ≤ C.fr.length + 1 := by
          unfold Cls.put
          split
          · simp
          · simp
        omega

theorem bare_bare (cl : List Cls) : bare (bare cl) = bare cl := by simp [bare]
theorem bare_empty (cl : List Cls) : Empty (bare cl) := by
  intro j D hj
  unfold bare at hj
  rw [List.getElem?_map] at hj
  cases h : cl[j]? with
  | none => rw [h] at hj; cases hj
  | some C => rw [h] at hj; obtain rfl := Option.some.inj hj; rfl
theorem bare_lens (cl : List Cls) : lensOf (bare cl) = List.replicate cl.length 0 := by
  unfold lensOf bare
  rw [List.map_map]
  apply List.ext_getElem?
  intro j
  rw [List.getElem?_map]
  by_cases hj : j < cl.length
  · rw [List.getElem?_eq_getElem hj, List.getElem?_replicate, if_pos hj]; rfl
  · rw [List.getElem?_eq_none (by omega), List.getElem?_replicate, if_neg hj]; rfl
theorem no_first {cl : List Cls} (h : drainL cl = []) {i : Nat} {x : List Int} {cl' : List Cls} : ¬ First cl i x cl' := fun hf => by rw [hf.drain.1] at h; cases h
theorem ints_zero {w : World} {c : Int} (h0 : 0 ≤ c) (h1 : c ≤ 100000) :
    ∃ A w', (Instr.makeSlice 22 (.int .i64 c) (.int .i64 c)).run Try.prog w = .ok (.slice A c.toNat c.toNat) w' ∧ IInts w' A c.toNat (List.replicate c.toNat 0) ∧ Ext w w' := by
  obtain ⟨w', hr, o, x, _⟩ := make_full slInts rfl (w := w) (c := c) (by omega) (by omega) (by omega)
  refine ⟨_, w', hr, ?_, x⟩
  have e : List.replicate c.toNat (Value.int .i64 0) = (List.replicate c.toNat (0 : Int)).map (Value.int .i64) := by simp
  rw [e] at o
  exact o.rd (by simp)

section
variable {W : World} {D : Option Addr} {n dc : Nat} {ds : List Int} {B : Option Addr} {m bc : Nat} {ps : List Int} {p q : Nat}

/-- Drain's answer against Take's, one by one. -/
theorem drains_four (h1n : 1 ≤ n) (h17 : n ≤ 17) {round : Int} (hm : m ≤ 250) (hnext : ∀ w Fp Fq cl, Two W w p q Fp Fq (bare cl) (bare cl) → cl.length = n → law21_QueueDrains.L0 (Good W) D n dc B m bc (some ⟨p, 0, none⟩) (some ⟨q, 0, none⟩) (IntKind.i64.wrap (round + 1)) w)
    {cl : List Cls} (hcl : cl.length = n) (hsm : Small cl) {A : Option Addr} {an ac : Nat} {qs : List Part} (ha : an ≤ 1000) :
    ∀ (d i : Nat), an - i = d → i ≤ an → ∀ (w : World) (Fp Fq : Nat → Prop) (cq : List Cls), Two W w p q Fp Fq (bare cl) cq → FOk w A an ac qs (drainL cl) → (∀ k, ffp A ac qs k → ¬ Fq k) → drainL cq = (drainL cl).drop i → bare cq = bare cl →
      law21_QueueDrains.L4 (Good W) D n dc B m bc (some ⟨p, 0, none⟩) (some ⟨q, 0, none⟩) round A an ac i w := by
  intro d
  induction d with
  | zero =>
    intro i hd hi w Fp Fq cq t hf hdis hdr hbr
    have hdl := hf.length
    have hq0 : drainL cq = [] := by rw [hdr, List.drop_eq_nil_iff]; omega
    refine law21_QueueDrains.L4_step (ifP_no (by omega) ((take_spec t.q.ok).mono ?_))
    rintro v w1 (⟨_, rfl, x1⟩ | ⟨j, x, cl2, A2, n2, c2, F2, hfi, _⟩)
    case inr => exact absurd hfi (no_first hq0)
    have t1 := t.ext x1
    refine ⟨_, _, _, _, _, rfl, (take_spec t1.p.ok).mono ?_⟩
    rintro v w2 (⟨_, rfl, x2⟩ | ⟨j, x, cl2, A2, n2, c2, F2, hfi, _⟩)
    case inr => exact absurd hfi (no_first (bare_empty cl).drain.1)
    have t2 := t1.ext x2
    refine ⟨_, _, _, _, _, rfl, letD fun w3 _ x3 => ifP_f rfl (ifP_f rfl ?_)⟩
    have t3 := t2.ext x3
    have hcq : cq = bare cl := by
      have he : Empty cq := fun j E hj => by
        have := List.flatMap_eq_nil_iff.1 hq0 E (List.mem_of_getElem? hj)
        exact this
      rw [← hbr, he.drain.2]
    have hbl : (bare cl).length = n := by unfold bare; rw [List.length_map]; exact hcl
    have el : lensOf (bare cl) = List.replicate n 0 := by rw [bare_lens, hcl]
    have hn0 : ((n : Nat) : Int).toNat = n := Int.toNat_natCast n
    have fin : ∀ w', Ext w3 w' → law21_QueueDrains.J3 (Good W) D n dc B m bc (some ⟨p, 0, none⟩) (some ⟨q, 0, none⟩) round false w' := fun w' x => by
      have t' := t3.ext x
      rw [hcq] at t'
      exact ifP_f rfl (hnext w' Fp Fq cl t' hcl)
    refine ⟨(lens_spec t3.p.ok).mono ?_, ?_⟩
    · rintro v w4 ⟨A4, c4, rfl, o4, l4, b4, x4⟩
      obtain ⟨A5, w5, hr, i5, x5⟩ := ints_zero (w := w4) (c := (n : Int)) (by omega) (by omega)
      refine ⟨_, _, _, rfl, _, w5, hr, _, _, _, rfl, (sameInts_spec ((o4.ext x5).rd l4) i5 (by omega)).mono ?_⟩
      rintro v w6 ⟨rfl, x6⟩
      refine ⟨_, rfl, ?_⟩
      rw [el, hn0]
      simpa using fin w6 ((x4.trans x5).trans x6)
    · obtain ⟨A5, w5, hr, i5, x5⟩ := ints_zero (w := w3) (c := (n : Int)) (by omega) (by omega)
      refine ⟨_, w5, hr, _, _, _, rfl, (lens_spec (t3.ext x5).p.ok).mono ?_⟩
      rintro v w4 ⟨A4, c4, rfl, o4, l4, b4, x4⟩
      refine ⟨_, _, _, rfl, (sameInts_spec (o4.rd l4) (i5.ext x4) (by omega)).mono ?_⟩
      rintro v w6 ⟨rfl, x6⟩
      refine ⟨_, rfl, ?_⟩
      rw [el, hn0]
      simpa using fin w6 ((x5.trans x4).trans x6)
  | succ d ih =>
    intro i hd hi w Fp Fq cq t hf hdis hdr hbr
    have hdl := hf.length
    have hilt : i < an := by omega
    refine law21_QueueDrains.L4_step (ifP_yes (by omega) ((take_spec t.q.ok).mono ?_))
    rintro v w1 (⟨he, rfl, x1⟩ | ⟨j, x, cl2, A2, n2, c2, F2, hfi, rfl, ok1, o1, l1, k1, s1, d1⟩)
    · exfalso
      have := he.drain.1
      rw [hdr, List.drop_eq_nil_iff] at this
      omega
    have hd2 := hfi.drain
    rw [hdr, List.drop_eq_getElem_cons (by omega)] at hd2
    obtain ⟨e1, e2⟩ := List.cons.inj hd2.1
    have f1 := hf.keep k1 hdis
    have t1 : Two W w1 p q Fp F2 (bare cl) cl2 :=
      ⟨t.p.keepX k1 (fun k hp hq => t.dis k hp hq) t.q.new, ⟨ok1, t.q.ext.fresh k1 t.q.new, fun k hk => t.q.new k (s1 k hk)⟩, fun k hp hq => t.dis k hp (s1 k hq)⟩
    refine ⟨_, _, _, _, _, rfl, ifP_f rfl ⟨by omega, by omega, ?_⟩⟩
    have hqi : i < qs.length := by rw [f1.len]; exact hilt
    have hpart := f1.part _ (List.getElem_mem hqi)
    have hxs : (qs[i]'hqi).xs = x := by
      have h3 : (qs.map (·.xs))[i]? = (drainL cl)[i]? := by rw [f1.frs]
      rw [List.getElem?_map, List.getElem?_eq_getElem hqi, List.getElem?_eq_getElem (by omega)] at h3
      have := Option.some.inj h3
      rw [← e1]; exact this
    obtain ⟨a, ha2, hc⟩ := (f1.own.cells) i ((qs[i]'hqi).v) (by rw [List.getElem?_map, List.getElem?_eq_getElem hqi]; rfl)
    refine ⟨a, ha2, (qs[i]'hqi).A, (qs[i]'hqi).n, (qs[i]'hqi).c, by rw [Int.toNat_natCast, Nat.mul_one]; exact hc, ?_⟩
    have ix : IBytes w1 (qs[i]'hqi).A (qs[i]'hqi).n x := by
      rw [← hxs]
      exact hpart.1.rd hpart.2
    have hx2 := ix.len
    have hsz := hsm.drain x (by rw [← e1]; exact List.getElem_mem _)
    refine (sameBytes_spec (o1.rd l1) ix (by omega)).mono ?_
    rintro v w2 ⟨rfl, x2⟩
    refine ⟨_, rfl, ?_⟩
    have hw : IntKind.i64.wrap ((i : Int) + 1) = ((i + 1 : Nat) : Int) := wrap_i64 (by omega) (by omega)
    have := ih (i + 1) (by omega) (by omega) w2 Fp F2 cl2 (t1.ext x2) (f1.ext x2) (fun k hk hq => hdis k hk (s1 k hq)) (by rw [← e2]) (by rw [hd2.2, hbr])
    refine ifP_f (by simp) ?_
    rw [hw]
    exact this

/-- Both are filled alike. -/
theorem drains_two (h1n : 1 ≤ n) (h17 : n ≤ 17) {round : Int} (hm : m ≤ 250) (hb : IInts W B m ps) (hnext : ∀ w Fp Fq cl, Two W w p q Fp Fq (bare cl) (bare cl) → cl.length = n → law21_QueueDrains.L0 (Good W) D n dc B m bc (some ⟨p, 0, none⟩) (some ⟨q, 0, none⟩) (IntKind.i64.wrap (round + 1)) w) :
    ∀ (d i : Nat), m - i = d → i ≤ m → ∀ (w : World) (Fp Fq : Nat → Prop) (cl : List Cls), Two W w p q Fp Fq cl cl → cl.length = n → Small cl → (drainL cl).length ≤ i →
      law21_QueueDrains.L2 (Good W) D n dc B m bc (some ⟨p, 0, none⟩) (some ⟨q, 0, none⟩) round i w := by
  intro d
  induction d with
  | zero =>
    intro i hd hi w Fp Fq cl t hcl hs hdl
    refine law21_QueueDrains.L2_step (ifP_no (by omega) ((drain_spec t.p.ok (by omega)).mono ?_))
    rintro v w1 ⟨A, an, ac, qs, F1, rfl, hf, ok1, k1, s1, d1⟩
    have t1 : Two W w1 p q F1 Fq (bare cl) cl :=
      ⟨⟨ok1, t.p.ext.fresh k1 t.p.new, fun k hk => t.p.new k (s1 k hk)⟩, t.q.keepX k1 (fun k hq hp => t.dis k hp hq) t.p.new, fun k hp => t.dis k (s1 k hp)⟩
    have han := hf.length
    exact ⟨_, _, _, rfl, drains_four h1n h17 hm hnext hcl hs (by omega) an 0 rfl (by omega) w1 F1 Fq cl t1 hf (fun k hk hq => (d1 k hk).1.elim (fun h => t.dis k h hq) fun h => by have := t.q.lt k hq; omega) (by simp) rfl⟩
  | succ d ih =>
    intro i hd hi w Fp Fq cl t hcl hs hdl
    have hlt : i < m := by omega
    obtain ⟨a, ha, hc⟩ := (hb.ext t.p.ext).at hlt
    refine law21_QueueDrains.L2_step (ifP_yes (by omega) ⟨by omega, by omega, a, ha, _, by rw [Int.toNat_natCast]; exact hc, low_spec.mono ?_⟩)
    rintro v w1 ⟨rfl, rfl⟩
    refine ⟨_, rfl, by omega, ?_⟩
    generalize Int.tmod (lowV _) (n : Int) = c
    obtain ⟨ok, e, cl', hp, hl', hd', hs'⟩ := putQ_some cl c [IntKind.u8.wrap i, IntKind.u8.wrap c]
    refine Two.put (xs := [IntKind.u8.wrap i, IntKind.u8.wrap c]) t rfl (by simp) hp fun w2 F2 t2 => ⟨_, _, rfl, ?_⟩
    refine Two.put (xs := [IntKind.u8.wrap i, IntKind.u8.wrap c]) t2.symm rfl (by simp) hp fun w3 F3 t3 => ⟨_, _, rfl, ifP_f (by simp) ?_⟩
    have hw : IntKind.i64.wrap ((i : Int) + 1) = ((i + 1 : Nat) : Int) := wrap_i64 (by omega) (by omega)
    rw [hw]
    exact ih (i + 1) (by omega) (by omega) w3 F2 F3 cl' t3.symm (by rw [hl', hcl]) (hs' hs) (by omega)

theorem drains_zero (h1n : 1 ≤ n) (h17 : n ≤ 17) (hm : m ≤ 250) (hb : IInts W B m ps) :
    ∀ (d i : Nat), 2 - i = d → i ≤ 2 → ∀ (w : World) (Fp Fq : Nat → Prop) (cl : List Cls), Two W w p q Fp Fq (bare cl) (bare cl) → cl.length = n →
      law21_QueueDrains.L0 (Good W) D n dc B m bc (some ⟨p, 0, none⟩) (some ⟨q, 0, none⟩) i w := by
  intro d
  induction d with
  | zero =>
    intro i hd hi w Fp Fq cl t hcl
    refine law21_QueueDrains.L0_step (ifP_no (by omega) (awake_spec.mono ?_))
    rintro v w1 ⟨rfl, x1⟩
    exact ⟨_, rfl, rfl, Fr.of_ext (t.p.ext.trans x1)⟩
  | succ d ih =>
    intro i hd hi w Fp Fq cl t hcl
    have hbl : (bare cl).length = n := by unfold bare; rw [List.length_map]; exact hcl
    refine law21_QueueDrains.L0_step (ifP_yes (by omega) (drains_two h1n h17 hm hb (fun w' Fp' Fq' cl' t' hcl' => ?_) m 0 rfl (by omega) w Fp Fq (bare cl) t hbl (Small.bare cl) (by rw [(bare_empty cl).drain.1]; exact Nat.le_refl _)))
    have hw : IntKind.i64.wrap ((i : Int) + 1) = ((i + 1 : Nat) : Int) := wrap_i64 (by omega) (by omega)
    rw [hw]
    exact ih (i + 1) (by omega) (by omega) w' Fp' Fq' cl' t' hcl'

theorem QueueDrains_main (h : IInts W D n ds) (hn : n * 8 ≤ 140737488351232) (hb : IInts W B m ps) : Run Try.prog 5 #[.slice D n dc, .slice B m bc] W (Good W) := by
  have hl := h.len
  refine law21_QueueDrains.ok ((copyInts_spec h (by omega)).mono ?_)
  rintro v w1 ⟨A1, c1, rfl, o1, l1, b1, x1⟩
  refine ⟨_, _, _, rfl, (qnew_spec (o1.rd l1) (by omega)).mono ?_⟩
  intro v w2 h2
  have stop : ∀ {P Q : Option Addr} {e : Int} {w : World}, Ext W w → law21_QueueDrains.J0 (Good W) D n dc B m bc P e Q e true w := by
    intro P Q e w x
    refine ifP_t rfl (ifP_t (by simp) (awake_spec.mono ?_))
    rintro v w1 ⟨rfl, x1⟩
    exact ⟨_, rfl, rfl, Fr.of_ext (x.trans x1)⟩
  rcases h2 with ⟨hm, p, F, rfl, ok2, x2, f2⟩ | ⟨hm, rfl, x2⟩
  · have sp : Since W w2 p F (ds.map fresh) := ⟨ok2, x1.trans x2, fun k hk => by have := f2 k hk; have := x1.size; omega⟩
    refine ⟨_, _, rfl, (copyInts_spec (h.ext sp.ext) (by omega)).mono ?_⟩
    rintro v w3 ⟨A3, c3, rfl, o3, l3, b3, x3⟩
    refine ⟨_, _, _, rfl, (qnew_spec (o3.rd l3) (by omega)).mono ?_⟩
    rintro v w4 (⟨_, q, G, rfl, ok4, x4, f4⟩ | ⟨hm2, _⟩)
    case inr => exact absurd hm hm2
    have sp4 := (sp.more x3).more x4
    have t : Two W w4 p q F G (ds.map fresh) (ds.map fresh) :=
      ⟨sp4, ⟨ok4, sp4.ext, fun k hk => by have := f4 k hk; have := x3.size; have := sp.ext.size; omega⟩, fun k hp hq => by have := f4 k hq; have := (sp.more x3).lt k hp; omega⟩
    have eb : bare (ds.map fresh) = ds.map fresh := by unfold bare; rw [List.map_map]; rfl
    rw [← eb] at t
    refine ⟨_, _, rfl, ifP_bne.2 ⟨fun h => absurd rfl h, fun _ => ifP_bne.2 ⟨fun h => absurd rfl h, fun _ => ifP_f rfl (ifP_f rfl ?_)⟩⟩⟩
    by_cases hbig : (m : Int) > 250
    · rw [decide_eq_true hbig]
      exact stop t.p.ext
    · rw [decide_eq_false hbig]
      exact ifP_f rfl (drains_zero (by have := hm.1; omega) (by have := hm.2.1; omega) (by omega) hb 2 0 rfl (by omega) w4 F G _ t (by rw [List.length_map]; exact hl))
  · have x02 := x1.trans x2
    refine ⟨_, _, rfl, (copyInts_spec (h.ext x02) (by omega)).mono ?_⟩
    rintro v w3 ⟨A3, c3, rfl, o3, l3, b3, x3⟩
    refine ⟨_, _, _, rfl, (qnew_spec (o3.rd l3) (by omega)).mono ?_⟩
    rintro v w4 (⟨hm2, _⟩ | ⟨_, rfl, x4⟩)
    · exact absurd hm2 hm
    exact ⟨_, _, rfl, ifP_bne.2 ⟨fun _ => stop ((x02.trans x3).trans x4), fun h => by cases h⟩⟩
end
end Go.Proofs.Ythhfipjmjnfjlaa
