/- The statement that a program's graph runs as the program. -/
import Derived.Test.YtbchjihecdkfeaaA11
import Derived.Test.YtbchjihecdkfeaaA19
namespace Go.Proofs.Ytbchjihecdkfeaa
open Go.Rd Go.RowKit
set_option linter.unusedVariables false
set_option linter.unusedSimpArgs false
set_option maxRecDepth 100000
theorem run_lt {xs : List Ins} {pkt : List Int} : ∀ (f a : Nat) (ws : List Int), ∀ p ∈ (runX xs pkt f a ws).2, p < xs.length
  | 0, a, ws, p, hp => by cases hp
  | f + 1, a, ws, p, hp => by
    rw [runX] at hp
    cases hi : xs[a]? with
    | none => rw [hi] at hp; cases hp
    | some i =>
      rw [hi] at hp
      have ha := (List.getElem?_eq_some_iff.1 hi).1
      simp only at hp
      cases hn : nextX pkt i a ws with
      | inl r =>
        rw [hn] at hp
        have : p = a := by simpa using hp
        omega
      | inr r =>
        rw [hn] at hp
        rcases List.mem_cons.1 hp with h | h
        · omega
        · exact run_lt f r.1 r.2 p h
theorem jaN_take {xs : List Ins} {tr : List Nat} {k p : Nat} {i : Ins} (hp : tr[k]? = some p) (hi : xs[p]? = some i) : jaN xs (tr.take (k + 1)) = jaN xs (tr.take k) + if i.c = 5 then 1 else 0 := by
  rw [List.take_add_one, hp]
  unfold jaN
  rw [List.countP_append]
  show _ + List.countP _ [p] = _
  rw [List.countP_cons, hi]
  by_cases h : i.c = 5 <;> simp [h]
theorem jaN_le (xs : List Ins) (tr : List Nat) : jaN xs tr ≤ tr.length := List.countP_le_length
/-- Where the instructions of the blocks lie in the program. -/
def Pos (xs : List Ins) (b a : Nat) : Prop := a = b ∨ (a = b + 1 ∧ ∃ i, xs[b]? = some i ∧ i.c = 5)
theorem pos_ja {xs : List Ins} {b : Nat} {i l : Ins} (hb : b < xs.length) (hi : xs[b]? = some i) (h5 : i.c = 5) (hl : xs[endN xs b - 1]? = some l) : endN xs b = b + 1 ∧ l = i := by
  obtain ⟨e1, e2⟩ := endN_gt hb
  have hld : leadB xs (b + 1) = true := leadB_true.2 (.inr ⟨b, i, hb, hi, .inl ⟨.inl (by rw [h5]; rfl), rfl⟩⟩)
  have he : endN xs b = b + 1 := by
    rcases Nat.lt_or_ge (b + 1) (endN xs b) with h | h
    · rw [endN_none (a := b) (by omega) h] at hld
      cases hld
    · omega
  refine ⟨he, ?_⟩
  rw [he, Nat.add_sub_cancel, hi] at hl
  exact (Option.some.inj hl).symm
theorem blockX_get {xs : List Ins} {b k : Nat} {l : Ins} (hb : b < xs.length) (hl : xs[endN xs b - 1]? = some l) {y : Ins} (hk : (blockX xs b (endN xs b) l).code[k]? = some y) : xs[b + k]? = some y := by
  obtain ⟨e1, e2⟩ := endN_gt hb
  have h1 : ((xs.take (endN xs b - 1)).drop b).length = endN xs b - 1 - b := by rw [List.length_drop, List.length_take]; omega
  have pre : ∀ k y, ((xs.take (endN xs b - 1)).drop b)[k]? = some y → xs[b + k]? = some y := by
    intro k y h
    rw [List.getElem?_drop, List.getElem?_take] at h
    split at h
    · exact h
    · cases h
  rcases blockX_code (xs := xs) (a := b) (e := endN xs b) (l := l) with hc | ⟨_, hc⟩
  · rw [hc] at hk
    exact pre k y hk
  · rw [hc] at hk
    by_cases h : k < endN xs b - 1 - b
    · rw [List.getElem?_append_left (by omega)] at hk
      exact pre k y hk
    · rw [List.getElem?_append_right (by omega), h1] at hk
      have hk0 : k = endN xs b - 1 - b := by
        have := (List.getElem?_eq_some_iff.1 hk).1
        simp at this
        omega
      rw [hk0, Nat.sub_self] at hk
      have : l = y := by simpa using hk
      rw [hk0, show b + (endN xs b - 1 - b) = endN xs b - 1 by omega, hl, this]
section
variable {W : World} {A P : Option Addr} {n c pn pc : Nat} {xs : List Ins} {pkt : List Int}
theorem layout (hx : IInsns W A n xs) (T : Taken xs) {w₀ : World} (x₀ : Go.Rd.Ext W w₀) {Q : Option Addr} {qc : Nat} {qs : List BP} (hq : IBl w₀ Q qs.length qs) (hs : qs.length ≤ 4096) (hsn : ∀ p ∈ qs, p.n ≤ 4096) :
    ∀ (d b a j : Nat), xs.length - b ≤ d → b ≤ xs.length → (b < xs.length → leadB xs b = true) → Pos xs b a → ∀ (pre : List Blk), blks qs = pre ++ ofFrom xs (xs.length - b) b → pre.length = j → ∀ (w' : World), Go.Rd.Ext w₀ w' → law15_GraphSame.L2 (Good W) A n c Q qs.length qc (a : Int) (j : Int) w' := by
  have hl := hx.len
  subst hl
  have hle := T.le
  intro d
  -- the end
  have stop : ∀ (a j : Nat), Pos xs xs.length a → j = qs.length → ∀ (w' : World), Go.Rd.Ext w₀ w' → law15_GraphSame.L2 (Good W) A xs.length c Q qs.length qc (a : Int) (j : Int) w' := by
    intro a j hp hj w' x
    have ha : a = xs.length := by
      rcases hp with h | ⟨_, i, hi, _⟩
      · exact h
      · rw [List.getElem?_eq_none (Nat.le_refl _)] at hi
        cases hi
    refine law15_GraphSame.L2_step (ifP_no (by omega) (ifP_eq (by omega) (gawake_spec.mono ?_)))
    rintro v w2 ⟨rfl, x2⟩
    exact ⟨_, rfl, rfl, Fr.of_ext ((x₀.trans x).trans x2)⟩
  induction d with
  | zero =>
    intro b a j hd hb hlb hp pre hpre hj w' x
    obtain rfl : b = xs.length := by omega
    rw [ofFrom_end _ _ (Nat.le_refl _), List.append_nil] at hpre
    refine stop a j hp ?_ w' x
    rw [← hj, ← hpre, blks, List.length_map]
  | succ d ih =>
    intro b a j hd hb hlb hp pre hpre hj w' x
    by_cases hbn : b = xs.length
    · subst hbn
      rw [ofFrom_end _ _ (Nat.le_refl _), List.append_nil] at hpre
      refine stop a j hp ?_ w' x
      rw [← hj, ← hpre, blks, List.length_map]
    have hb : b < xs.length := by omega
    obtain ⟨e1, e2⟩ := endN_gt hb
    obtain ⟨l, hle'⟩ : ∃ l, xs[endN xs b - 1]? = some l := ⟨_, List.getElem?_eq_getElem (by omega)⟩
    rw [ofFrom_at hb (Nat.le_refl _) hle', ofFrom_fuel (xs.length - b - 1) (xs.length - endN xs b) (endN xs b) (by omega) (by omega)] at hpre
    have hBj : (blks qs)[j]? = some (blockX xs b (endN xs b) l) := by
      rw [hpre, List.getElem?_append_right (by omega), hj, Nat.sub_self]
      rfl
    have hjl : j < qs.length := by
      have := (List.getElem?_eq_some_iff.1 hBj).1
      rwa [blks, List.length_map] at this
    obtain ⟨p, hpj⟩ : ∃ p, qs[j]? = some p := ⟨_, List.getElem?_eq_getElem hjl⟩
    have hpb : p.b = blockX xs b (endN xs b) l := by
      rw [blks, List.getElem?_map, hpj] at hBj
      exact Option.some.inj hBj
    have hpm := List.mem_of_getElem? hpj
    have hpn := hsn p hpm
    have hcl : p.b.code.length = p.n := (hq.code p hpm).len
    have h1 : ((xs.take (endN xs b - 1)).drop b).length = endN xs b - 1 - b := by rw [List.length_drop, List.length_take]; omega
    obtain ⟨q, p', hqe, hp', _⟩ := hq.at8 hjl
    obtain rfl : p' = p := by rw [hpj] at hp'; exact (Option.some.inj hp').symm
    have at8 : ∀ u, Go.Rd.Ext w₀ u → At8 u (q.add (j * 8)) p' := fun u xu => by
      obtain ⟨q2, p2, hq2, hp2, h8⟩ := (hq.ext xu).at8 hjl
      rw [hqe] at hq2; rw [hpj] at hp2
      obtain rfl := Option.some.inj hq2
      obtain rfl := Option.some.inj hp2
      exact h8
    have htj : Int.toNat ((j : Nat) : Int) = j := Int.toNat_natCast j
    have posle : a ≤ b + 1 := by rcases hp with h | ⟨h, _⟩ <;> omega
    -- behind a block
    have next : ∀ (a' : Nat), Pos xs (endN xs b) a' → ∀ (w2 : World), Go.Rd.Ext w₀ w2 → law15_GraphSame.J5 (Good W) A xs.length c Q qs.length qc (a' : Int) (j : Int) w2 := by
      intro a' hp2 w2 x2
      unfold law15_GraphSame.J5
      rw [wrap_i64 (by omega) (by omega)]
      refine ih (endN xs b) a' (j + 1) (by omega) e2 (fun h => endN_lead hb h) hp2 (pre ++ [blockX xs b (endN xs b) l]) ?_ (by rw [List.length_append, hj]; rfl) w2 x2
      rw [hpre, List.append_assoc]
      rfl
    have j4 : ∀ (a' : Nat) (t : Bool), a' ≤ 10000 → (t = true → Pos xs (endN xs b) (a' + 1)) → (t = false → Pos xs (endN xs b) a') → ∀ (w2 : World), Go.Rd.Ext w₀ w2 → law15_GraphSame.J4 (Good W) A xs.length c Q qs.length qc (a' : Int) (j : Int) t w2 := by
      intro a' t ha' ht hf w2 x2
      refine ifP_of (fun h => ?_) fun h => next a' (hf h) w2 x2
      rw [wrap_i64 (by omega) (by omega)]
      exact next (a' + 1) (ht h) w2 x2
    refine law15_GraphSame.L2_step (ifP_yes (by omega) ?_)
    suffices I : ∀ (e k : Nat), p'.n - k = e → k ≤ p'.n → ∀ (w2 : World), Go.Rd.Ext w₀ w2 → law15_GraphSame.L4 (Good W) A xs.length c Q qs.length qc ((a + k : Nat) : Int) (j : Int) (k : Int) w2 from I p'.n 0 rfl (Nat.zero_le _) w' x
    intro e
    induction e with
    | zero =>
      intro k he hk w2 x2
      have hkn : k = p'.n := by omega
      refine law15_GraphSame.L4_step ⟨by omega, by omega, q, hqe, ?_⟩
      rw [htj]
      refine ⟨_, _, _, (at8 w2 x2).s, ifP_no (by omega) ⟨by omega, by omega, q, hqe, _, (at8 w2 x2).e, ?_⟩⟩
      have codeAt : ∀ (i : Nat) {g : Int}, g = (i : Int) → i < xs.length → ∃ y, xs[i]? = some y ∧ (0 ≤ g ∧ g < ((xs.length : Nat) : Int) ∧ ∃ t : Addr, A = some t ∧ w2.cell? (t.add (Int.toNat g * 4)) = some (.int .u16 y.c)) := by
        intro i g hg hi
        obtain ⟨t, y, ht, hy, h4⟩ := IInsns.at4 (RdM.ext hx (x₀.trans x2)) (i := i) hi
        exact ⟨y, hy, by omega, by omega, t, ht, by rw [hg, Int.toNat_natCast]; exact h4.c⟩
      by_cases c5 : l.c = 5
      · -- a Ja
        have h6 : classOf l.c ≠ 6 := by rw [c5]; decide
        have hB : p'.b.e = 2 ∧ p'.b.code = (xs.take (endN xs b - 1)).drop b := by
          rw [hpb]
          unfold blockX
          rw [if_neg h6, if_pos c5]
          exact ⟨rfl, rfl⟩
        have hn : p'.n = endN xs b - 1 - b := by rw [← hcl, hB.2, h1]
        rw [hB.1]
        refine ifP_nne rfl ?_
        rcases hp with rfl | ⟨rfl, i, hi, hi5⟩
        · have hak : a + k = endN xs a - 1 := by omega
          obtain ⟨y, hy, g0, g1, t, ht, hc⟩ := codeAt (endN xs a - 1) (g := ((a + k : Nat) : Int)) (by omega) (by omega)
          rw [hle'] at hy
          obtain rfl := Option.some.inj hy
          refine ifP_yes (by omega) ⟨g0, g1, t, ht, _, hc, j4 (a + k) _ (by omega) (fun _ => .inl (by omega)) (fun h => ?_) w2 x2⟩
          rw [c5] at h
          cases h
        · obtain ⟨f1, f2⟩ := pos_ja hb hi hi5 hle'
          by_cases hlt : b + 1 < xs.length
          · obtain ⟨y, hy, g0, g1, t, ht, hc⟩ := codeAt (b + 1) (g := ((b + 1 + k : Nat) : Int)) (by omega) hlt
            refine ifP_yes (by omega) ⟨g0, g1, t, ht, _, hc, j4 (b + 1 + k) _ (by omega) (fun h => .inr ⟨by omega, y, by rw [f1]; exact hy, by simpa using h⟩) (fun _ => .inl (by omega)) w2 x2⟩
          · exact ifP_no (by omega) (j4 (b + 1 + k) false (by omega) (fun h => by cases h) (fun _ => .inl (by omega)) w2 x2)
      · have hpos : a = b := by
          rcases hp with h | ⟨_, i, hi, hi5⟩
          · exact h
          · obtain ⟨_, f2⟩ := pos_ja hb hi hi5 hle'
            rw [f2] at c5
            exact absurd hi5 c5
        subst hpos
        by_cases h56 : classOf l.c = 5 ∨ classOf l.c = 6
        · have hB : p'.b.e ≠ 2 ∧ p'.b.code = (xs.take (endN xs a - 1)).drop a := by
            rw [hpb]
            unfold blockX
            by_cases h6 : classOf l.c = 6
            · rw [if_pos h6]
              exact ⟨show (1 : Int) ≠ 2 by decide, rfl⟩
            · rw [if_neg h6, if_neg c5, if_pos (h56.resolve_right h6)]
              exact ⟨show (3 : Int) ≠ 2 by decide, rfl⟩
          have hn : p'.n = endN xs a - 1 - a := by rw [← hcl, hB.2, h1]
          exact ifP_ne hB.1 (j4 (a + k) true (by omega) (fun _ => .inl (by omega)) (fun h => by cases h) w2 x2)
        · have h5 : classOf l.c ≠ 5 := fun h => h56 (.inl h)
          have h6 : classOf l.c ≠ 6 := fun h => h56 (.inr h)
          have hnx := T.next hle' h6
          have hB : p'.b.e = 2 ∧ p'.b.code = (xs.take (endN xs a - 1)).drop a ++ [l] := by
            rw [hpb]
            unfold blockX
            rw [if_neg h6, if_neg c5, if_neg h5]
            exact ⟨rfl, rfl⟩
          have hn : p'.n = endN xs a - a := by
            rw [← hcl, hB.2, List.length_append, h1]
            show endN xs a - 1 - a + 1 = _
            omega
          rw [hB.1]
          obtain ⟨y, hy, g0, g1, t, ht, hc⟩ := codeAt (endN xs a) (g := ((a + k : Nat) : Int)) (by omega) (by omega)
          refine ifP_nne rfl (ifP_yes (by omega) ⟨g0, g1, t, ht, _, hc, j4 (a + k) _ (by omega) (fun h => .inr ⟨by omega, y, hy, by simpa using h⟩) (fun _ => .inl (by omega)) w2 x2⟩)
    | succ e ihe =>
      intro k he hk w2 x2
      obtain ⟨y, hy⟩ : ∃ y, p'.b.code[k]? = some y := ⟨_, List.getElem?_eq_getElem (by omega)⟩
      have hyx := blockX_get hb hle' (show (blockX xs b (endN xs b) l).code[k]? = some y by rw [← hpb]; exact hy)
      have hpos : a = b := by
        rcases hp with h | ⟨_, i, hi, hi5⟩
        · exact h
        · obtain ⟨f1, f2⟩ := pos_ja hb hi hi5 hle'
          have c5 : l.c = 5 := by rw [f2]; exact hi5
          have h6 : classOf l.c ≠ 6 := by rw [c5]; decide
          have hc : p'.b.code = (xs.take (endN xs b - 1)).drop b := by
            rw [hpb]
            unfold blockX
            rw [if_neg h6, if_pos c5]
          rw [hc, h1] at hcl
          omega
      subst hpos
      have hak := (List.getElem?_eq_some_iff.1 hyx).1
      refine law15_GraphSame.L4_step ⟨by omega, by omega, q, hqe, ?_⟩
      rw [htj]
      have ht : Int.toNat ((a + k : Nat) : Int) = a + k := Int.toNat_natCast (a + k)
      have htk : Int.toNat ((k : Nat) : Int) = k := Int.toNat_natCast k
      rw [ht, htk]
      obtain ⟨t, y1, hta, hy1, _⟩ := IInsns.at4 (RdM.ext hx (x₀.trans x2)) (i := a + k) hak
      obtain rfl : y1 = y := by rw [hyx] at hy1; exact (Option.some.inj hy1).symm
      obtain ⟨s, y2, hsa, hy2, _⟩ := IInsns.at4 (RdM.ext (hq.code p' hpm) x2) (i := k) (by omega)
      obtain rfl : y2 = y1 := by rw [hy] at hy2; exact (Option.some.inj hy2).symm
      have a4 : ∀ u, Go.Rd.Ext w2 u → At4 u (t.add ((a + k) * 4)) y2 := fun u xu => by
        obtain ⟨t', z, ht', hz, h4⟩ := IInsns.at4 (RdM.ext hx ((x₀.trans x2).trans xu)) (i := a + k) hak
        rw [hta] at ht'; rw [hyx] at hz
        obtain rfl := Option.some.inj ht'
        obtain rfl := Option.some.inj hz
        exact h4
      have b4 : ∀ u, Go.Rd.Ext w2 u → At4 u (s.add (k * 4)) y2 := fun u xu => by
        obtain ⟨t', z, ht', hz, h4⟩ := IInsns.at4 (RdM.ext (hq.code p' hpm) (x2.trans xu)) (i := k) (by omega)
        rw [hsa] at ht'; rw [hy] at hz
        obtain rfl := Option.some.inj ht'
        obtain rfl := Option.some.inj hz
        exact h4
      refine ⟨_, _, _, (at8 w2 x2).s, ifP_yes (by omega) ⟨fun u => Go.Rd.Ext w2 u, Go.Rd.Ext.drew w2, letD fun w3 _ x3 => ifP_no (by omega) ⟨by omega, by omega, t, hta, ?_⟩⟩⟩
      refine ⟨_, fun u hu => (a4 u hu).c, _, fun u hu => (a4 u hu).t, _, fun u hu => (a4 u hu).f, _, fun u hu => (a4 u hu).k, by omega, by omega, q, hqe, _, _, _, fun u hu => (at8 u (x2.trans hu)).s, by omega, by omega, s, hsa, ?_⟩
      refine ⟨_, fun u hu => (b4 u hu).c, _, fun u hu => (b4 u hu).t, _, fun u hu => (b4 u hu).f, _, fun u hu => (b4 u hu).k, _, _, insn_neq, _, rfl, ?_⟩
      rw [decide_eq_true rfl]
      refine ifP_f rfl ?_
      rw [wrap_i64 (by omega) (by omega), wrap_i64 (by omega) (by omega)]
      exact ihe (k + 1) (by omega) (by omega) w3 (x2.trans x3)
theorem copied_insns {w w' : World} {A : Option Addr} {n c : Nat} {xs : List Ins} (h : IInsns w A n xs) (hn : n * 8 ≤ 140737488351232) {R : Value → World → Prop} (hR : ∀ (A' : Option Addr) (c' : Nat) (w' : World), IInsns w' A' n xs → n ≤ c' → Go.Rd.Ext w w' → R (.slice A' n c') w') :
    Run Try.prog 23 #[.slice A n c] w R := by
  refine (copyInsns_spec h (by omega)).mono ?_
  rintro v w1 ⟨A', c', rfl, o, l, b, x⟩
  have := o.le
  rw [flat_len Ins.len, l] at this
  exact hR A' c' w1 (o.rdM l) (by omega) x
theorem copied_pkt {w w' : World} {P : Option Addr} {pn pc : Nat} {pkt : List Int} (h : IBytes w P pn pkt) (hn : pn ≤ 140737488351232) {R : Value → World → Prop} (hR : ∀ (P' : Option Addr) (c' : Nat) (w' : World), IBytes w' P' pn pkt → pn ≤ c' → Go.Rd.Ext w w' → R (.slice P' pn c') w') :
    Run Try.prog 29 #[.slice P pn pc] w R := by
  refine (copyBytes_spec h (by omega)).mono ?_
  rintro v w1 ⟨P', c', rfl, o, l, b, x⟩
  exact hR P' c' w1 (o.rd l) (Own.len (n := pn) (by decide) o (by rw [List.length_map, l, Nat.mul_one])) x
theorem GraphSame_main (hx : IInsns W A n xs) (hi : Inss xs) (hn : n * 8 ≤ 140737488351232) (hp : IBytes W P pn pkt) (hpn : pn ≤ 140737488351232) :
    Run Try.prog 9 #[.slice A n c, .slice P pn pc] W (Good W) := by
  have hl := hx.len
  have hpl := hp.len
  refine law15_GraphSame.ok (copied_insns (w' := W) hx hn fun A1 c1 w1 i1 _ x1 => ⟨_, _, _, rfl, (check_spec i1 hi (by omega)).mono ?_⟩)
  rintro v w2 ⟨rfl, x2⟩
  have x02 := x1.trans x2
  have out : law15_GraphSame.J0 (Good W) A n c P pn pc true w2 := by
    refine ifP_t rfl (gawake_spec.mono ?_)
    rintro v w3 ⟨rfl, x3⟩
    exact ⟨_, rfl, rfl, Fr.of_ext (x02.trans x3)⟩
  refine ⟨_, _, rfl, ifP_bne.2 ⟨fun _ => out, fun h0 => ?_⟩⟩
  by_cases hbig : ((pn : Nat) : Int) > 65536
  · rw [decide_eq_true hbig]
    exact out
  rw [decide_eq_false hbig]
  have ev : codeV xs pkt = 0 := by rw [codeV, if_neg (not_not_intro h0), if_neg (by omega)]
  obtain ⟨T, _⟩ := taken_of h0
  have T' := ofX_taken T hi
  obtain ⟨s1, s2, s3, s4⟩ := same_verd hi ev
  have eo : ofR xs = (ofX xs, 0) := by rw [ofR, if_neg (not_not_intro h0)]
  obtain ⟨small1, small2⟩ := ofR_small (xs := xs)
  rw [eo] at small1 small2
  refine ifP_f rfl (copied_insns (w' := W) (RdM.ext hx x02) hn fun A3 c3 w3 i3 cap3 x3 => ⟨_, _, _, rfl, (gof_spec i3 hi (by omega) cap3).mono ?_⟩)
  rintro v w4 ⟨Q, qc, qs, rfl, g4, e4, f4, x4⟩
  rw [eo] at e4 ⊢
  have e4 : blks qs = ofX xs := e4
  have lq : qs.length = (ofX xs).length := by rw [← e4, blks, List.length_map]
  have sq : ∀ p ∈ qs, p.n ≤ 4096 ∧ Inss p.b.code := fun p hp => by
    have := small2 p.b (by rw [← e4]; exact blks_mem hp)
    refine ⟨?_, fun i hii => hi i (this.2 i hii)⟩
    rw [← (g4.part p hp).2]
    exact this.1
  have x04 := (x02.trans x3).trans x4
  have small1 : (ofX xs).length ≤ 4096 := small1
  refine ⟨_, _, _, _, rfl, (copyBlocks_spec (g4.read rfl) (fun p hp => by have := (sq p hp).1; omega) (by omega)).mono ?_⟩
  rintro v w5 ⟨A5, c5, q5, rfl, g5, e5, l5, f5, x5⟩
  refine ⟨_, _, _, rfl, (gcheck_spec (g5.read l5) fun p hp => ?_).mono ?_⟩
  · rw [← (g5.part p hp).2]
    have := (small2 p.b (by rw [← e4, ← e5]; exact blks_mem hp)).1
    omega
  rintro v w6 ⟨rfl, x6⟩
  rw [e5, e4, T'.check]
  have x06 := (x04.trans x5).trans x6
  refine ⟨_, _, rfl, copied_insns (w' := W) (RdM.ext hx x06) hn fun A7 c7 w7 i7 cap7 x7 => ⟨_, _, _, rfl, copied_pkt (w' := W) (hp.ext (x06.trans x7)) hpn fun P8 c8 w8 p8 cap8 x8 => ⟨_, _, _, rfl, (vrun_spec (RdM.ext i7 x8) hi (by omega) p8 cap8).mono ?_⟩⟩⟩
  rintro v w9 ⟨rfl, x9⟩
  rw [ev]
  have x09 := ((x06.trans x7).trans x8).trans x9
  refine ⟨_, _, _, _, rfl, vstore (x := verdV xs pkt) fun w10 v10 x10 s10 => copied_insns (w' := W) (RdM.ext hx (x09.trans x10)) hn fun A11 c11 w11 i11 cap11 x11 => ⟨_, _, _, rfl, copied_pkt (w' := W) (hp.ext ((x09.trans x10).trans x11)) hpn fun P12 c12 w12 p12 cap12 x12 => ⟨_, _, _, rfl, (vtrace_spec (RdM.ext i11 x12) hi (by omega) p12 cap12).mono ?_⟩⟩⟩
  rintro v w13 ⟨O, oc, rfl, o13, x13, b13⟩
  rw [ev]
  have x013 := (((x09.trans x10).trans x11).trans x12).trans x13
  refine ⟨_, _, _, _, rfl, copied_pkt (w' := W) (hp.ext x013) hpn fun P14 c14 w14 p14 cap14 x14 => ⟨_, _, _, rfl, ?_⟩⟩
  have x414 : Go.Rd.Ext w4 w14 := (((((((((x5.trans x6).trans x7).trans x8).trans x9).trans x10).trans x11).trans x12).trans x13).trans x14)
  refine (grun_spec ((g4.ext x414).read rfl) (fun p hp => by have := (sq p hp).1; omega) (fun p hp => (sq p hp).2) p14 cap14).mono ?_
  rintro v w15 ⟨rfl, x15⟩
  rw [e4, s1]
  refine ⟨_, _, _, _, rfl, vstore (x := gverdV (ofX xs) pkt) fun w16 v16 x16 s16 => ?_⟩
  have x416 := (x414.trans x15).trans x16
  have x016 := x04.trans x416
  have v1016 := v10.ext (((((x11.trans x12).trans x13).trans x14).trans x15).trans x16)
  have o16 := o13.ext ((x14.trans x15).trans x16)
  have hle := T.le
  have etr : traceV xs pkt = (runV xs pkt).2.map (fun n : Nat => (n : Int)) := by rw [traceV, if_pos ev]
  have eln : (traceV xs pkt).length = (runV xs pkt).2.length := by rw [etr, List.length_map]
  have hvl : (verdV xs pkt).2.2 = ((runV xs pkt).2.length : Int) := by rw [verdV, if_pos ev]
  have hja := jaN_le xs (runV xs pkt).2
  have htl : (runV xs pkt).2.length ≤ 4096 := by
    have : ∀ (f p : Nat) (ws : List Int), (runX xs pkt f p ws).2.length ≤ f := by
      intro f
      induction f with
      | zero => intro p ws; exact Nat.le_refl _
      | succ f ih =>
        intro p ws
        rw [runX]
        cases xs[p]? with
        | none => exact Nat.zero_le _
        | some i =>
          cases hn : nextX pkt i p ws with
          | inl r => simp only [hn]; show 1 ≤ f + 1; omega
          | inr r =>
            have := ih r.1 r.2
            simp only [hn, List.length_cons]
            omega
    exact Nat.le_trans (this _ _ _) hle
  -- the places are counted
  suffices H : ∀ (d k : Nat), (runV xs pkt).2.length - k = d → k ≤ (runV xs pkt).2.length → ∀ (gone : Int), gone = (jaN xs ((runV xs pkt).2.take k) : Int) → law15_GraphSame.L0 (Good W) A n c Q qs.length qc 0 0 (newA w9) 0 O (traceV xs pkt).length oc (newA w15) 0 gone (k : Int) w16 from H _ 0 rfl (Nat.zero_le _) 0 (by rw [List.take_zero, jaN_nil]; rfl)
  intro d
  induction d with
  | zero =>
    intro k hd hk gone hg
    have hk2 : k = (runV xs pkt).2.length := by omega
    subst hg
    rw [hk2, List.take_length]
    have hlast : law15_GraphSame.L2 (Good W) A n c Q qs.length qc 0 0 w16 :=
      layout hx T x016 ((g4.ext x416).read rfl) (by omega) (fun p hp => (sq p hp).1) xs.length 0 0 0 (by omega) (Nat.zero_le _) (fun _ => lead_zero) (.inl rfl) [] (by rw [e4]; rfl) rfl w16 (Go.Rd.Ext.refl _)
    refine law15_GraphSame.L0_step (ifP_no (by omega) (ifP_nne rfl (ifP_nne rfl (ifP_nne rfl (ifP_nne rfl ⟨_, (cell_of v16).trans rfl, _, (cell_of v1016).trans rfl, ifP_nne s2 ⟨_, by rw [newA, add_mk]; exact (cell_of v16).trans rfl, _, by rw [newA, add_mk]; exact (cell_of v1016).trans rfl, ifP_nne s3 ⟨_, by rw [newA, add_mk]; exact (cell_of v16).trans rfl, _, by rw [newA, add_mk]; exact (cell_of v1016).trans rfl, ?_⟩⟩⟩)))))
    rw [wrap_i64 (by omega) (by omega)]
    have e : (gverdV (ofX xs) pkt).2.2 = (verdV xs pkt).2.2 - (jaN xs (runV xs pkt).2 : Int) := by omega
    rw [← e]
    exact ifP_f (by simp) hlast
  | succ d ih =>
    intro k hd hk gone hg
    obtain ⟨p, hpk⟩ : ∃ p, (runV xs pkt).2[k]? = some p := ⟨_, List.getElem?_eq_getElem (by omega)⟩
    have hpn2 : p < xs.length := run_lt _ _ _ p (List.mem_of_getElem? hpk)
    obtain ⟨t, ht, hcell⟩ := (o16.rd rfl).2 k (p : Int) (by rw [etr, List.getElem?_map, hpk]; rfl)
    obtain ⟨q, i, hq, hii, h4⟩ := IInsns.at4 (RdM.ext hx x016) (i := p) (by omega)
    have htk : Int.toNat ((k : Nat) : Int) = k := Int.toNat_natCast k
    have htp : Int.toNat ((p : Nat) : Int) = p := Int.toNat_natCast p
    have hj := jaN_take hpk hii
    have hjl := jaN_le xs ((runV xs pkt).2.take k)
    rw [List.length_take] at hjl
    refine law15_GraphSame.L0_step (ifP_yes (by omega) ⟨by omega, by omega, t, ht, (p : Int), by rw [htk]; exact hcell, by omega, by omega, q, hq, i.c, by rw [htp]; exact h4.c, ifP_beq.2 ⟨fun c5 => ?_, fun c5 => ?_⟩⟩)
    · unfold law15_GraphSame.J1
      rw [wrap_i64 (by omega) (by omega), wrap_i64 (by omega) (by omega)]
      refine ih (k + 1) (by omega) (by omega) _ ?_
      rw [hj, if_pos c5, hg]
      rfl
    · unfold law15_GraphSame.J1
      rw [wrap_i64 (x := (k : Int) + 1) (by omega) (by omega)]
      refine ih (k + 1) (by omega) (by omega) _ ?_
      rw [hj, if_neg c5, hg]
      rfl
end
end Go.Proofs.Ytbchjihecdkfeaa
