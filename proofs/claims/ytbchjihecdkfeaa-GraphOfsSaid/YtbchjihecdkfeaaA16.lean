/- Instructions and blocks that are written over, and own memory still; the statement over Of. -/
import Derived.Test.YtbchjihecdkfeaaA11
import Derived.Test.YtbchjihecdkfeaaA15
namespace Go.Proofs.Ytbchjihecdkfeaa
open Go.Rd Go.RowKit
set_option linter.unusedVariables false
set_option linter.unusedSimpArgs false
set_option maxRecDepth 100000
/-- Own memory, whatever is in it. -/
def Room (e sz : Nat) (w : World) (A : Option Addr) (c : Nat) : Prop := (A = none ∧ c = 0) ∨ ∃ b vs, A = some ⟨b, 0, none⟩ ∧ w.heap[b]? = some (.cells vs e (0, 0)) ∧ vs.size = c * sz
theorem Own.room {e sz : Nat} {w : World} {A : Option Addr} {c : Nat} {cs : List Value} (h : Own e sz w A c cs) : Room e sz w A c := by
  rcases h with ⟨h1, h2, _⟩ | ⟨b, sp, h1, h2, h3⟩
  · exact .inl ⟨h1, h2⟩
  · exact .inr ⟨b, _, h1, h2, by simpa using h3⟩
theorem Room.own {e sz : Nat} {w : World} {A : Option Addr} {c n : Nat} (h : Room e sz w A c) (hn : n ≤ c) : ∃ cs, Own e sz w A c cs ∧ cs.length = n * sz := by
  rcases h with ⟨rfl, rfl⟩ | ⟨b, vs, rfl, h2, h3⟩
  · obtain rfl : n = 0 := by omega
    exact ⟨[], .inl ⟨rfl, rfl, rfl⟩, by simp⟩
  · obtain ⟨l⟩ := vs
    have h3 : l.length = c * sz := h3
    have : n * sz ≤ c * sz := Nat.mul_le_mul_right _ hn
    exact ⟨l.take (n * sz), .inr ⟨b, l.drop (n * sz), rfl, by rw [List.take_append_drop]; exact h2, by rw [List.take_append_drop]; exact h3⟩, by rw [List.length_take]; omega⟩
theorem Room.keep {e sz : Nat} {X : Nat → Prop} {w w' : World} {A : Option Addr} {c : Nat} (h : Room e sz w A c) (hk : Keep X w w') (hs : ∀ k, blk A k → ¬ X k) : Room e sz w' A c := by
  rcases h with h | ⟨b, vs, rfl, h2, h3⟩
  · exact .inl h
  · exact .inr ⟨b, vs, rfl, hk.heap h2 (hs b (blk_some.2 rfl)), h3⟩
theorem Room.lt {e sz : Nat} {w : World} {A : Option Addr} {c : Nat} (h : Room e sz w A c) {k : Nat} (hk : blk A k) : k < w.heap.size := by
  rcases h with ⟨rfl, _⟩ | ⟨b, vs, rfl, h2, h3⟩
  · exact (blk_none hk).elim
  · rw [blk_some.1 hk]; exact heap_lt h2
/-- One element is written: where may be written stays, and own memory stays own. -/
theorem wr_storeR {e sz : Nat} {w : World} {A F : Option Addr} {n m c i : Nat} {vs : List Value} {φ : World → Prop} (h : Wr e sz w F m) (hi : i < m) (hA : Wr e sz w A n) (hR : Room e sz w A c) (hv : vs.length = sz) (hc : (vs.all isCell) = true)
    (hφ : ∀ w', Wr e sz w' F m → Wr e sz w' A n → Room e sz w' A c → Keep (blk F) w w' → φ w') : ∃ p, F = some p ∧ storeRow (p.add (i * sz)) 0 vs w φ := by
  obtain ⟨b, cs, rfl, hb, hl⟩ := h i hi
  refine ⟨_, rfl, ?_⟩
  have e : (Addr.mk b 0 none).add (i * sz) = ⟨b, i * sz, none⟩ := by rw [add_mk]; simp
  rw [e]
  refine storeRow_block hb (by omega) hc fun w' hw hk hs => hφ w' (h.set hb hw (setFrom_size ..) hk) (hA.set hb hw (setFrom_size ..) hk) ?_ (hk.mono fun k _ h => blk_some.2 h)
  rcases hR with hR | ⟨b2, us, rfl, h2, h3⟩
  · exact .inl hR
  · by_cases hbb : b2 = b
    · subst hbb
      rw [hb] at h2
      injection h2 with h2
      injection h2 with h4 h5 h6
      subst h4
      exact .inr ⟨b2, _, rfl, hw, by rw [setFrom_size]; exact h3⟩
    · exact .inr ⟨b2, us, rfl, hk.heap h2 hbb, h3⟩
theorem spoilR_two {w₀ : World} {A : Option Addr} {n c : Nat} {R : Value → World → Prop} (hn : n ≤ 281474976710656)
    (hR : ∀ w, Keep (blk A) w₀ w → Room 47 4 w A c → R (.tuple #[]) w) :
    ∀ (k i : Nat), n - i = k → i ≤ n → ∀ (w : World), Wr 47 4 w A n → Room 47 4 w A c → Keep (blk A) w₀ w → law0_SpoilInsns.L2 R A n c i w := by
  intro k
  induction k with
  | zero => intro i hk hi w hO hr hw; exact law0_SpoilInsns.L2_step (ifP_no (by omega) (hR w hw hr))
  | succ k ih =>
    intro i hk hi w hO hr hw
    refine law0_SpoilInsns.L2_step (ifP_yes (by omega) ⟨by omega, by omega, wr_storeR hO (i := i) (by omega) hO hr rfl rfl fun w1 h1 _ r1 k1 => ?_⟩)
    rw [wrap_i64 (by omega) (by omega)]
    exact ih (i + 1) (by omega) (by omega) w1 h1 r1 (hw.trans' k1)
theorem spoilR_one {w₀ : World} {A F : Option Addr} {n c m fc : Nat} {R : Value → World → Prop} (hn : n ≤ 281474976710656) (hm : m ≤ 281474976710656)
    (hR : ∀ w, Keep (blk A) w₀ w → Room 47 4 w A c → R (.tuple #[]) w) (hF : ∀ k, blk F k → blk A k ∨ w₀.heap.size ≤ k) :
    ∀ (k i : Nat), m - i = k → i ≤ m → ∀ (w : World), Wr 47 4 w F m → Wr 47 4 w A n → Room 47 4 w A c → Keep (blk A) w₀ w → law0_SpoilInsns.L0 R A n c F m fc i w := by
  intro k
  induction k with
  | zero => intro i hk hi w hO hA hr hw; exact law0_SpoilInsns.L0_step (ifP_no (by omega) (spoilR_two hn hR n 0 (by omega) (by omega) w hA hr hw))
  | succ k ih =>
    intro i hk hi w hO hA hr hw
    refine law0_SpoilInsns.L0_step (ifP_yes (by omega) ⟨by omega, by omega, wr_storeR hO (i := i) (by omega) hA hr rfl rfl fun w1 h1 h2 r1 k1 => ?_⟩)
    rw [wrap_i64 (by omega) (by omega)]
    refine ih (i + 1) (by omega) (by omega) w1 h1 h2 r1 (hw.trans k1 (fun _ _ h => h) fun k hk hs => ?_)
    rcases hF k hs with h | h
    · exact h
    · omega
theorem spoilR_spec {w : World} {A : Option Addr} {n c : Nat} (hr : Room 47 4 w A c) (hc : n ≤ c) (hn : n * 8 ≤ 140737488353280) :
    Run Try.prog 25 #[.slice A n c] w fun v w' => v = .tuple #[] ∧ Room 47 4 w' A c ∧ Keep (blk A) w w' := by
  obtain ⟨cs, hO, hl⟩ := hr.own hc
  refine law0_SpoilInsns.ok (letA fun w1 h1 x1 s1 => ?_)
  have hB : RdC w1 (some (newA w)) bad.v := by
    have : Own 47 4 w1 (some (newA w)) 1 bad.v := .inr ⟨_, [], rfl, h1, rfl⟩
    exact this.cells
  have hA1 : Wr 47 4 w1 A n := (hO.ext x1).wr (by omega) (by omega)
  rcases append_cases slInsns (ty := 39) (n := n) (d := 1) (hO.ext x1) (by omega) hB (m := 1) rfl rfl (by omega) (by omega) with ⟨hroom, w2, hr2, hO2, hk, hs⟩ | ⟨hroom, c2, w2, hr2, hO2, hc2, hx, hs⟩
  · refine ⟨_, w2, hr2, _, _, _, rfl, ?_⟩
    have hF : Wr 47 4 w2 A (n + 1) := hO2.wr (by omega) (by simp [hl, Ins.len]; omega)
    exact spoilR_one (by omega) (by omega) (fun w h r => ⟨rfl, r, h⟩) (fun k h => .inl h) (n + 1) 0 (by omega) (by omega) w2 hF (fun i hi => hF i (by omega)) (Own.room hO2) ((Keep.ext x1).trans' hk)
  · refine ⟨_, w2, hr2, _, _, _, rfl, ?_⟩
    have hF : Wr 47 4 w2 (some ⟨w1.heap.size, 0, none⟩) (n + 1) := hO2.wr (by omega) (by simp [hl, Ins.len]; omega)
    exact spoilR_one (by omega) (by omega) (fun w h r => ⟨rfl, r, h⟩) (fun k h => .inr (by rw [blk_some.1 h]; omega)) (n + 1) 0 (by omega) (by omega) w2 hF (hA1.keep hx fun _ _ h => h) ((Own.room (hO.ext x1)).keep hx fun _ _ h => h) (Keep.ext (x1.trans hx))
/-- Own blocks whose codes are own memory, whatever is in it. -/
structure GRm (w : World) (A : Option Addr) (c : Nat) (ps : List BP) : Prop where
  own : Own 49 8 w A c (ps.flatMap BP.v)
  part : ∀ p ∈ ps, Room 47 4 w p.A p.c ∧ p.n ≤ p.c ∧ p.n * 8 ≤ 140737488351232
  pair : ps.Pairwise (fun p q => ∀ k, blk p.A k → ¬ blk q.A k)
section
variable {w w' : World} {A : Option Addr} {n c : Nat} {ps : List BP} {p : BP}
theorem room_typ {e sz : Nat} {w : World} {A : Option Addr} {c : Nat} (h : Room e sz w A c) {k : Nat} (hk : blk A k) : ∃ vs, w.heap[k]? = some (.cells vs e (0, 0)) := by
  rcases h with ⟨rfl, _⟩ | ⟨b, vs, rfl, h2, h3⟩
  · exact (blk_none hk).elim
  · rw [blk_some.1 hk]; exact ⟨_, h2⟩
theorem GRm.sep (h : GRm w A c ps) (hp : p ∈ ps) {k : Nat} (hk : blk A k) : ¬ blk p.A k := fun hk2 => by
  obtain ⟨us, h1⟩ := own_typ h.own hk
  obtain ⟨vs, h2⟩ := room_typ (h.part p hp).1 hk2
  have := typ_ne h1 h2
  revert this
  decide
theorem GOk.rm (h : GOk [] [] w A c ps) (hs : ∀ p ∈ ps, p.n * 8 ≤ 140737488351232) : GRm w A c ps := by
  refine ⟨?_, fun p hp => ⟨Own.room (h.part p hp).1, ?_, hs p hp⟩, h.pair⟩
  · have := h.own
    rwa [List.append_nil] at this
  · have := (h.part p hp).1.le
    rw [List.append_nil, flat_len Ins.len, (h.part p hp).2] at this
    omega
theorem GRm.lt (h : GRm w A c ps) {k : Nat} (hk : gff A ps k) : k < w.heap.size := by
  rcases hk with hk | ⟨p, hp, hk⟩
  · exact h.own.lt k hk
  · exact (h.part p hp).1.lt hk
theorem pair_ne (hpw : ps.Pairwise (fun p q => ∀ k, blk p.A k → ¬ blk q.A k)) {i j : Nat} {p q : BP} (hi : ps[i]? = some p) (hj : ps[j]? = some q) (hij : i ≠ j) : ∀ k, blk p.A k → ¬ blk q.A k := by
  have h1 := List.getElem?_eq_some_iff.1 hi
  have h2 := List.getElem?_eq_some_iff.1 hj
  intro k hk hk2
  rcases Nat.lt_or_gt_of_ne hij with h | h
  · have := (List.pairwise_iff_getElem.1 hpw) i j h1.1 h2.1 h
    rw [h1.2, h2.2] at this
    exact this k hk hk2
  · have := (List.pairwise_iff_getElem.1 hpw) j i h2.1 h1.1 h
    rw [h1.2, h2.2] at this
    exact this k hk2 hk
/-- One code is written over. -/
theorem GRm.spoil (h : GRm w A c ps) {i : Nat} (hi : ps[i]? = some p) (hr : Room 47 4 w' p.A p.c) (k : Keep (blk p.A) w w') : GRm w' A c ps := by
  refine ⟨h.own.keep k fun j hj hj2 => h.sep (List.mem_of_getElem? hi) hj hj2, fun q hq => ⟨?_, (h.part q hq).2⟩, h.pair⟩
  obtain ⟨j, hj⟩ := List.getElem?_of_mem hq
  by_cases e : j = i
  · subst e
    rw [hi] at hj
    obtain rfl := Option.some.inj hj
    exact hr
  · exact (h.part q hq).1.keep k fun l hl hl2 => pair_ne h.pair hj hi e l hl hl2
def goneB : BP := ⟨none, 0, 0, ⟨[], -7, ⟨0, 0, 0, 0⟩, 7, 0⟩⟩
theorem spoilBlocks_spec (h : GRm w A c ps) (hn : ps.length = n) (hl : n * 56 ≤ 140737488355328) : Run Try.prog 27 #[.slice A n c] w fun v w' => v = .tuple #[] ∧ Keep (gff A ps) w w' := by
  refine law0_SpoilBlocks.ok ?_
  suffices H : ∀ (d i : Nat), n - i = d → i ≤ n → ∀ (w' : World) (rs : List BP), rs.length = n → (∀ j, i ≤ j → rs[j]? = ps[j]?) → Own 49 8 w' A c (rs.flatMap BP.v) → (∀ (j : Nat) (p : BP), i ≤ j → ps[j]? = some p → Room 47 4 w' p.A p.c) → Keep (gff A ps) w w' → law0_SpoilBlocks.L0 (fun v w' => v = .tuple #[] ∧ Keep (gff A ps) w w') A n c i w' from
    H n 0 (by omega) (by omega) w ps hn (fun _ _ => rfl) h.own (fun j p _ hj => (h.part p (List.mem_of_getElem? hj)).1) (Keep.refl w)
  intro d
  induction d with
  | zero => intro i hd hi w' rs hrl hrs ho hp k; exact law0_SpoilBlocks.L0_step (ifP_no (by omega) ⟨rfl, k⟩)
  | succ d ih =>
    intro i hd hi w' rs hrl hrs ho hp k
    obtain ⟨p, hpi⟩ : ∃ p, ps[i]? = some p := ⟨_, List.getElem?_eq_getElem (by omega)⟩
    have hri : rs[i]? = some p := by rw [hrs i (Nat.le_refl i), hpi]
    have hpm := List.mem_of_getElem? hpi
    obtain ⟨_, hpc, hps⟩ := h.part p hpm
    have hrd : IBl w' A n rs → True := fun _ => trivial
    obtain ⟨a, p', ha, hp', hc⟩ := RdM.at BP.len (by omega) (show RdM BP.v w' A n rs from ho.rdM hrl) (i := i) (by omega)
    obtain rfl : p' = p := by rw [hri] at hp'; exact (Option.some.inj hp').symm
    have c0 := hc 0 _ rfl
    rw [add_zero] at c0
    have ht : Int.toNat ((i : Nat) : Int) = i := Int.toNat_natCast i
    have hsep : ∀ k, blk A k → ¬ blk p'.A k := fun k h1 h2 => by
      obtain ⟨us, e1⟩ := own_typ ho h1
      obtain ⟨vs, e2⟩ := room_typ (hp i p' (Nat.le_refl i) hpi) h2
      have := typ_ne e1 e2
      revert this
      decide
    refine law0_SpoilBlocks.L0_step (ifP_yes (by omega) ⟨by omega, by omega, a, ha, ?_⟩)
    rw [ht]
    refine ⟨_, _, _, c0, (spoilR_spec (hp i p' (Nat.le_refl i) hpi) hpc (by omega)).mono ?_⟩
    rintro v w2 ⟨rfl, r2, k2⟩
    have ho2 := ho.keep k2 hsep
    refine ⟨rfl, by omega, by omega, ?_⟩
    have key := Own.putM (f := BP.v) (by decide) BP.len ho2 (i := i) (j := (i : Int)) rfl (by omega) (y := goneB) rfl (φ := fun w_3 => law0_SpoilBlocks.L0 (fun v w' => v = .tuple #[] ∧ Keep (gff A ps) w w') A n c (IntKind.i64.wrap (i + 1)) w_3) fun w3 h3 k3 => by
      rw [wrap_i64 (by omega) (by omega)]
      refine ih (i + 1) (by omega) (by omega) w3 (rs.set i goneB) (by rw [List.length_set]; exact hrl) (fun j hj => ?_) h3 (fun j q hj hq => ?_) ((k.trans k2 (fun _ _ h => h) fun j _ h => .inr ⟨p', hpm, h⟩).trans k3 (fun _ _ h => h) fun j _ h => .inl h)
      · rw [List.getElem?_set, if_neg (by omega)]
        exact hrs j (by omega)
      · refine ((hp j q (by omega) hq).keep k2 fun l hl hl2 => pair_ne h.pair hq hpi (by omega) l hl hl2).keep k3 fun l hl hl2 => ?_
        obtain ⟨us, e1⟩ := own_typ ho2 hl2
        obtain ⟨vs, e2⟩ := room_typ ((hp j q (by omega) hq).keep k2 fun l hl hl2 => pair_ne h.pair hq hpi (by omega) l hl hl2) hl
        have := typ_ne e1 e2
        revert this
        decide
    rw [ht] at key
    exact key
end
end Go.Proofs.Ytbchjihecdkfeaa
