/- Regions, code and functions: the weakest precondition of YthhfipjmjnfjlaaE is sound. -/
import Derived.Test.YthhfipjmjnfjlaaS
import Derived.Test.YthhfipjmjnfjlaaR
namespace Go.Rd
set_option linter.unusedSimpArgs false
section
variable {P : Program} {X : Xs} {D : List Deferred}

theorem nth_eq : ∀ (l : List Oper) (i : Nat), nth l i = l[i]?
  | [], _ => by simp [nth]
  | _ :: _, 0 => by simp [nth]
  | _ :: l, i + 1 => by rw [nth, nth_eq l i]; simp

theorem get_lt : ∀ {st : St} {d : Nat} {b : Bool}, get st d = .bool b → st[d]? = some (.bool b)
  | [], d, b, h => by simp [get, undef] at h
  | v :: st, 0, b, h => by simp [get] at h; simp [h]
  | v :: st, d + 1, b, h => by rw [get] at h; simpa using get_lt h

theorem get_not : ∀ {st : St} {d : Nat} {vs : Array Value}, get st d = .tuple vs → ∀ b : Bool, st[d]? ≠ some (.bool b)
  | [], d, vs, h, b => by simp
  | v :: st, 0, vs, h, b => by simp [get] at h; simp [h]
  | v :: st, d + 1, vs, h, b => by rw [get] at h; simpa using get_not h b

theorem set_same {st : St} {d : Nat} {v : Value} (h : st[d]? = some v) : st.set d v = st := by
  apply List.ext_getElem?
  intro i
  rw [List.getElem?_set]
  split
  · rename_i hi
    subst hi
    split
    · exact h.symm
    · rename_i hd; rw [List.getElem?_eq_none (by omega)]
  · rfl

theorem guard_sound {all : List Oper} {o : Oper} {st : St} {yes no : St → Prop} (h : guardVC all o st yes no) :
    (Region.wanted o (yielded all.toArray (act D st).tmps) = true ∧ yes st) ∨ (Region.wanted o (yielded all.toArray (act D st).tmps) = false ∧ no st) := by
  unfold guardVC at h
  split at h
  · rename_i hg
    exact .inl ⟨by simp [Region.wanted, hg], h⟩
  · rename_i j want hg
    split at h
    · exact h.elim
    · rename_i d hd
      have hy1 : ∀ b, st[d]? = some (.bool b) → yielded all.toArray (act D st).tmps j = some b := by
        intro b hr
        simp only [yielded, act, List.getElem?_toArray]
        rw [nth_eq] at hd
        rw [hd]
        simp [hr]
      have hy2 : (∀ b, st[d]? ≠ some (.bool b)) → yielded all.toArray (act D st).tmps j = none := by
        intro hr
        simp only [yielded, act, List.getElem?_toArray]
        rw [nth_eq] at hd
        rw [hd]
        cases hv : st[d]? with
        | none => simp [hv]
        | some v => cases v <;> simp [hv] <;> exact absurd hv (hr _)
      split at h
      · rename_i b hb
        have hlt := get_lt hb
        have hw : Region.wanted o (yielded all.toArray (act D st).tmps) = (b == want) := by
          simp only [Region.wanted, hg, hy1 _ hlt]
          cases b <;> cases want <;> rfl
        rw [hw]
        cases b
        · simp only [ifP] at h
          rw [set_same hlt] at h
          cases want
          · exact .inl ⟨rfl, h⟩
          · exact .inr ⟨rfl, h⟩
        · simp only [ifP] at h
          rw [set_same hlt] at h
          cases want
          · exact .inr ⟨rfl, h⟩
          · exact .inl ⟨rfl, h⟩
      · rename_i vs hb
        refine .inr ⟨?_, h⟩
        simp only [Region.wanted, hg, hy2 (get_not hb)]
        rfl
      · exact h.elim

theorem ops_sound {all : List Oper} {K : St → World → Prop} {Q : Exit → Act → World → Prop} (hX : Pan X D Q) (hK : ∀ st w, K st w → Q .normal (act D st) w) :
    ∀ (l : List Oper) (st : St) (w : World), opsVC P X all K l st w → wpList P all.toArray Q l (act D st) w
  | [], st, w, h => hK _ _ h
  | o :: l, st, w, h => by
    simp only [opsVC] at h
    unfold wpList
    rcases guard_sound h with ⟨hw, h⟩ | ⟨hw, h⟩
    · rw [if_pos hw]
      refine .inl (Oper.wp_mono ?_ (op_sound hX h))
      rintro a w' ⟨v, rfl, hv⟩
      exact ops_sound hX hK l _ _ hv
    · rw [if_neg (by simp [hw]), act_put]
      exact ops_sound hX hK l _ _ h

theorem still_sound {all : List Oper} {K : St → World → Prop} {w : World} :
    ∀ (l : List Oper) (st : St), still P l = true → opsVC P X all K l st w → wpStill P all.toArray w (fun a => ∃ st', a = act D st' ∧ K st' w) l (act D st)
  | [], st, _, h => ⟨st, rfl, h⟩
  | o :: l, st, hs, h => by
    simp only [still, List.all_cons, Bool.and_eq_true] at hs
    simp only [opsVC] at h
    unfold wpStill
    rcases guard_sound h with ⟨hw, h⟩ | ⟨hw, h⟩
    · rw [if_pos hw]
      unfold Oper.still
      rw [act_eval]
      unfold opVC at h
      split at h
      · rename_i hk
        obtain ⟨v, hr, h⟩ := pure_sound hk h
        rw [hr w]
        exact ⟨rfl, by rw [act_put]; exact still_sound l _ hs.2 h⟩
      · obtain ⟨v, h, hr⟩ := load_sound h
        rw [hr w fun _ _ h => h]
        exact ⟨rfl, by rw [act_put]; exact still_sound l _ hs.2 h⟩
      all_goals (rename_i hk; have h1 := hs.1; simp [hk] at h1)
    · rw [if_neg (by simp [hw]), act_put]
      exact still_sound l _ hs.2 h

theorem wpStill_mono {ops : Array Oper} {w : World} {A B : Act → Prop} (h : ∀ a, A a → B a) : ∀ (l : List Oper) (a : Act), wpStill P ops w A l a → wpStill P ops w B l a
  | [], a, hh => h _ hh
  | o :: l, a, hh => by
    unfold wpStill at hh ⊢
    split
    · rename_i hw; rw [if_pos hw] at hh; exact Oper.still_mono (fun a => wpStill_mono h l a) hh
    · rename_i hw; rw [if_neg hw] at hh; exact wpStill_mono h l _ hh

theorem quickOf_spec {ops : List Oper} {listed : List Bool} : ∀ {rs : List Nat} {i : Nat}, quickOf P ops listed rs = some i →
    i ∈ rs ∧ Region.free .any ops.toArray listed.toArray i = true ∧ ∃ o, nth ops i = some o ∧ ((kind P o = .pure) ∨ (kind P o = .load))
  | [], i, h => by simp [quickOf] at h
  | j :: rs, i, h => by
    have rec_ : quickOf P ops listed rs = some i → i ∈ j :: rs ∧ Region.free .any ops.toArray listed.toArray i = true ∧ ∃ o, nth ops i = some o ∧ ((kind P o = .pure) ∨ (kind P o = .load)) :=
      fun h => let ⟨a, b⟩ := quickOf_spec h; ⟨List.mem_cons_of_mem _ a, b⟩
    simp only [quickOf] at h
    split at h
    · rename_i o ho
      split at h
      · rename_i hk
        split at h
        · rename_i hf; simp at h; subst h; exact ⟨List.mem_cons_self .., hf, o, ho, .inl hk⟩
        · exact rec_ h
      · rename_i hk
        split at h
        · rename_i hf; simp at h; subst h; exact ⟨List.mem_cons_self .., hf, o, ho, .inr hk⟩
        · exact rec_ h
      · exact rec_ h
    · exact rec_ h

def SOf (S : Option (World → Prop)) : World → Prop := match S with | none => fun _ => True | some S => S

theorem holdS_out {S : Option (World → Prop)} {w : World} {p : Prop} (h : holdS S w p) : SOf S w ∧ p := by
  cases S with
  | none => exact ⟨trivial, h⟩
  | some S => exact h

theorem cellS_out {S : Option (World → Prop)} {a : Addr} {v : Value} (h : cellS S a v) : ∀ w, SOf S w → w.cell? a = some v := by
  cases S with
  | none => exact h.elim
  | some S => exact h

theorem allVC_out {f : Nat → Prop} {base : Prop} : ∀ {rs : List Nat}, allVC f base rs → (rs = [] → base) ∧ ∀ i ∈ rs, f i
  | [], h => ⟨fun _ => h, fun i hi => by cases hi⟩
  | [i], h => ⟨fun h' => (by cases h'), fun j hj => (by simp at hj; subst hj; exact h)⟩
  | i :: j :: r, h => by
    refine ⟨fun h' => (by cases h'), fun k hk => ?_⟩
    have := allVC_out h.2
    rcases List.mem_cons.1 hk with rfl | hk
    · exact h.1
    · exact this.2 k hk

theorem lateGo_spec {all : List Oper} {j : Nat} : ∀ {l : List Oper} {b : Nat}, lateGo P all j l b = true → ∀ (i : Nat) (o : Oper), l[i]? = some o → kind P o = .load → ancB all all.length (b + i) j = true
  | [], b, _, i, o, h, _ => by simp at h
  | x :: l, b, hl, i, o, h, hk => by
    simp only [lateGo, Bool.and_eq_true] at hl
    cases i with
    | zero =>
      obtain rfl : x = o := by simpa using h
      have h1 := hl.1
      rw [hk] at h1
      exact h1
    | succ i =>
      have := lateGo_spec (l := l) hl.2 i o (by simpa using h) hk
      rwa [show b + 1 + i = b + (i + 1) by omega] at this
theorem lateB_spec {ops : List Oper} {j i : Nat} {o : Oper} (h : lateB P ops j = true) (ho : nth ops i = some o) (hk : kind P o = .load) : ancB ops ops.length i j = true := by
  unfold lateB at h
  split at h
  · split at h
    · cases h
    · cases h
    · have := lateGo_spec h i o (by rw [← nth_eq]; exact ho) hk
      rwa [Nat.zero_add] at this
  · cases h
theorem lateB_quick {ops : List Oper} {i : Nat} {o : Oper} (ho : nth ops i = some o) (hk : kind P o = .pure ∨ kind P o = .load) : lateB P ops i = false := by
  unfold lateB
  rw [ho]
  rcases hk with hk | hk <;> simp [hk]

theorem draw_sound {ops : List Oper} {S₀ : Option (World → Prop)} {K : St → World → Prop} {Q : Exit → Act → World → Prop}
    (hs : Region.noSelect ops.toArray = true) (hQ : ∀ c a d v w, Q (.panic c) (a.put d v) w → Q (.panic c) a w) (hX : Pan X D Q) (hK : ∀ st w, K st w → Q .normal (act D st) w) :
    ∀ (n : Nat) (listed : List Bool) (S : Option (World → Prop)) (st : St) (w : World), (clean (lateB P ops) listed.toArray → SOf S₀ w) → (S = S₀ ∨ (S = none ∧ ¬ clean (lateB P ops) listed.toArray)) → Down ops.toArray listed.toArray →
      drawVC P X ops S K n listed st w → wpAnyR P ops.toArray Q (SOf S₀) (lateB P ops) n listed.toArray (act D st) w
  | 0, listed, S, st, w, hS, hSS, hd, h => by
    simp only [drawVC] at h
    split at h
    · rename_i he
      exact ⟨by simpa using he, hK _ _ h⟩
    · exact h.elim
  | n + 1, listed, S, st, w, hS, hSS, hd, h => by
    have hset : ∀ i, (listed.set i true).toArray = listed.toArray.setIfInBounds i true := by intro i; simp
    have hSS' : ∀ i, S = S₀ ∨ (S = none ∧ ¬ clean (lateB P ops) (listed.set i true).toArray) := fun i => hSS.imp id fun h => ⟨h.1, fun hc => h.2 (by rw [hset] at hc; exact hc.of_set)⟩
    have hS' : ∀ i, clean (lateB P ops) (listed.set i true).toArray → SOf S₀ w := fun i hc => hS (by rw [hset] at hc; exact hc.of_set)
    simp only [drawVC] at h
    split at h
    · rename_i i hq
      obtain ⟨hi, hf, o, ho, hk⟩ := quickOf_spec hq
      rw [ho] at h
      simp only [] at h
      have ho' : ops.toArray[i]? = some o := by simpa [nth_eq] using ho
      have hd' : Down ops.toArray (listed.set i true).toArray := by rw [hset]; exact hd.set hi
      have fin : ∀ (T : World → Prop) v, (∀ (l : Array Bool) (w : World), Down ops.toArray l → l.getD i true = false → (clean (lateB P ops) l → SOf S₀ w) → T w) → YieldsIf P ops.toArray T o v (act D st) →
          drawVC P X ops S K n (listed.set i true) (put st o.dst v) w → wpAnyR P ops.toArray Q (SOf S₀) (lateB P ops) (n + 1) listed.toArray (act D st) w := by
        intro T v hT hy hv
        refine wpAnyR_first ho' (Region.noSelect_spec hs) (fun c a w h => hQ c a _ _ w h) (lateB_quick ho hk) hT n _ _ _ (Region.free_spec ho' hf) hi hd hy hS ?_
        rw [act_put, ← hset]
        exact draw_sound hs hQ hX hK n _ S _ _ (hS' i) (hSS' i) hd' hv
      rcases guard_sound h with ⟨hw, h⟩ | ⟨hw, h⟩
      · rcases hk with hk | hk
        · rw [hk] at h
          obtain ⟨v, hr, h⟩ := pure_sound hk h
          exact fin (fun _ => True) v (fun _ _ _ _ _ => trivial) (.inl ⟨hw, fun w _ => by rw [act_eval]; exact hr w⟩) h
        · rw [hk] at h
          obtain ⟨v, h, hr⟩ := load_sound h
          refine fin (SOf S₀) v (fun l w hl hun hc => hc fun k hk2 => ?_) (.inl ⟨hw, fun w hSw => by
            rw [act_eval]
            refine hr w fun a v hc => ?_
            rcases hSS with rfl | ⟨rfl, _⟩
            · exact cellS_out hc w hSw
            · exact hc.elim⟩) h
          cases hlate : lateB P ops k with
          | false => rfl
          | true =>
            have := anc_listed hl _ k (lateB_spec hlate ho hk) hk2
            rw [(in_range hun).2] at this
            cases this
      · exact fin (fun _ => True) undef (fun _ _ _ _ _ => trivial) (.inr ⟨hw, rfl⟩) h
    · obtain ⟨hb, ha⟩ := allVC_out h
      refine ⟨fun he => hK _ _ (hb he), fun i hi => ?_⟩
      have h := ha i hi
      have hd' : Down ops.toArray (listed.set i true).toArray := by rw [hset]; exact hd.set hi
      cases ho : nth ops i with
      | none => rw [ho] at h; exact h.elim
      | some o =>
        rw [ho] at h
        simp only [] at h
        have ho' : ops.toArray[i]? = some o := by simpa [nth_eq] using ho
        unfold wpOp
        rw [ho']
        simp only []
        rcases guard_sound h with ⟨hw, h⟩ | ⟨hw, h⟩
        · rw [if_pos hw]
          refine .inl (Oper.wp_mono ?_ (op_sound hX h))
          rintro a w' ⟨v, rfl, hv⟩
          split at hv
          · rename_i hl
            have hun : ¬ clean (lateB P ops) (listed.set i true).toArray := fun hc => by
              have := hc i (by rw [hset]; exact set_self (in_range (mem_ready.1 hi).1).1)
              rw [hl] at this
              cases this
            rw [← hset]
            exact ⟨fun hc => absurd hc hun, draw_sound hs hQ hX hK n _ none _ _ (fun hc => absurd hc hun) (.inr ⟨rfl, hun⟩) hd' hv⟩
          · obtain ⟨hSw, hv⟩ := holdS_out hv
            have hSw' : clean (lateB P ops) (listed.set i true).toArray → SOf S₀ w' := fun hc => by
              rcases hSS' i with rfl | ⟨_, hn⟩
              · exact hSw
              · exact absurd hc hn
            rw [← hset]
            exact ⟨hSw', draw_sound hs hQ hX hK n _ S _ _ hSw' (hSS' i) hd' hv⟩
        · rw [if_neg (by simp [hw]), act_put, ← hset]
          exact ⟨hS' i, draw_sound hs hQ hX hK n _ S _ _ (hS' i) (hSS' i) hd' h⟩

def panQ (X : Xs) (D : List Deferred) (Q : Exit → Act → World → Prop) : Exit → Act → World → Prop
  | .panic c, a, w => a.defers = D ∧ ∃ Y, X = some Y ∧ Y c w
  | e, a, w => Q e a w
theorem put_defers (a : Act) (d : Option Tmp) (v : Value) : (a.put d v).defers = a.defers := by cases d <;> rfl

theorem region_sound {id : Nat} {ops : Array Oper} {d : Bool} {K : St → World → Prop} {Q : Exit → Act → World → Prop} {st : St} {w : World}
    (hm : P.follows .mixedOrders = true) (hX : Pan X D Q) (hK : ∀ st w, K st w → Q .normal (act D st) w) (h : regionVC P X ops.toList d K st w) :
    (Code.region id ops d).wp P Q (act D st) w := by
  have hops : ops = ops.toList.toArray := by simp
  unfold regionVC at h
  split at h
  · rename_i hd
    subst hd
    split at h
    · rename_i hs
      simp only [Bool.and_eq_true] at hs
      rw [hops]
      have := still_sound (D := D) (w := w.drew) ops.toList st hs.1 h
      refine wp_region_still_lit hm hs.2 ?_
      exact wpStill_mono (fun a ⟨st', ha, hk⟩ => by subst ha; exact hK _ _ hk) _ _ this
    · split at h
      · rename_i hns
        have key : ∀ S : Option (World → Prop), SOf S w.drew → drawVC P X ops.toList S K ops.toList.length (List.replicate ops.toList.length false) st w.drew →
            (Code.region id ops true).wp P Q (act D st) w := by
          intro S hS h
          refine wp_mono (Q := panQ X D Q) ?_ (fun e a w h => ?_)
          case refine_2 =>
            cases e with
            | panic c => obtain ⟨hd, Y, hY, hc⟩ := h; exact hX Y hY c a w hd hc
            | _ => exact h
          refine wp_region_R (S := SOf S) (late := lateB P ops.toList) hm ?_
          have := draw_sound (S₀ := S) (Q := panQ X D Q) hns (fun c a d v w h => ⟨by rw [← put_defers a d v]; exact h.1, h.2⟩) (fun Y hY c a w hd hc => ⟨hd, Y, hY, hc⟩) hK _ _ S _ _ (fun _ => hS) (.inl rfl)
            (by rw [List.toArray_replicate]; exact Down.init _) h
          rw [Array.toArray_toList, Array.length_toList] at this
          rw [← List.toArray_replicate]
          exact this
        split at h
        · obtain ⟨S, hS, h⟩ := h
          exact key (some S) hS h
        · exact key none trivial h
      · exact h.elim
  · rename_i hd
    have hd : d = false := by simpa using hd
    subst hd
    exact wp_region_list (by have := ops_sound (Q := Q) hX hK ops.toList st w h; simpa using this)
end
end Go.Rd
