/- A region whose loads are taken first: behind an operation that all loads are ahead of, nothing is asked of the world any more. -/
import Derived.Test.YthhfipjmjnfjlaaE
import Derived.OrdersHeld
namespace Go.Rd
set_option linter.unusedSimpArgs false
section
variable {P : Program} {ops : Array Oper} {Q : Exit → Act → World → Prop} {S T : World → Prop} {late : Nat → Bool}

def Down (ops : Array Oper) (listed : Array Bool) : Prop :=
  ∀ k ok, ops[k]? = some ok → listed.getD k false = true → ∀ e ∈ ok.after, Region.binds .any e = true → listed.getD e.on false = true
def clean (late : Nat → Bool) (listed : Array Bool) : Prop := ∀ k, listed.getD k false = true → late k = false

theorem in_range {listed : Array Bool} {i : Nat} (h : listed.getD i true = false) : i < listed.size ∧ listed.getD i false = false := by
  rcases Nat.lt_or_ge i listed.size with h' | h'
  · refine ⟨h', ?_⟩
    simp [h'] at h ⊢
    exact h
  · simp [Array.getElem?_eq_none h'] at h
theorem set_self {listed : Array Bool} {i : Nat} (h : i < listed.size) : (listed.setIfInBounds i true).getD i false = true := by
  simp [h]
theorem Down.set {listed : Array Bool} {i : Nat} (h : Down ops listed) (hi : i ∈ Region.ready .any ops listed) : Down ops (listed.setIfInBounds i true) := by
  intro k ok hk hl e he hb
  refine getD_set_true ?_
  by_cases hki : i = k
  · subst hki
    obtain ⟨_, o, ho, hall⟩ := mem_ready.1 hi
    rw [hk] at ho
    obtain rfl := Option.some.inj ho
    exact hall e he hb
  · rw [getD_set_ne false hki] at hl
    exact h k ok hk hl e he hb
theorem Down.init (n : Nat) : Down ops (Array.replicate n false) := by
  intro k ok hk hl
  exfalso
  by_cases h : k < n <;> simp [h] at hl
theorem clean.of_set {listed : Array Bool} {i : Nat} (h : clean late (listed.setIfInBounds i true)) : clean late listed := fun k hk => h k (getD_set_true hk)
theorem clean.set {listed : Array Bool} {i : Nat} (h : clean late listed) (hi : late i = false) : clean late (listed.setIfInBounds i true) := fun k hk => by
  by_cases hki : i = k
  · subst hki; exact hi
  · rw [getD_set_ne false hki] at hk; exact h k hk

theorem anc_listed {l : List Oper} {listed : Array Bool} (hd : Down l.toArray listed) {i : Nat} : ∀ (n j : Nat), ancB l n i j = true → listed.getD j false = true → listed.getD i false = true
  | 0, j, h, _ => by simp [ancB] at h
  | n + 1, j, h, hj => by
    unfold ancB at h
    split at h
    · rename_i o ho
      have ho' : l.toArray[j]? = some o := by
        have : ∀ (l : List Oper) (i : Nat), nth l i = l[i]? := by
          intro l
          induction l with
          | nil => intro i; simp [nth]
          | cons a l ih => intro i; cases i with
            | zero => simp [nth]
            | succ i => rw [nth, ih i]; simp
        rw [this] at ho
        simpa using ho
      obtain ⟨e, he, hb⟩ := List.any_eq_true.1 h
      simp only [Bool.and_eq_true, Bool.or_eq_true] at hb
      have hl := hd j o ho' hj e (by simpa using he) hb.1
      rcases hb.2 with h1 | h1
      · rw [Nat.beq_eq] at h1; rw [← h1]; exact hl
      · exact anc_listed hd n e.on h1 hl
    · cases h

def wpAnyR (P : Program) (ops : Array Oper) (Q : Exit → Act → World → Prop) (S : World → Prop) (late : Nat → Bool) : Nat → Array Bool → Act → World → Prop
  | 0, listed, a, w => Region.ready .any ops listed = [] ∧ Q .normal a w
  | fuel + 1, listed, a, w =>
    (Region.ready .any ops listed = [] → Q .normal a w) ∧
    ∀ i ∈ Region.ready .any ops listed, wpOp P ops Q i (fun a' w' => (clean late (listed.setIfInBounds i true) → S w') ∧ wpAnyR P ops Q S late fuel (listed.setIfInBounds i true) a' w') a w

theorem wpAny_of_R : ∀ (fuel : Nat) (listed : Array Bool) (a : Act) (w : World), wpAnyR P ops Q S late fuel listed a w → wpAny P .any ops Q fuel listed a w
  | 0, _, _, _, h => h
  | fuel + 1, _, _, _, h => ⟨h.1, fun i hi => wpOp_mono (fun a' w' h' => wpAny_of_R fuel _ a' w' h'.2) (h.2 i hi)⟩

theorem wpAnyR_first {i : Nat} {oi : Oper} {v : Value} (hi : ops[i]? = some oi) (hsel : ∀ (j : Nat) (o : Oper) cs b, ops[j]? = some o → o.op ≠ .select cs b)
    (hQ : ∀ c a w, Q (.panic c) (a.put oi.dst v) w → Q (.panic c) a w) (hli : late i = false)
    (hT : ∀ (listed : Array Bool) (w : World), Down ops listed → listed.getD i true = false → (clean late listed → S w) → T w) :
    ∀ (fuel : Nat) (listed : Array Bool) (a : Act) (w : World),
      (∀ j oj, ops[j]? = some oj → j ≠ i → listed.getD j true = false → (∀ e ∈ oj.after, Region.binds .any e = true → e.on ≠ i) → oi.apart ops oj = true) →
      i ∈ Region.ready .any ops listed → Down ops listed → YieldsIf P ops T oi v a → (clean late listed → S w) →
      wpAnyR P ops Q S late fuel (listed.setIfInBounds i true) (a.put oi.dst v) w → wpAnyR P ops Q S late (fuel + 1) listed a w := by
  intro fuel
  induction fuel with
  | zero =>
    intro listed a w _ hr hd hy hS H
    refine ⟨fun h => (by rw [h] at hr; cases hr), fun j hj => ?_⟩
    by_cases hji : j = i
    · subst hji; exact hy.wpOp hi (hT listed w hd (mem_ready.1 hr).1 hS) ⟨fun h => hS h.of_set, H⟩
    · have := ready_mono hj hji
      rw [H.1] at this
      cases this
  | succ fuel ih =>
    intro listed a w hfree hr hd hy hS H
    refine ⟨fun h => (by rw [h] at hr; cases hr), fun j hj => ?_⟩
    by_cases hji : j = i
    · subst hji; exact hy.wpOp hi (hT listed w hd (mem_ready.1 hr).1 hS) ⟨fun h => hS h.of_set, H⟩
    · have h1 := H.2 j (ready_mono hj hji)
      obtain ⟨hjun, oj, hoj, hall⟩ := mem_ready.1 hj
      have h0 := (mem_ready.1 hr).1
      have hnot : ∀ e ∈ oj.after, Region.binds .any e = true → e.on ≠ i := fun e he hb heq => by
        have h1 := hall e he hb
        rw [heq] at h1
        rw [(in_range h0).2] at h1
        cases h1
      have h2 := wpOp_putIf hoj (hfree j oj hoj hji hjun hnot) (fun cs b => hsel i oi cs b hi) (fun cs b => hsel j oj cs b hoj) hQ hy h1
      have hfree' : ∀ k ok, ops[k]? = some ok → k ≠ i → (listed.setIfInBounds j true).getD k true = false →
          (∀ e ∈ ok.after, Region.binds .any e = true → e.on ≠ i) → oi.apart ops ok = true := fun k ok hk hki hun hno => by
        refine hfree k ok hk hki ?_ hno
        by_cases hjk : j = k
        · subst hjk; exact hjun
        · rw [getD_set_ne true hjk] at hun; exact hun
      have hcl : ∀ w' : World, (clean late ((listed.setIfInBounds i true).setIfInBounds j true) → S w') → (clean late (listed.setIfInBounds j true) → S w') := fun w' h hc => by
        refine h ?_
        rw [Array.setIfInBounds_comm _ _ (Ne.symm hji)]
        exact hc.set hli
      refine wpOp_mono (fun a' w' h3 => ⟨hcl w' h3.2.1, ih (listed.setIfInBounds j true) a' w' hfree' (ready_mono hr (Ne.symm hji)) (hd.set hj) h3.1 (hcl w' h3.2.1) ?_⟩) h2
      rw [Array.setIfInBounds_comm _ _ hji]
      exact h3.2.2

theorem wp_region_R {id : Nat} {a : Act} {w : World} (hm : P.follows .mixedOrders = true)
    (h : wpAnyR P ops Q S late ops.size (Array.replicate ops.size false) a { w with drawn := w.drawn + 1 }) : (Code.region id ops true).wp P Q a w :=
  wp_region_any hm (wpAny_of_R _ _ _ _ h)
end
end Go.Rd
