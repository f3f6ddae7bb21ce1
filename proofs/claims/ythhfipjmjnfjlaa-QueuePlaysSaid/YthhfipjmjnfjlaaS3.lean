/- Code, loops and whole functions: the weakest precondition of YthhfipjmjnfjlaaE is sound; it is monotone; a loop's step. -/
import Derived.Test.YthhfipjmjnfjlaaS2
namespace Go.Rd
set_option linter.unusedVariables false
section
variable {P : Program} {Z : Xs} {D : List Deferred}

/-! ## Monotone -/

theorem qVC_mono {o : Oper} {st : St} {K K' : Value → Prop} (hq : ∀ v, K v → K' v) (h : qVC P o st K) : qVC P o st K' := by
  unfold qVC at *
  split
  · rename_i v hv; rw [hv] at h; exact hq _ h
  · rename_i hn
    split at h
    · rename_i v hv; exact absurd hv (hn v)
    · exact h

theorem binVC_mono {o : Oper} {op : BinOp} {t : TypeId} {y : Operand} {a b : Value} {st : St} {K K' : Value → Prop} (hq : ∀ v, K v → K' v)
    (h : binVC P o op t y a b st K) : binVC P o op t y a b st K' := by
  unfold binVC at *
  split <;> simp only [] at h <;> first
    | exact h.elim
    | exact qVC_mono hq h
    | exact ⟨h.1, hq _ h.2⟩
    | (split at h <;> first
        | exact h.elim
        | (rename_i hc; rw [if_pos hc]; exact qVC_mono hq h)
        | (rename_i hc; rw [if_pos hc]; exact hq _ h)
        | (rename_i hc
           split at h
           · rename_i hk; rw [if_neg hc, if_pos hk]; exact ⟨h.1, hq _ h.2⟩
           · exact h.elim)
        | (rename_i hc; rw [if_neg hc]; exact ⟨h.1, hq _ h.2⟩))
    | (simp_all; done)
    | skip
  all_goals (rename_i h1 h2 h3 h4 h5 h6 h7 h8; split at h <;> first | exact qVC_mono hq h | exact h.elim | simp_all)

theorem pureVC_mono {o : Oper} {st : St} {K K' : Value → Prop} (hq : ∀ v, K v → K' v) (h : pureVC P o st K) : pureVC P o st K' := by
  obtain ⟨dst, op, type, pos, after, guard⟩ := o
  cases op <;> simp only [pureVC] at h ⊢ <;> first
    | exact hq _ h
    | exact qVC_mono hq h
    | exact binVC_mono hq h
    | skip
  case pick c a b =>
    split
    · rename_i t hc; rw [hc] at h; exact ifP_mono (hq _) (hq _) h
    · rename_i hn
      split at h
      · rename_i t hc; exact absurd hc (hn t)
      · exact h
  case nilCheck x =>
    generalize ev st x = v at h ⊢
    cases v <;> first
      | exact qVC_mono hq h
      | exact h.imp fun _ h => ⟨h.1, hq _ h.2⟩
  case indexAddr t x i =>
    generalize ev st x = v at h ⊢
    generalize ev st i = u at h ⊢
    cases v with
    | slice A n c =>
      cases u <;> first
        | exact qVC_mono hq h
        | (simp only [] at h ⊢
           generalize elemSize P t = sz at h ⊢
           cases sz <;> first
             | exact h
             | (obtain ⟨h0, h1, ad, h2, h3⟩ := h; exact ⟨h0, h1, ad, h2, hq _ h3⟩))
    | pointer A =>
      cases A with
      | none => exact qVC_mono hq h
      | some ad =>
        cases u <;> first
          | exact qVC_mono hq h
          | (simp only [] at h ⊢
             generalize arrayOf P t = s at h ⊢
             rcases s with _ | ⟨n, sz⟩
             · exact h
             · exact ⟨h.1, h.2.1, hq _ h.2.2⟩)
    | _ => exact qVC_mono hq h
  case index t x i =>
    generalize ev st x = v at h ⊢
    generalize ev st i = u at h ⊢
    cases v <;> cases u <;> first
      | exact qVC_mono hq h
      | (simp only [] at h ⊢
         split at h
         · rename_i hc; rw [if_pos hc]; exact ⟨h.1, h.2.1, hq _ h.2.2⟩
         · exact h.elim)
  case slice t x lo hi m =>
    generalize ev st x = v at h ⊢
    cases v with
    | pointer A =>
      cases A with
      | none => exact qVC_mono hq h
      | some ad =>
        simp only [] at h ⊢
        generalize arrayOf P t = s at h ⊢
        rcases s with _ | ⟨n, sz⟩
        · exact h
        · simp only [] at h ⊢
          split at h
          · exact ⟨h.1, h.2.1, h.2.2.1, hq _ h.2.2.2⟩
          · exact h.elim
    | slice A n c =>
      simp only [] at h ⊢
      split at h
      · exact ⟨h.1, h.2.1, h.2.2.1, hq _ h.2.2.2⟩
      · exact h.elim
    | string s =>
      simp only [] at h ⊢
      split at h
      · exact ⟨h.1, h.2.1, h.2.2.1, hq _ h.2.2.2⟩
      · exact h.elim
    | _ => exact qVC_mono hq h
  case sliceToArrayPointer t x =>
    split at h
    · exact ⟨h.1, hq _ h.2⟩
    · exact h.elim

theorem loadRow_mono {C : Addr → Value → Prop} {a : Addr} : ∀ {zs : List Value} {i : Nat} {φ ψ : List Value → Prop}, (∀ vs, φ vs → ψ vs) →
    loadRow C a i zs φ → loadRow C a i zs ψ
  | [], _, _, _, hq, h => hq _ h
  | _ :: _, _, _, _, hq, h => ex1_mono (fun _ h => ⟨h.1, loadRow_mono (fun _ => hq _) h.2⟩) h

theorem loadVC_mono {t : TypeId} {C : Addr → Value → Prop} {a : Addr} {φ ψ : Value → Prop} (hq : ∀ v, φ v → ψ v) (h : loadVC P t C a φ) : loadVC P t C a ψ := by
  unfold loadVC at *
  split at h
  · rename_i h1 h2 h3
    split at h
    · rename_i hn; simp only [hn, if_true]; exact loadRow_mono (fun _ => hq _) h
    · exact h.elim
  · exact ex1_mono (fun _ h => ⟨h.1, hq _ h.2⟩) h
  · exact h.elim

theorem loadOf_mono {o : Oper} {st : St} {C : Addr → Value → Prop} {K K' : Value → Prop} (hq : ∀ v, K v → K' v) (h : loadOf P o st C K) : loadOf P o st C K' := by
  unfold loadOf at *
  split at h
  · split at h
    · exact loadVC_mono hq h
    · exact h.elim
  · exact h.elim

theorem storeRow_mono {a : Addr} : ∀ {vs : List Value} {i : Nat} {w : World} {φ ψ : World → Prop}, (∀ w, φ w → ψ w) → storeRow a i vs w φ → storeRow a i vs w ψ
  | [], _, _, _, _, hq, h => hq _ h
  | v :: vs, i, w, φ, ψ, hq, h => by
    cases v <;> simp only [storeRow] at h ⊢ <;> first
      | exact h.elim
      | exact ⟨h.1, h.2.1, storeRow_mono hq h.2.2⟩

theorem callX_mono {f : FuncId} {args : Array Value} {w : World} {R R' : Value → World → Prop} (hr : ∀ v w', R v w' → R' v w') (h : callX Z P f args w R) : callX Z P f args w R' := by
  cases Z with
  | none => exact Run.mono h hr
  | some Y => exact RunE.mono h hr fun _ _ h => h

theorem opVC_mono {o : Oper} {st : St} {w : World} {K K' : Value → World → Prop} (hq : ∀ v w, K v w → K' v w) (h : opVC P Z o st w K) : opVC P Z o st w K' := by
  unfold opVC at *
  split at h
  · exact pureVC_mono (fun v => hq v w) h
  · exact loadOf_mono (fun v => hq v w) h
  · split at h
    · split at h
      · unfold storeVC at *
        split at h
        · split at h
          · rename_i hn; simp only [hn, if_true]; exact storeRow_mono (fun _ => hq _ _) h
          · exact h.elim
        · exact h.elim
      · exact h.elim
    · exact h.elim
  · split at h
    · exact hq _ _ h
    · exact h.elim
  · obtain ⟨v, w', hr, ht⟩ := h
    exact ⟨v, w', hr, typed_mono (fun u => hq u w') ht⟩
  · split at h
    · split at h
      · split at h
        · rename_i hg; simp only [hg, if_true]; exact callX_mono (fun v w' ht => typed_mono (fun u => hq u w') ht) h
        · exact h.elim
      · exact h.elim
    · exact h.elim
  · split at h
    · split at h
      · obtain ⟨g, fs, cs, hx, hg, h⟩ := h
        exact ⟨g, fs, cs, hx, hg, callX_mono (fun v w' ht => typed_mono (fun u => hq u w') ht) h⟩
      · exact h.elim
    · exact h.elim
  · exact h
  · exact h.elim

theorem guardVC_mono {all : List Oper} {o : Oper} {st : St} {y n y' n' : St → Prop} (hy : ∀ st, y st → y' st) (hn : ∀ st, n st → n' st)
    (h : guardVC all o st y n) : guardVC all o st y' n' := by
  unfold guardVC at *
  split at h
  · exact hy _ h
  · split at h
    · exact h.elim
    · split at h
      · refine ifP_mono ?_ ?_ h <;> (intro h; split at h <;> first | (rename_i hc; simp only [hc, if_true]; exact hy _ h) | (rename_i hc; simp only [hc, if_true]; exact hn _ h) | (rename_i hc; simp only [hc]; exact hn _ h) | (rename_i hc; simp only [hc]; exact hy _ h))
      · exact hn _ h
      · exact h.elim

theorem opsVC_mono {all : List Oper} {K K' : St → World → Prop} (hq : ∀ st w, K st w → K' st w) : ∀ (l : List Oper) (st : St) (w : World),
    opsVC P Z all K l st w → opsVC P Z all K' l st w
  | [], _, _, h => hq _ _ h
  | o :: l, st, w, h => guardVC_mono (fun st h => opVC_mono (fun _ _ => opsVC_mono hq l _ _) h) (fun st h => opsVC_mono hq l _ _ h) h

theorem holdS_mono {S : Option (World → Prop)} {w : World} {p q : Prop} (hq : p → q) (h : holdS S w p) : holdS S w q := by
  cases S with
  | none => exact hq h
  | some S => exact ⟨h.1, hq h.2⟩

theorem allVC_mono {f g : Nat → Prop} {b c : Prop} (hf : ∀ i, f i → g i) (hb : b → c) : ∀ {rs : List Nat}, allVC f b rs → allVC g c rs
  | [], h => hb h
  | [_], h => hf _ h
  | _ :: _ :: _, h => ⟨hf _ h.1, allVC_mono hf hb h.2⟩

theorem drawVC_mono {ops : List Oper} {S : Option (World → Prop)} {K K' : St → World → Prop} (hq : ∀ st w, K st w → K' st w) :
    ∀ (n : Nat) (listed : List Bool) (st : St) (w : World), drawVC P Z ops S K n listed st w → drawVC P Z ops S K' n listed st w
  | 0, listed, st, w, h => by
    simp only [drawVC] at h ⊢
    split at h
    · rename_i hc; simp only [hc, if_true]; exact hq _ _ h
    · exact h.elim
  | n + 1, listed, st, w, h => by
    simp only [drawVC] at h ⊢
    split at h
    · rename_i i hi
      cases ho : nth ops i with
      | none => rw [ho] at h; exact h.elim
      | some o =>
        rw [ho] at h
        simp only [] at h ⊢
        refine guardVC_mono (fun st h => ?_) (fun st h => drawVC_mono hq n _ _ _ h) h
        split at h
        · exact loadOf_mono (fun _ => drawVC_mono hq n _ _ _) h
        · exact pureVC_mono (fun _ => drawVC_mono hq n _ _ _) h
    · refine allVC_mono (fun i h => ?_) (hq _ _) h
      cases ho : nth ops i with
      | none => rw [ho] at h; exact h.elim
      | some o =>
        rw [ho] at h
        simp only [] at h ⊢
        refine guardVC_mono (fun st h => opVC_mono (fun _ _ h => ?_) h) (fun st h => drawVC_mono hq n _ _ _ h) h
        split at h
        · rename_i hl; rw [if_pos hl]; exact drawVC_mono hq n _ _ _ h
        · rename_i hl; rw [if_neg hl]; exact holdS_mono (drawVC_mono hq n _ _ _) h

theorem regionVC_mono {ops : List Oper} {d : Bool} {K K' : St → World → Prop} (hq : ∀ st w, K st w → K' st w) {st : St} {w : World}
    (h : regionVC P Z ops d K st w) : regionVC P Z ops d K' st w := by
  unfold regionVC at *
  split at h
  · rename_i hd
    simp only [hd, if_true]
    split at h
    · rename_i hc; simp only [hc, if_true]; exact opsVC_mono hq _ _ _ h
    · rename_i hc
      simp only [hc]
      split at h
      · rename_i hs
        simp only [hs, if_true]
        split at h
        · rename_i hl; simp only [hl, if_true]; exact h.imp fun _ h => ⟨h.1, drawVC_mono hq _ _ _ _ h.2⟩
        · rename_i hl; simp only [hl]; exact drawVC_mono hq _ _ _ _ h
      · exact h.elim
  · rename_i hd; simp only [hd]; exact opsVC_mono hq _ _ _ h

theorem thenK_mono {K₁ K₁' : St → World → Prop} {K K' : Ex → St → World → Prop} (h₁ : ∀ st w, K₁ st w → K₁' st w) (h : ∀ e st w, K e st w → K' e st w) :
    ∀ e st w, thenK K₁ K e st w → thenK K₁' K' e st w
  | .normal, _, _, hh => h₁ _ _ hh
  | .exit _, _, _, hh => h _ _ _ hh
  | .ret, _, _, hh => h _ _ _ hh

theorem blockK_mono {id : Nat} {K K' : Ex → St → World → Prop} (h : ∀ e st w, K e st w → K' e st w) : ∀ e st w, blockK id K e st w → blockK id K' e st w
  | .normal, _, _, hh => h _ _ _ hh
  | .exit i, _, _, hh => by
    simp only [blockK] at hh ⊢
    split at hh
    · rename_i hc; simp only [hc, if_true]; exact h _ _ _ hh
    · rename_i hc; simp only [hc]; exact h _ _ _ hh
  | .ret, _, _, hh => h _ _ _ hh

theorem code_mono {live : Nat → List Nat} (c : Code) : ∀ {b : Nat} {K K' : Ex → St → World → Prop} {st : St} {w : World},
    (∀ e st w, K e st w → K' e st w) → code P Z live b c K st w → code P Z live b c K' st w := by
  induction c with
  | skip => intro b K K' st w hq h; exact hq _ _ _ h
  | region id ops d => intro b K K' st w hq h; exact regionVC_mono (fun _ _ => hq _ _ _) h
  | seq x y ihx ihy => intro b K K' st w hq h; exact ihx (thenK_mono (fun _ _ => ihy hq) hq) h
  | cond c x y ihx ihy =>
    intro b K K' st w hq h
    simp only [code] at h ⊢
    split at h
    · exact ifP_mono (ihx hq) (ihy hq) h
    · exact h.elim
  | block id x ih => intro b K K' st w hq h; exact ih (blockK_mono hq) h
  | loop x ih =>
    intro b K K' st w hq h X hX
    exact h X fun l w hl => hX l w fun ts => ih (thenK_mono (fun _ _ h => h) hq) (hl ts)
  | exit id => intro b K K' st w hq h; exact hq _ _ _ h
  | ret => intro b K K' st w hq h; exact hq _ _ _ h
  | label l => intro b K K' st w hq h; exact hq _ _ _ h
  | scope x ih => intro b K K' st w hq h; exact ih hq h
  | _ => intro b K K' st w hq h; exact h.elim

/-! ## Sound -/

def exitOf : Ex → Exit
  | .normal => .normal
  | .exit id => .exit id
  | .ret => .ret

theorem merge_clear {L : List Nat} : ∀ (st : St) (i : Nat), mergeFrom L (fun j => get st (j - i)) i (clearFrom L i st) = st
  | [], _ => rfl
  | v :: st, i => by
    simp only [clearFrom, mergeFrom]
    have ih := merge_clear (L := L) st (i + 1)
    have e : mergeFrom L (fun j => get (v :: st) (j - i)) (i + 1) (clearFrom L (i + 1) st) = mergeFrom L (fun j => get st (j - (i + 1))) (i + 1) (clearFrom L (i + 1) st) := by
      have key : ∀ (l : St) (k : Nat), i < k → mergeFrom L (fun j => get (v :: st) (j - i)) k l = mergeFrom L (fun j => get st (j - (i + 1))) k l := by
        intro l
        induction l with
        | nil => intro k _; rfl
        | cons u l ihl =>
          intro k hk
          simp only [mergeFrom]
          rw [ihl (k + 1) (by omega)]
          have : k - i = (k - (i + 1)) + 1 := by omega
          rw [this, get]
      exact key _ _ (by omega)
    rw [e, ih]
    congr 1
    cases isIn L i with
    | true => rfl
    | false => simp [get]

theorem pan_then {N : Act → World → Prop} {Q : Exit → Act → World → Prop} (h : Pan Z D Q) : Pan Z D (Exit.then N Q) := h
theorem pan_block {id : Nat} {Q : Exit → Act → World → Prop} (h : Pan Z D Q) : Pan Z D (Exit.inBlock id Q) := h
theorem code_sound {live : Nat → List Nat} (hm : P.follows .mixedOrders = true) (c : Code) : ∀ {b : Nat} {K : Ex → St → World → Prop}
    {Q : Exit → Act → World → Prop} {st : St} {w : World}, Pan Z D Q → (∀ e st w, K e st w → Q (exitOf e) (act D st) w) → code P Z live b c K st w → c.wp P Q (act D st) w := by
  induction c with
  | skip => intro b K Q st w hX hK h; exact wp_skip (hK .normal _ _ h)
  | region id ops d => intro b K Q st w hX hK h; exact region_sound hm hX (fun _ _ h => hK .normal _ _ h) h
  | seq x y ihx ihy =>
    intro b K Q st w hX hK h
    refine wp_seq (ihx (pan_then hX) (fun e st w h => ?_) h)
    cases e with
    | normal => exact ihy hX hK h
    | exit id => exact hK (.exit id) _ _ h
    | ret => exact hK .ret _ _ h
  | cond c x y ihx ihy =>
    intro b K Q st w hX hK h
    simp only [code] at h
    split at h
    · rename_i t hc
      refine wp_cond (t := t) (by rw [act_eval]; exact hc) ?_
      cases t
      · exact ihy hX hK h
      · exact ihx hX hK h
    · exact h.elim
  | block id x ih =>
    intro b K Q st w hX hK h
    refine wp_block (ih (pan_block hX) (fun e st w h => ?_) h)
    cases e with
    | normal => exact hK .normal _ _ h
    | exit i =>
      simp only [blockK, exitOf, Exit.inBlock] at h ⊢
      split at h
      · rename_i hc; rw [if_pos (Nat.eq_of_beq_eq_true hc)]; exact hK .normal _ _ h
      · rename_i hc; rw [if_neg (fun he => hc (by rw [he]; exact Nat.beq_refl _))]; exact hK (.exit i) _ _ h
    | ret => exact hK .ret _ _ h
  | loop x ih =>
    intro b K Q st w hX hK h
    let X : St → World → Prop := fun l w => ∀ st, clearFrom (live b) 0 st = l → ∀ (f : Frame) (k : List Item) (cs : List Frame),
      ∃ e a' w', Q e a' w' ∧ Arrives P (lone (f.at (act D st) (.code x :: .inLoop x :: k)) cs w) f k cs e a' w'
    have hX' : X (clearFrom (live b) 0 st) w := h X fun l w hl st hst f k cs => by
      have hb := hl (fun j => get st (j - 0))
      rw [← hst, merge_clear] at hb
      have hwp : x.wp P (Exit.then (fun a w => ∀ (f : Frame) (k : List Item) (cs : List Frame),
          ∃ e a' w', Q e a' w' ∧ Arrives P (lone (f.at a (.code x :: .inLoop x :: k)) cs w) f k cs e a' w') Q) (act D st) w := by
        refine ih (pan_then hX) (fun e st' w' h => ?_) hb
        cases e with
        | normal => exact h st' rfl
        | exit id => exact hK (.exit id) _ _ h
        | ret => exact hK .ret _ _ h
      obtain ⟨e, a₁, w₁, hq, harr⟩ := hwp f (.inLoop x :: k) cs
      cases e with
      | normal =>
        obtain ⟨e₂, a₂, w₂, hq₂, harr₂⟩ := hq f k cs
        exact ⟨e₂, a₂, w₂, hq₂, .of_steps (Steps.trans harr (.one step_inLoop)) harr₂⟩
      | exit id => exact ⟨_, a₁, w₁, hq, .pass (x := .inLoop x) rfl (fun _ _ => .inl (by simp)) harr⟩
      | goto l => exact ⟨_, a₁, w₁, hq, .pass (x := .inLoop x) rfl (fun _ _ => .inl (by simp)) harr⟩
      | ret => exact ⟨_, a₁, w₁, hq, .pass (x := .inLoop x) rfl (fun _ _ => .inl (by simp)) harr⟩
      | panic ch => exact ⟨_, a₁, w₁, hq, .pass (x := .inLoop x) rfl (fun _ _ => .inl (by simp)) harr⟩
      | outgrown => exact ⟨_, a₁, w₁, hq, .pass (x := .inLoop x) rfl (fun _ _ => .inl (by simp)) harr⟩
    intro f k cs
    obtain ⟨e, a', w', hq, harr⟩ := hX' st rfl f k cs
    exact ⟨e, a', w', hq, .of_steps (.one step_loop) harr⟩
  | exit id => intro b K Q st w hX hK h; exact wp_exit (hK (.exit id) _ _ h)
  | ret => intro b K Q st w hX hK h; exact wp_ret (hK .ret _ _ h)
  | label l => intro b K Q st w hX hK h; exact wp_label (hK .normal _ _ h)
  | scope x ih => intro b K Q st w hX hK h; exact wp_scope_straight (ih (Q := Exit.noGoto Q) (fun Y hY c a w hd hc => hX Y hY c a w hd hc) (fun e st w h => by cases e <;> exact hK _ _ _ h) h)
  | _ => intro b K Q st w hX hK h; exact h.elim

/-- A loop's round: what holds of the body with the loop behind it holds of the loop. -/
theorem loop_step {live : Nat → List Nat} {b : Nat} {x : Code} {K : Ex → St → World → Prop} {l : St} {w : World}
    (h : loopF (fun K => code P Z live b x K) (live b) K (fun l w => loopVC (fun K => code P Z live b x K) (live b) K l w) (clearFrom (live b) 0 l) w) :
    loopVC (fun K => code P Z live b x K) (live b) K l w := by
  intro X hX
  have cc : ∀ (L : List Nat) (st : St) (i : Nat), clearFrom L i (clearFrom L i st) = clearFrom L i st := by
    intro L st
    induction st with
    | nil => intro i; rfl
    | cons v st ih => intro i; simp only [clearFrom, ih]; cases isIn L i <;> rfl
  refine hX _ _ fun ts => code_mono x (thenK_mono (fun st' w' h' => ?_) (fun _ _ _ h => h)) (h ts)
  have := h' X hX
  rwa [cc] at this

/-! ## Functions -/

def resOf (tmps : Array Value) : ResultVar → Sem Value
  | .tmp t => pure (tmps.getD t undef)
  | .cell a t => do loadVar t (← asAddr (tmps.getD a undef))

theorem resVC_sound {w : World} {st : St} : ∀ {rs : List ResultVar} {φ : List Value → Prop}, resVC P w st rs φ →
    ∃ vs, (rs.mapM (resOf (act D st).tmps)).run P w = .ok vs w ∧ φ vs
  | [], φ, h => ⟨[], rfl, h⟩
  | .tmp t :: rs, φ, h => by
    obtain ⟨vs, hr, h⟩ := resVC_sound (rs := rs) h
    refine ⟨_, ?_, h⟩
    have e : (resOf (act D st).tmps (.tmp t)).run P w = .ok (get st t) w := by simp [resOf, act, get_eq]
    rw [List.mapM_cons, Sem.run_bind, e, Result.andThen_ok, Sem.run_bind, hr]
    rfl
  | .cell a t :: rs, φ, h => by
    simp only [resVC] at h
    split at h
    · rename_i ad ha
      obtain ⟨v, h, hv⟩ := loadVC_sound h
      obtain ⟨vs, hr, h⟩ := resVC_sound (rs := rs) h
      refine ⟨_, ?_, h⟩
      have e0 : (act D st).tmps.getD a undef = .pointer (some ad) := by rw [← ha, get_eq]; rfl
      have e : (resOf (act D st).tmps (.cell a t)).run P w = .ok v w := by
        simp only [resOf, e0, Sem.run_bind, asAddr, Sem.run_pure, Result.andThen_ok]
        exact hv w fun _ _ h => h
      rw [List.mapM_cons, Sem.run_bind, e, Result.andThen_ok, Sem.run_bind, hr]
      rfl
    · exact h.elim

theorem results_sound {fn : Func} {w : World} {st : St} {R : Value → World → Prop} (h : resVC P w st fn.results.toList fun vs => R (oneOr vs) w) :
    ∃ v, (results fn (act D st).tmps).run P w = .ok v w ∧ R v w := by
  obtain ⟨vs, hr, h⟩ := resVC_sound h
  refine ⟨_, ?_, h⟩
  have e : results fn (act D st).tmps = (do let vs ← fn.results.mapM (resOf (act D st).tmps); pure (if h : vs.size = 1 then vs[0] else .tuple vs)) := by
    unfold results
    rfl
  have e2 : fn.results.mapM (resOf (act D st).tmps) = List.toArray <$> fn.results.toList.mapM (resOf (act D st).tmps) := by
    rw [← List.mapM_toArray, Array.toArray_toList]
  rw [e, e2, Sem.run_bind, Sem.run_map, hr]
  simp only [Result.andThen_ok, Sem.run_pure]
  match vs with
  | [] => rfl
  | [v] => rfl
  | _ :: _ :: _ => simp [oneOr]

theorem undefs_eq : ∀ n, undefs n = List.replicate n undef
  | 0 => rfl
  | n + 1 => by rw [undefs, undefs_eq n, List.replicate_succ]

/-- **The weakest precondition of a whole function is one.** -/
theorem fn_sound {live : Nat → List Nat} {f : FuncId} {fn : Func} {R : Value → World → Prop} {args : List Value} {w : World}
    (hm : P.follows .mixedOrders = true) (hf : P.funcs[f]? = some fn) (hb : fn.body.isSome = true) (h : fnVC P none live fn R args w) :
    Run P f args.toArray w R := by
  obtain ⟨c, hc⟩ := Option.isSome_iff_exists.1 hb
  refine calls_of_wp hf hc ?_
  have e : ({ tmps := args.toArray ++ Array.replicate (fn.ntmps - args.toArray.size) undef, defers := [] } : Act) = act [] (args ++ undefs (fn.ntmps - args.length)) := by
    simp [act, undefs_eq]
  rw [e]
  unfold fnVC bodyOf at h
  rw [hc] at h
  refine code_sound hm c (fun Y hY => by cases hY) (fun e st w hK => ?_) h
  cases e with
  | normal => obtain ⟨v, hr, hR⟩ := results_sound hK; exact ⟨rfl, v, hr, v, rfl, hR⟩
  | ret => obtain ⟨v, hr, hR⟩ := results_sound hK; exact ⟨rfl, v, hr, v, rfl, hR⟩
  | exit id => exact hK.elim

/-- The same of a function that may end by a panic. -/
theorem fn_soundE {live : Nat → List Nat} {f : FuncId} {fn : Func} {R : Value → World → Prop} {X : List PanicEntry → World → Prop} {args : List Value} {w : World}
    (hm : P.follows .mixedOrders = true) (hf : P.funcs[f]? = some fn) (hb : fn.body.isSome = true) (h : fnVC P (some X) live fn R args w) :
    RunE P f args.toArray w R X := by
  obtain ⟨c, hc⟩ := Option.isSome_iff_exists.1 hb
  refine calls_of_wp hf hc ?_
  have e : ({ tmps := args.toArray ++ Array.replicate (fn.ntmps - args.toArray.size) undef, defers := [] } : Act) = act [] (args ++ undefs (fn.ntmps - args.length)) := by
    simp [act, undefs_eq]
  rw [e]
  unfold fnVC bodyOf at h
  rw [hc] at h
  refine code_sound hm c (fun Y hY c a w hd hc => ?_) (fun e st w hK => ?_) h
  · obtain rfl := Option.some.inj hY
    exact ⟨hd, hc⟩
  cases e with
  | normal => obtain ⟨v, hr, hR⟩ := results_sound hK; exact ⟨rfl, v, hr, hR⟩
  | ret => obtain ⟨v, hr, hR⟩ := results_sound hK; exact ⟨rfl, v, hr, hR⟩
  | exit id => exact hK.elim
end
end Go.Rd
