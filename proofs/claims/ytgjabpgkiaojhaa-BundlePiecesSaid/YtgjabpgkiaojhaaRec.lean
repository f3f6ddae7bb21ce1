/- A deferred call that recovers; a sequence whose end is walked apart. -/
import Derived.Test.YtgjabpgkiaojhaaS4
import Derived.Defers
namespace Go.Rd
set_option linter.unusedVariables false
section
variable {P : Program}

/-- What 'recover' tells the deferred call of a frame in this mode, and the mode behind it. -/
def recovers : FrameMode → Value × FrameMode
  | .panicking ({ v, recovered := false, goexit := false } :: older) => (v, .panicking ({ v, recovered := true } :: older))
  | u => (.nilIface, u)

theorem step_recover {b c : Frame} {a : Act} {ops : Array Oper} {i : Nat} {is : List Nat} {k : List Item} {cs : List Frame} {w : World} {o : Oper} {cc : Call} (ho : ops[i]? = some o) (hg : o.guard = none) (hop : o.op = .call cc) (hc : cc.callee = .builtin .recover) (hk : b.kind = .deferred) :
    step P (lone (b.at a (.inRegion ops (i :: is) :: k)) (c :: cs) w) = .next (lone (b.at (a.put o.dst (recovers c.mode).1) (.inRegion ops is :: k)) ({ c with mode := (recovers c.mode).2 } :: cs) w) := by
  have hw : Region.wanted o (yielded ops a.tmps) = true := by simp [Region.wanted, hg]
  have hf := Frame.finish_at b a ops i is k (recovers c.mode).1
  have he : (ops[i]?).bind (·.dst) = o.dst := by rw [ho]; rfl
  rw [he] at hf
  refine step_lone_go ?_
  rw [stepG_op ho hw, ← hf]
  have hr : (execOp a.eval o).run P w = .ok .recover w := by
    simp [execOp, hop, resolve, hc, invoke, builtin]
  have hround : (b.at a (.inRegion ops (i :: is) :: k)).roundOf = none := rfl
  have htr : tryRecover (b.at a (.inRegion ops (i :: is) :: k)) (c :: cs) = (match c.mode with
      | .panicking ({ v, recovered := false, goexit := false } :: older) => some (v, { c with mode := .panicking ({ v, recovered := true } :: older) } :: cs)
      | _ => none) := by
    simp [tryRecover, Frame.at, hk]
    split <;> simp_all
  unfold stepG.apply
  simp only [Sem.runT_eq, hr, GStep.bare_after, hround, htr]
  unfold recovers
  obtain ⟨fn, tmps, todo, defers, mode, kind, ro⟩ := c
  cases mode with
  | panicking ch =>
    cases ch with
    | nil => rfl
    | cons p l =>
      obtain ⟨v, r, g⟩ := p
      cases r <;> cases g <;> rfl
  | _ => rfl

/-- One operation that tells a value. -/
theorem step_value {b : Frame} {a : Act} {ops : Array Oper} {i : Nat} {is : List Nat} {k : List Item} {cs : List Frame} {w : World} {o : Oper} {v : Value} (ho : ops[i]? = some o) (hg : o.guard = none) (hr : (execOp a.eval o).run P w = .ok (.value v) w) :
    step P (lone (b.at a (.inRegion ops (i :: is) :: k)) cs w) = .next (lone (b.at (a.put o.dst v) (.inRegion ops is :: k)) cs w) := by
  have hw : Region.wanted o (yielded ops a.tmps) = true := by simp [Region.wanted, hg]
  have hf := Frame.finish_at b a ops i is k v
  have he : (ops[i]?).bind (·.dst) = o.dst := by rw [ho]; rfl
  rw [he] at hf
  refine step_lone_go ?_
  rw [stepG_op ho hw, ← hf]
  unfold stepG.apply
  simp only [Sem.runT_eq, hr, GStep.bare_after]
  rfl

/-- A deferred call whose first thing is to recover. -/
theorem callsD_recover {f : FuncId} {fn : Func} {id : Nat} {ops : Array Oper} {rest : Code} {o0 o1 : Oper} {cc : Call} {d0 : Nat} {args : Array Value} {u : FrameMode} {w : World} {R : Ending → World → Prop}
    (hf : P.funcs[f]? = some fn) (hb : fn.body = some (.seq (.region id ops false) rest)) (hs : ops.size = 2) (h0 : ops[0]? = some o0) (h1 : ops[1]? = some o1) (g0 : o0.guard = none) (g1 : o1.guard = none) (hd0 : o0.dst = some d0)
    (hop : o0.op = .call cc) (hc : cc.callee = .builtin .recover) (hop1 : o1.op = .assign (.tmp d0)) (hd : d0 < fn.ntmps) (ha : args.size ≤ fn.ntmps)
    (h : rest.wp P (bodyPost P fn R) ((Act.put { tmps := args ++ Array.replicate (fn.ntmps - args.size) undef, defers := [] } (some d0) (recovers u).1).put o1.dst (recovers u).1) w) :
    CallsD P f args u w fun e u' w' => u' = (recovers u).2 ∧ R e w' := by
  intro c cs hu
  let b : Frame := { (default : Frame) with fn := f, kind := .deferred }
  let a : Act := { tmps := args ++ Array.replicate (fn.ntmps - args.size) undef, defers := [] }
  have henter : Frame.enter P f args .deferred = b.at a [.code (.seq (.region id ops false) rest)] := by
    simp [Frame.enter, Frame.at, hf, hb, b, a]
  let c' : Frame := { c with mode := (recovers u).2 }
  have s1 : Steps P (lone (b.at a [.code (.seq (.region id ops false) rest)]) (c :: cs) w) (lone (b.at ((a.put (some d0) (recovers u).1).put o1.dst (recovers u).1) [.code rest]) (c' :: cs) w) := by
    refine .head step_seq (.head step_region ?_)
    have hl : List.range ops.size = [0, 1] := by rw [hs]; rfl
    rw [hl]
    have r1 := step_recover (P := P) (b := b) (c := c) (a := a) (is := [1]) (k := [.code rest]) (cs := cs) (w := w) h0 g0 hop hc rfl
    rw [hd0, hu] at r1
    refine .head r1 ?_
    have hv : (execOp (a.put (some d0) (recovers u).1).eval o1).run P w = .ok (.value (recovers u).1) w := by
      have hlt : d0 < (args ++ Array.replicate (fn.ntmps - args.size) undef).size := by simp; omega
      simp only [execOp, hop1, Sem.run_pure]
      congr 2
      simp only [Act.eval, Act.put, a]
      simp [Array.getD]
      intro hh
      omega
    refine .head (step_value h1 g1 hv) (.one step_region_end)
  obtain ⟨e, a', w', hq, harr⟩ := h b [] (c' :: cs)
  rw [henter]
  cases e with
  | normal =>
    obtain ⟨hd, v, hr, hR⟩ := hq
    exact ⟨.returned v, _, w', _, ⟨rfl, hR⟩, Steps.trans s1 (Steps.trans harr (.one step_end)), rfl, rfl, hd, fn, hf, hr⟩
  | ret =>
    obtain ⟨hd, v, hr, hR⟩ := hq
    obtain ⟨todo, hs⟩ := harr
    exact ⟨.returned v, _, w', _, ⟨rfl, hR⟩, Steps.trans s1 hs, rfl, rfl, hd, fn, hf, hr⟩
  | panic chain =>
    obtain ⟨hd, hR⟩ := hq
    obtain ⟨todo, hs⟩ := harr
    exact ⟨.panicked chain, _, w', _, ⟨rfl, hR⟩, Steps.trans s1 hs, rfl, rfl, hd, fn, hf⟩
  | exit id => exact hq.elim
  | goto l => exact hq.elim
  | outgrown => exact ⟨.outgrown, _, w', b, ⟨rfl, hq⟩, Outgrown.of_steps s1 (harr.resolve_left (by simp [b])), rfl, trivial⟩

/-! ## A sequence whose end is walked apart -/

def restAt : Nat → Code → Code
  | 0, .seq _ y => y
  | n + 1, .seq _ y => restAt n y
  | n + 1, .cond _ _ y => restAt n y
  | _, c => c
def ones : Nat → List Nat
  | 0 => []
  | n + 1 => 1 :: ones n
theorem spine_wp {Z : Xs} {D : List Deferred} {live : Nat → List Nat} {J : St → World → Prop} {K : Ex → St → World → Prop} {Q : Exit → Act → World → Prop} (hm : P.follows .mixedOrders = true) (hX : Pan Z D Q) (hK : ∀ e st w, K e st w → Q (exitOf e) (act D st) w) :
    ∀ {n : Nat} {c : Code} {st : St} {w : World}, (∀ st w, J st w → (restAt n c).wp P Q (act D st) w) → spine P Z live J (ones n) 0 c K st w → c.wp P Q (act D st) w
  | 0, c, st, w, hJ, h => by
    cases c with
    | seq x y =>
      refine wp_seq (code_sound hm x (pan_then hX) (fun e st w h => ?_) h)
      cases e with
      | normal => exact hJ st w h
      | exit id => exact hK (.exit id) _ _ h
      | ret => exact hK .ret _ _ h
    | _ => exact h.elim
  | n + 1, c, st, w, hJ, h => by
    cases c with
    | seq x y =>
      refine wp_seq (code_sound hm x (pan_then hX) (fun e st w h => ?_) h)
      cases e with
      | normal => exact spine_wp hm hX hK (n := n) hJ h
      | exit id => exact hK (.exit id) _ _ h
      | ret => exact hK .ret _ _ h
    | cond cc x y =>
      have h' : (match ev st cc with | .bool t => ifP t (code P Z live 0 x K st w) (spine P Z live J (ones n) 0 y K st w) | _ => False) := h
      split at h'
      · rename_i t hc
        refine wp_cond (t := t) (by rw [act_eval]; exact hc) ?_
        cases t
        · exact spine_wp hm hX hK (n := n) hJ h'
        · exact code_sound hm x hX hK h'
      · exact h'.elim
    | _ => exact h.elim

/-- The operation at a place of a region. -/
def opAt (c : Code) (i : Nat) : Oper := match c with
  | .region _ ops _ => (nth ops.toList i).getD ⟨none, .move (.const undef), 0, "", #[], none⟩
  | _ => ⟨none, .move (.const undef), 0, "", #[], none⟩

theorem run_callFunc {g : FuncId} {args : Array Value} (hg : okCall P g = true) (w : World) : (callFunc g args).run P w = .ok (.enter g args) w := by
  unfold okCall at hg
  split at hg
  · rename_i fn hf
    simp only [Bool.and_eq_true, Bool.not_eq_true'] at hg
    obtain ⟨hb, hn⟩ := hg
    have hb' : fn.body ≠ none := by intro h; simp [h] at hb
    have hn' : fn.name ≠ "runtime.NumGoroutine" := by simpa using hn
    simp only [callFunc, program]
    simp [Sem.run, hf, hn', hb']
  · cases hg

/-- A closure over two variables is made, and deferred. -/
theorem wp_defer_two {Q : Exit → Act → World → Prop} {id g i j d : Nat} {o0 o1 : Oper} {cc : Call} {st : St} {w : World} (h0 : o0.op = .makeFunc (.func g) #[] #[.tmp i, .tmp j]) (d0 : o0.dst = some d) (g0 : o0.guard = none) (h1 : o1.op = .defer cc) (hc : cc.callee = .value (.tmp d)) (ha : cc.args = #[])
    (d1 : o1.dst = none) (g1 : o1.guard = none) (hd : d < st.length)
    (hq : Q .normal (act [{ target := .fn (.func g) #[get st i, get st j], args := #[] }] (st.set d (.func (.func g) #[] #[get st i, get st j]))) w) : (Code.region id #[o0, o1] false).wp P Q (act [] st) w := by
  have e0 : (execOp (ev st) o0).run P w = .ok (.value (.func (.func g) #[] #[get st i, get st j])) w := by
    simp [execOp, h0, Instr.makeFunc, ev]
  have gd : get (st.set d (.func (.func g) #[] #[get st i, get st j])) d = .func (.func g) #[] #[get st i, get st j] := by
    rw [get_eq]; simp [Array.getD, hd]
  have e1 : (execOp (ev (st.set d (.func (.func g) #[] #[get st i, get st j]))) o1).run P w = .ok (.defer { target := .fn (.func g) #[get st i, get st j], args := #[] }) w := by
    simp only [execOp, h1, resolve, hc, ha, ev, gd, Deferred.ofValue]
    simp
  refine wp_region_list ?_
  show wpList P #[o0, o1] Q [o0, o1] (act [] st) w
  unfold wpList
  rw [if_pos (by simp [Region.wanted, g0])]
  refine .inl ?_
  unfold Oper.wp
  rw [act_eval, e0, Oper.upon_value, act_put, d0]
  show wpList P #[o0, o1] Q [o1] (act [] (st.set d _)) w
  unfold wpList
  rw [if_pos (by simp [Region.wanted, g1])]
  refine .inl ?_
  unfold Oper.wp
  rw [act_eval, e1, Oper.upon_defer, d1]
  exact hq
/-! ## Code cut at a place, walked to its end -/

theorem code_wp {D : List Deferred} {live : Nat → List Nat} {b : Nat} {c : Code} {Q : Exit → Act → World → Prop} {st : St} {w : World} (hm : P.follows .mixedOrders = true)
    (h : code P none live b c (fun e st w => Q (exitOf e) (act D st) w) st w) : c.wp P Q (act D st) w :=
  code_sound (Z := none) hm c (fun Y hY => by cases hY) (fun _ _ _ h => h) h

/-- What stands behind that place, of what comes at the end. -/
def behindW (P : Program) : List Nat → Code → (Exit → Act → World → Prop) → Act → World → Prop
  | [], .seq _ y, Q => y.wp P Q
  | 0 :: p, .seq x y, Q => behindW P p x (Exit.then (y.wp P Q) Q)
  | 1 :: p, .seq _ y, Q => behindW P p y Q
  | 0 :: p, .block id x, Q => behindW P p x (Exit.inBlock id Q)
  | _, _, _ => fun _ _ => False
/-- A way of sequences and blocks. -/
def wayOk : List Nat → Code → Bool
  | [], .seq _ _ => true
  | 0 :: p, .seq x _ => wayOk p x
  | 1 :: p, .seq _ y => wayOk p y
  | 0 :: p, .block _ x => wayOk p x
  | _, _ => false
theorem spine_wpW {D : List Deferred} {live : Nat → List Nat} {J : St → World → Prop} (hm : P.follows .mixedOrders = true) : ∀ {p : List Nat} {b : Nat} {c : Code} {K : Ex → St → World → Prop} {Q : Exit → Act → World → Prop} {st : St} {w : World},
    wayOk p c = true → (∀ e st w, K e st w → Q (exitOf e) (act D st) w) → (∀ st w, J st w → behindW P p c Q (act D st) w) → spine P none live J p b c K st w → c.wp P Q (act D st) w := by
  have hX : ∀ Q : Exit → Act → World → Prop, Pan none D Q := fun Q Y hY => by cases hY
  intro p
  induction p with
  | nil =>
    intro b c K Q st w ho hK hJ h
    cases c with
    | seq x y =>
      refine wp_seq (code_sound hm x (hX _) (fun e st w h => ?_) h)
      cases e with
      | normal => exact hJ st w h
      | exit id => exact hK (.exit id) _ _ h
      | ret => exact hK .ret _ _ h
    | _ => exact h.elim
  | cons i p ih =>
    intro b c K Q st w ho hK hJ h
    rcases i with _ | _ | i
    · cases c with
      | seq x y =>
        refine wp_seq (ih ho (fun e st w h => ?_) hJ h)
        cases e with
        | normal => exact code_sound hm y (hX _) hK h
        | exit id => exact hK (.exit id) _ _ h
        | ret => exact hK .ret _ _ h
      | block id x =>
        refine wp_block (ih ho (fun e st w h => ?_) hJ h)
        cases e with
        | normal => exact hK .normal _ _ h
        | exit i =>
          simp only [blockK, exitOf, Exit.inBlock] at h ⊢
          split at h
          · rename_i hc; rw [if_pos (Nat.eq_of_beq_eq_true hc)]; exact hK .normal _ _ h
          · rename_i hc; rw [if_neg (fun he => hc (by rw [he]; exact Nat.beq_refl _))]; exact hK (.exit i) _ _ h
        | ret => exact hK .ret _ _ h
      | scope x => cases ho
      | cond cc x y => cases ho
      | _ => exact h.elim
    · cases c with
      | seq x y =>
        refine wp_seq (code_sound hm x (hX _) (fun e st w h => ?_) h)
        cases e with
        | normal => exact ih ho hK hJ h
        | exit id => exact hK (.exit id) _ _ h
        | ret => exact hK .ret _ _ h
      | cond cc x y => cases ho
      | _ => exact h.elim
    · cases c <;> exact h.elim

/-- A function value in a variable is copied, and called. -/
theorem wp_call_tmp {Q : Exit → Act → World → Prop} {D : List Deferred} {id g i j d : Nat} {fs : Array Value} {o0 o1 : Oper} {cc : Call} {st : St} {w : World} {R : Value → World → Prop} {X : List PanicEntry → World → Prop}
    (h0 : o0.op = .move (.tmp i)) (d0 : o0.dst = some j) (g0 : o0.guard = none) (h1 : o1.op = .call cc) (hc : cc.callee = .value (.tmp j)) (ha : cc.args = #[])
    (d1 : o1.dst = some d) (g1 : o1.guard = none) (hj : j < st.length) (hf : get st i = .func (.func g) fs #[]) (hg : okCall P g = true) (hr : RunE P g fs w R X)
    (hq : ∀ v w', R v w' → Q .normal (act D ((st.set j (.func (.func g) fs #[])).set d v)) w') (hx : ∀ cs w', X cs w' → Q (.panic cs) (act D (st.set j (.func (.func g) fs #[]))) w') :
    (Code.region id #[o0, o1] false).wp P Q (act D st) w := by
  have e0 : (execOp (ev st) o0).run P w = .ok (.value (.func (.func g) fs #[])) w := by
    simp [execOp, h0, ev, hf]
  have gd : ev (st.set j (.func (.func g) fs #[])) (.tmp j) = .func (.func g) fs #[] := by
    show get _ _ = _
    rw [get_eq]; simp [Array.getD, hj]
  have e1 : (execOp (ev (st.set j (.func (.func g) fs #[]))) o1).run P w = .ok (.enter g fs) w := by
    have := dyn_sound h1 hc gd hg w
    rw [this, ha]
    simp
  refine wp_region_list ?_
  show wpList P #[o0, o1] Q [o0, o1] (act D st) w
  unfold wpList
  rw [if_pos (by simp [Region.wanted, g0])]
  refine .inl ?_
  unfold Oper.wp
  rw [act_eval, e0, Oper.upon_value, act_put, d0]
  show wpList P #[o0, o1] Q [o1] (act D (st.set j _)) w
  unfold wpList
  rw [if_pos (by simp [Region.wanted, g1])]
  refine .inl ?_
  unfold Oper.wp
  rw [act_eval, e1]
  refine Calls.mono hr fun e w' he => ?_
  cases e with
  | returned v =>
    show wpList P _ Q [] ((act D _).put o1.dst v) w'
    rw [act_put, d1]
    exact hq v w' he
  | panicked cs => exact hx cs w' he
  | outgrown => exact he.elim

theorem get_set_ne {st : St} {d i : Nat} {v : Value} (h : i ≠ d) : get (st.set d v) i = get st i := by
  rw [get_eq, get_eq]
  simp only [Array.getD_eq_getD_getElem?, List.getElem?_toArray]
  rw [List.getElem?_set_ne (fun e => h e.symm)]
theorem hasLen_set : ∀ {l : St} {n i : Nat} {v : Value}, hasLen l n = true → hasLen (l.set i v) n = true
  | [], n, i, v, h => by cases n <;> simp_all [hasLen]
  | u :: l, 0, i, v, h => by cases h
  | u :: l, n + 1, 0, v, h => h
  | u :: l, n + 1, i + 1, v, h => hasLen_set (l := l) h
end
end Go.Rd
