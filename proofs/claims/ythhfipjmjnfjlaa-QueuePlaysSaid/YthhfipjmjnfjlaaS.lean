/- The weakest precondition of YthhfipjmjnfjlaaE is sound. -/
import Derived.Test.YthhfipjmjnfjlaaE
import Derived.Laws.Slices
import Derived.Laws.Cells
namespace Go.Rd
set_option linter.unusedSimpArgs false
section
variable {P : Program}

theorem qVC_sound {o : Oper} {st : St} {K : Value → Prop} (h : qVC P o st K) : ∃ v, (∀ w, (execOp (ev st) o).run P w = .ok (.value v) w) ∧ K v := by
  unfold qVC at h
  split at h
  · rename_i v hq
    exact ⟨v, qrun_run _ hq, h⟩
  · exact h.elim

theorem bin_run {o : Oper} {op : BinOp} {t : TypeId} {x y : Operand} {yt : TypeId} {st : St} {v : Value} (ho : o.op = .binOp op t x y yt)
    (h : ∀ w, (do eqGuard op t x y (ev st x) (ev st y); binOp op t (ev st x) (ev st y) : Sem Value).run P w = .ok v w) (w : World) :
    (execOp (ev st) o).run P w = .ok (.value v) w := by
  have h' := h w
  simp only [execOp, ho]
  simp only [Sem.run_bind] at h' ⊢
  rw [h']
  rfl

theorem run_equalIn_nil {t e : TypeId} (hu : P.underlying t = some (.pointer e)) (d : Nat) (A : Option Addr) (w : World) :
    (Op.equalIn (d + 1) t (.pointer A) (.pointer none)).run P w = .ok A.isNone w := by
  have : (underlying t).run P w = .ok (.pointer e) w := by simp [underlying, program, hu, Sem.run, bind, Sem.bind, pure]
  cases A <;> simp [Op.equalIn, this]
theorem run_equal_nil {t : TypeId} (hp : isPointerT P t = true) (A : Option Addr) (w : World) :
    (Op.equal t (.pointer A) (.pointer none)).run P w = .ok A.isNone w := by
  unfold isPointerT at hp
  split at hp
  · rename_i e hu
    have := run_equalIn_nil hu 9999 A w
    unfold Op.equal Op.maxDepth
    exact this
  · cases hp

theorem binVC_sound {o : Oper} {op : BinOp} {t : TypeId} {x y : Operand} {yt : TypeId} {st : St} {K : Value → Prop} (ho : o.op = .binOp op t x y yt)
    (h : binVC P o op t y (ev st x) (ev st y) st K) : ∃ v, (∀ w, (execOp (ev st) o).run P w = .ok (.value v) w) ∧ K v := by
  unfold binVC at h
  split at h
  case h_1 k a k' b hx hy =>
    split at h
    · exact qVC_sound h
    · split at h
      · rename_i hk
        obtain ⟨hb, h⟩ := h
        exact ⟨_, bin_run ho fun w => by rw [hx, hy]; simp [eqGuard, binOp, hk, Op.intDiv, hb], h⟩
      · exact h.elim
  case h_2 k a k' b hx hy =>
    split at h
    · exact qVC_sound h
    · split at h
      · rename_i hk
        obtain ⟨hb, h⟩ := h
        exact ⟨_, bin_run ho fun w => by rw [hx, hy]; simp [eqGuard, binOp, hk, Op.intDiv, hb], h⟩
      · exact h.elim
  case h_3 k a k' b hx hy =>
    split at h
    · exact qVC_sound h
    · obtain ⟨hb, h⟩ := h
      exact ⟨_, bin_run ho fun w => by rw [hx, hy]; simp [eqGuard, binOp, Op.shift, Int.not_lt.2 hb], h⟩
  case h_4 k a k' b hx hy =>
    split at h
    · exact qVC_sound h
    · obtain ⟨hb, h⟩ := h
      exact ⟨_, bin_run ho fun w => by rw [hx, hy]; simp [eqGuard, binOp, Op.shift, Int.not_lt.2 hb], h⟩
  case h_5 a b hx hy =>
    obtain ⟨hb, h⟩ := h
    refine ⟨_, bin_run ho fun w => ?_, h⟩
    rw [hx, hy]
    have : ¬ (((a.size + b.size : Nat) : Int) > IntKind.i64.max) := by simp [IntKind.max, IntKind.signed, IntKind.bits]; omega
    simp only [eqGuard, binOp, Op.stringOp, if_neg this]
    rfl
  case h_6 A hx hy =>
    split at h
    · rename_i hp
      refine ⟨_, bin_run ho fun w => ?_, h⟩
      rw [hx, hy]
      have hq := run_equal_nil hp A w
      simp only [eqGuard, binOp, Sem.run_bind, hq]
      simp [hq]
    · exact h.elim
  case h_7 A hx hy =>
    split at h
    · rename_i hp
      refine ⟨_, bin_run ho fun w => ?_, h⟩
      rw [hx, hy]
      have hq := run_equal_nil hp A w
      simp only [eqGuard, binOp, Sem.run_bind, hq]
      simp [hq]
    · exact h.elim
  case h_8 => exact h.elim
  case h_9 => exact qVC_sound h

theorem run_underlying' {t : TypeId} {d : TypeDesc} (h : P.underlying t = some d) (w : World) : (underlying t).run P w = .ok d w := by
  simp [underlying, program, h, Sem.run, bind, Sem.bind, pure]

theorem elemSize_spec {t : TypeId} {sz : Nat} (h : elemSize P t = some sz) : ∃ e, P.underlying t = some (.slice e) ∧ ∀ w, (sizeOf e).run P w = .ok sz w := by
  unfold elemSize at h
  split at h
  · rename_i e hu
    refine ⟨e, hu, fun w => ?_⟩
    unfold sizeOfT at h
    cases hi : P.info? e with
    | none => simp [hi] at h
    | some i =>
      simp [hi] at h
      simp [sizeOf, typeInfo, program, hi, Sem.run, bind, Sem.bind, pure, h]
  · cases h

theorem arrayOf_spec {t : TypeId} {n sz : Nat} (h : arrayOf P t = some (n, sz)) : ∃ e, P.underlying t = some (.array n e) ∧ ∀ w, (sizeOf e).run P w = .ok sz w := by
  unfold arrayOf at h
  split at h
  · rename_i n' e hu
    unfold sizeOfT at h
    cases hi : P.info? e with
    | none => simp [hi] at h
    | some i =>
      simp [hi] at h
      obtain ⟨rfl, rfl⟩ := h
      exact ⟨e, hu, fun w => by simp [sizeOf, typeInfo, program, hi, Sem.run, bind, Sem.bind, pure]⟩
  · cases h

theorem run_sliceBound {k : IntKind} {i : Int} {y : Nat} {c : BoundsCode} (h0 : 0 ≤ i) (h1 : i ≤ (y : Int)) (w : World) :
    (Instr.sliceBound (.int k i) y c).run P w = .ok i.toNat w := by
  simp [Instr.sliceBound, asIntOf, h0, h1]

theorem sliceLo_spec {v : Option Value} {l : Int} (h : sliceLo v = some l) : (v = none ∧ l = 0) ∨ ∃ k, v = some (.int k l) := by
  unfold sliceLo at h
  split at h
  · exact .inl ⟨rfl, by simpa using h.symm⟩
  · rename_i k i; exact .inr ⟨k, by simp at h; rw [h]⟩
  · cases h
theorem sliceHi_spec {n : Nat} {v : Option Value} {l : Int} (h : sliceHi n v = some l) : (v = none ∧ l = n) ∨ ∃ k, v = some (.int k l) := by
  unfold sliceHi at h
  split at h
  · exact .inl ⟨rfl, by simpa using h.symm⟩
  · rename_i k i; exact .inr ⟨k, by simp at h; rw [h]⟩
  · cases h

theorem run_sliceBounds {b : Bool} {n c : Nat} {lo hi : Option Value} {l h : Int} (hl : sliceLo lo = some l) (hh : sliceHi n hi = some h)
    (h0 : 0 ≤ l) (h1 : l ≤ h) (h2 : h ≤ (c : Int)) (w : World) :
    (Instr.sliceBounds b n c lo hi none).run P w = .ok (l.toNat, h.toNat, c) w := by
  rcases sliceHi_spec hh with ⟨rfl, rfl⟩ | ⟨k, rfl⟩
  · rcases sliceLo_spec hl with ⟨rfl, rfl⟩ | ⟨k', rfl⟩
    · simp [Instr.sliceBounds]
    · simp [Instr.sliceBounds, run_sliceBound h0 h1]
  · rcases sliceLo_spec hl with ⟨rfl, rfl⟩ | ⟨k', rfl⟩
    · simp [Instr.sliceBounds, run_sliceBound h1 h2]
    · have h3 : 0 ≤ h := by omega
      have h4 : l ≤ ((h.toNat : Nat) : Int) := by omega
      simp only [Instr.sliceBounds, Sem.run_bind, Sem.run_pure, Result.andThen_ok, run_sliceBound h3 h2, run_sliceBound h0 h4]

theorem pure_sound {o : Oper} {st : St} {K : Value → Prop} (hk : kind P o = .pure) (h : pureVC P o st K) :
    ∃ v, (∀ w, (execOp (ev st) o).run P w = .ok (.value v) w) ∧ K v := by
  unfold pureVC at h
  split at h
  case h_1 x ho => exact ⟨_, fun w => by simp [execOp, ho], h⟩
  case h_2 x ho => exact ⟨_, fun w => by simp [execOp, ho], h⟩
  case h_3 c a b ho =>
    split at h
    · rename_i t hc
      cases t
      · exact ⟨_, fun w => by simp [execOp, ho, hc, asBool], h⟩
      · exact ⟨_, fun w => by simp [execOp, ho, hc, asBool], h⟩
    · exact h.elim
  case h_4 x ho =>
    split at h
    · rename_i A hx
      obtain ⟨ad, rfl, h⟩ := h
      exact ⟨_, fun w => by simp [execOp, ho, hx], h⟩
    · exact qVC_sound h
  case h_5 t x i ho =>
    split at h
    · rename_i A n c k i' hx hi
      split at h
      · rename_i sz hs
        obtain ⟨h0, h1, ad, rfl, h⟩ := h
        obtain ⟨e, hu, hz⟩ := elemSize_spec hs
        exact ⟨_, fun w => by simp [execOp, ho, hx, hi, Instr.indexAt, asIntOf, run_underlying' hu, hz, h0, h1], h⟩
      · exact h.elim
    · rename_i ad k i' hx hi
      split at h
      · rename_i n sz hs
        obtain ⟨h0, h1, h⟩ := h
        obtain ⟨e, hu, hz⟩ := arrayOf_spec hs
        exact ⟨_, fun w => by simp [execOp, ho, hx, hi, Instr.indexAt, Instr.sureAddr, asIntOf, run_underlying' hu, hz, h0, h1], h⟩
      · exact h.elim
    · exact qVC_sound h
  case h_6 t x i ho =>
    split at h
    · rename_i s k i' hx hi
      split at h
      · rename_i hs
        obtain ⟨h0, h1, h⟩ := h
        unfold isStringT at hs
        split at hs
        · rename_i hu
          have hlt : i'.toNat < s.size := by omega
          have hlt' : i'.toNat < s.data.size := hlt
          refine ⟨_, fun w => ?_, h⟩
          have e1 : s[i'.toNat]? = some (s.data.getD i'.toNat 0) := by
            rw [getElem?_pos s i'.toNat hlt]
            simp [Array.getD, hlt', ByteArray.getElem_eq_getElem_data]
            intro hge; omega
          simp [execOp, ho, hx, hi, Instr.index, asIntOf, run_underlying' hu, h0, e1]
        · cases hs
      · exact h.elim
    · exact qVC_sound h
  case h_7 t x lo hi m ho =>
    have hm : m = none := by simpa [kind, ho] using hk
    subst hm
    split at h
    · rename_i A n c hx
      split at h
      · rename_i sz l hh hs hl hhi
        obtain ⟨h0, h1, h2, h⟩ := h
        obtain ⟨e, hu, hz⟩ := elemSize_spec hs
        refine ⟨_, fun w => ?_, h⟩
        simp only [execOp, ho, hx, Instr.sliceAt, Sem.run_bind, run_underlying' hu, Result.andThen_ok, Instr.slice, Option.map_none, run_sliceBounds hl hhi h0 h1 h2, hz, Sem.run_pure]
      · exact h.elim
    · rename_i s hx
      split at h
      · rename_i l hh hs hl hhi
        obtain ⟨h0, h1, h2, h⟩ := h
        unfold isStringT at hs
        split at hs
        · rename_i hu
          refine ⟨_, fun w => ?_, h⟩
          simp [execOp, ho, hx, Instr.sliceAt, run_underlying' hu, Instr.slice, run_sliceBounds hl hhi h0 h1 h2]
        · cases hs
      · exact h.elim
    · rename_i ad hx
      split at h
      · rename_i n sz hs
        split at h
        · rename_i l hh hl hhi
          obtain ⟨h0, h1, h2, h⟩ := h
          obtain ⟨e, hu, hz⟩ := arrayOf_spec hs
          refine ⟨_, fun w => ?_, h⟩
          simp only [execOp, ho, hx, Instr.sliceAt, Sem.run_bind, run_underlying' hu, Result.andThen_ok, Instr.sureAddr, Option.map_none, run_sliceBounds hl hhi h0 h1 h2, hz, Sem.run_pure]
          split <;> rfl
        · exact h.elim
      · exact h.elim
    · exact qVC_sound h
  case h_8 op t x y yt ho => exact binVC_sound ho h
  case h_9 t x ho =>
    split at h
    · rename_i A n c m sz hx hs
      obtain ⟨h0, h⟩ := h
      obtain ⟨e, hu, hz⟩ := arrayOf_spec hs
      exact ⟨_, fun w => by simp [execOp, ho, hx, Instr.arrayAt, run_underlying' hu, Nat.not_lt.2 h0], h⟩
    · exact h.elim
  case h_10 => exact qVC_sound h

theorem ex1_cell {z : Value} {φ : Value → Prop} (h : ex1 z φ) : ∃ v, φ v := ex1_out h

theorem loadRow_sound {C : Addr → Value → Prop} {a : Addr} : ∀ {zs : List Value} {i : Nat} {φ : List Value → Prop}, loadRow C a i zs φ →
    ∃ vs, vs.length = zs.length ∧ (∀ j v, vs[j]? = some v → C (a.add (i + j)) v) ∧ φ vs
  | [], i, φ, h => ⟨[], rfl, fun j v hj => by simp at hj, h⟩
  | z :: zs, i, φ, h => by
    obtain ⟨v, hc, h⟩ := ex1_out (z := z) (φ := fun v => C (a.add i) v ∧ loadRow C a (i + 1) zs fun vs => φ (v :: vs)) h
    obtain ⟨vs, hl, hvs, h⟩ := loadRow_sound h
    refine ⟨v :: vs, by simp [hl], fun j u hj => ?_, h⟩
    cases j with
    | zero => simp at hj; subst hj; exact hc
    | succ j => have := hvs j u (by simpa using hj); rwa [show i + 1 + j = i + (j + 1) by omega] at this

theorem run_isAgg {t : TypeId} {b : Bool} (h : isAggT P t = some b) (w : World) : (isAgg t).run P w = .ok b w := by
  unfold isAggT at h
  split at h
  · rename_i fs hu; simp at h; subst h; simp [isAgg, run_underlying' hu]
  · rename_i n e hu; simp at h; subst h; simp [isAgg, run_underlying' hu]
  · rename_i d hn1 hn2 hu
    simp at h; subst h
    cases d <;> first
      | (simp only [isAgg, Sem.run_bind, run_underlying' hu, Result.andThen_ok]; rfl)
      | exact (hn1 _ rfl).elim
      | exact (hn2 _ _ rfl).elim
  · cases h

theorem run_sizeOf' {t : TypeId} {n : Nat} (h : sizeOfT P t = some n) (w : World) : (sizeOf t).run P w = .ok n w := by
  unfold sizeOfT at h
  cases hi : P.info? t with
  | none => simp [hi] at h
  | some i =>
    simp [hi] at h
    simp [sizeOf, typeInfo, program, hi, Sem.run, bind, Sem.bind, pure, h]

theorem run_load' {a : Addr} {v : Value} {w : World} (h : w.cell? a = some v) : (load a).run P w = .ok v w := by
  simp [load, Sem.run, h]

theorem loadVC_sound {t : TypeId} {C : Addr → Value → Prop} {a : Addr} {φ : Value → Prop} (h : loadVC P t C a φ) :
    ∃ v, φ v ∧ ∀ w : World, (∀ a v, C a v → w.cell? a = some v) → (loadVar t a).run P w = .ok v w := by
  unfold loadVC at h
  split at h
  · rename_i cs n ha hz hs
    split at h
    · rename_i hn
      obtain ⟨vs, hl, hvs, h⟩ := loadRow_sound h
      refine ⟨_, h, fun w hC => ?_⟩
      have := run_loadCells_list (P := P) w a vs (fun j v hj => hC _ _ (by simpa using hvs j v hj))
      simp only [loadVar, Sem.run_bind, run_isAgg ha, Result.andThen_ok, if_true, run_sizeOf' hs]
      rw [hn, ← hl, this]
      rfl
    · exact h.elim
  · rename_i z ha _
    obtain ⟨v, hc, h⟩ := ex1_out (z := z) (φ := fun v => C a v ∧ φ v) h
    refine ⟨v, h, fun w hC => ?_⟩
    simp only [loadVar, Sem.run_bind, run_isAgg ha, Result.andThen_ok, Bool.false_eq_true, if_false]
    exact run_load' (hC _ _ hc)
  · exact h.elim

theorem load_sound {o : Oper} {st : St} {C : Addr → Value → Prop} {K : Value → Prop} (h : loadOf P o st C K) :
    ∃ v, K v ∧ ∀ w : World, (∀ a v, C a v → w.cell? a = some v) → (execOp (ev st) o).run P w = .ok (.value v) w := by
  unfold loadOf at h
  split at h
  · rename_i t a ho
    split at h
    · rename_i ad ha
      obtain ⟨v, hv, hr⟩ := loadVC_sound h
      exact ⟨v, hv, fun w hC => by simp [execOp, ho, ha, Instr.loadAt, Instr.sureAddr, hr w hC]⟩
    · exact h.elim
  · exact h.elim

theorem storeRow_sound {a : Addr} : ∀ {vs : List Value} {i : Nat} {w : World} {φ : World → Prop}, storeRow a i vs w φ →
    ∃ w', (storeCells a vs i).run P w = .ok () w' ∧ φ w'
  | [], i, w, φ, h => ⟨w, by simp [storeCells], h⟩
  | v :: vs, i, w, φ, h => by
    cases v <;> simp only [storeRow] at h <;> first
      | exact h.elim
      | (obtain ⟨⟨u, hu⟩, hf, h⟩ := h
         obtain ⟨w', hr, h⟩ := storeRow_sound h
         exact ⟨w', by simp only [storeCells, Sem.run_bind]; simp [store, Sem.run, hu, hf, hr], h⟩)

theorem storeVC_sound {t : TypeId} {a : Addr} {v : Value} {w : World} {φ : World → Prop} (h : storeVC P t a v w φ) :
    ∃ w', (storeVar t a v).run P w = .ok () w' ∧ φ w' := by
  unfold storeVC at h
  split at h
  · rename_i n hs
    split at h
    · rename_i hn
      obtain ⟨w', hr, h⟩ := storeRow_sound (P := P) h
      refine ⟨w', ?_, h⟩
      have hn' : v.cells.size = n := by simpa using hn
      simp only [storeVar, Sem.run_bind, run_sizeOf' hs, Result.andThen_ok]
      simp [hn', hr]
    · exact h.elim
  · exact h.elim

theorem raw_sound {o : Oper} {st : St} {w w' : World} {v : Value} (hk : kind P o = .raw) (h : (rawSem P o st).run P w = .ok v w') :
    (execOp (ev st) o).run P w = .ok (.value v) w' := by
  unfold rawSem at h
  split at h
  case h_1 t l c ho => simp [execOp, ho, h]
  case h_2 s d x ho => simp [execOp, ho, h]
  case h_3 op t x y yt ho =>
    simp only [execOp, ho]
    simp only [Sem.run_bind] at h ⊢
    rw [h]; rfl
  case h_4 c ho =>
    split at h
    · rename_i hc
      simp only [execOp, ho, resolve, hc, Sem.run_bind, Sem.run_pure, Result.andThen_ok, invoke, builtin]
      have : c.args.map (ev st) = (c.args.toList.map (ev st)).toArray := by apply Array.ext'; simp
      rw [this, h]; rfl
    · rename_i hc
      have hc' : c.callee = .builtin .copy := by
        simp only [kind, ho] at hk
        split at hk <;> simp_all
      simp only [execOp, ho, resolve, hc', Sem.run_bind, Sem.run_pure, Result.andThen_ok, invoke, builtin]
      have : c.args.map (ev st) = (c.args.toList.map (ev st)).toArray := by apply Array.ext'; simp
      rw [this, h]; rfl
  case h_5 => simp [stuck, Sem.run] at h

theorem call_sound {o : Oper} {c : Call} {g : FuncId} {st : St} (ho : o.op = .call c) (hc : c.callee = .value (.func g)) (hg : okCall P g = true) (w : World) :
    (execOp (ev st) o).run P w = .ok (.enter g (c.args.toList.map (ev st)).toArray) w := by
  unfold okCall at hg
  split at hg
  · rename_i fn hf
    simp only [Bool.and_eq_true, Bool.not_eq_true'] at hg
    obtain ⟨hb, hn⟩ := hg
    have hb' : fn.body ≠ none := by intro h; simp [h] at hb
    have hn' : fn.name ≠ "runtime.NumGoroutine" := by simpa using hn
    have : c.args.map (ev st) = (c.args.toList.map (ev st)).toArray := by apply Array.ext'; simp
    simp only [execOp, ho, resolve, hc, ev, Deferred.ofValue, Sem.run_bind, Sem.run_pure, Result.andThen_ok, invoke, callFunc, program]
    rw [this]
    simp [Sem.run, hf, hn', hb']
  · cases hg

theorem dyn_sound {o : Oper} {c : Call} {x : Operand} {g : FuncId} {fs cs : Array Value} {st : St} (ho : o.op = .call c) (hc : c.callee = .value x) (hx : ev st x = .func (.func g) fs cs) (hg : okCall P g = true) (w : World) :
    (execOp (ev st) o).run P w = .ok (.enter g (fs ++ (c.args.toList.map (ev st)).toArray ++ cs)) w := by
  unfold okCall at hg
  split at hg
  · rename_i fn hf
    simp only [Bool.and_eq_true, Bool.not_eq_true'] at hg
    obtain ⟨hb, hn⟩ := hg
    have hb' : fn.body ≠ none := by intro h; simp [h] at hb
    have hn' : fn.name ≠ "runtime.NumGoroutine" := by simpa using hn
    have : c.args.map (ev st) = (c.args.toList.map (ev st)).toArray := by apply Array.ext'; simp
    simp only [execOp, ho, resolve, hc, hx, Deferred.ofValue, Sem.run_bind, Sem.run_pure, Result.andThen_ok, invoke, callFunc, program]
    rw [this]
    simp [Sem.run, hf, hn', hb']
  · cases hg

/-- What the engine asks of a panic's end. -/
def Pan (X : Xs) (D : List Deferred) (Q : Exit → Act → World → Prop) : Prop := ∀ Y, X = some Y → ∀ c a w, a.defers = D → Y c w → Q (.panic c) a w

/-- The operation, of the state 'st'. -/
theorem op_sound {X : Xs} {D : List Deferred} {o : Oper} {st : St} {w : World} {K : Value → World → Prop} {Q : Exit → Act → World → Prop} (hX : Pan X D Q) (h : opVC P X o st w K) :
    o.wp P (act D st) w (fun a w' => ∃ v, a = act D (put st o.dst v) ∧ K v w') Q := by
  have call : ∀ (g : FuncId) (args : Array Value), (execOp (ev st) o).run P w = .ok (.enter g args) w → (callX X P g args w fun v w' => typed P o.type v fun u => K u w') →
      o.upon P (act D st) (fun a w' => ∃ v, a = act D (put st o.dst v) ∧ K v w') Q ((execOp (ev st) o).run P w) := by
    intro g args hr h
    rw [hr]
    cases X with
    | none =>
      refine Calls.mono h fun e w' ⟨v, he, hv⟩ => ?_
      subst he
      exact ⟨v, act_put .., typed_out hv⟩
    | some Y =>
      refine Calls.mono h fun e w' he => ?_
      cases e with
      | returned v => exact ⟨v, act_put .., typed_out he⟩
      | panicked c => exact hX Y rfl c _ _ rfl he
      | outgrown => exact he.elim
  unfold opVC at h
  unfold Oper.wp
  rw [act_eval]
  split at h
  · rename_i hk
    obtain ⟨v, hr, h⟩ := pure_sound hk h
    rw [hr w]
    exact ⟨v, act_put .., h⟩
  · obtain ⟨v, h, hr⟩ := load_sound h
    rw [hr w fun _ _ h => h]
    exact ⟨v, act_put .., h⟩
  · split at h
    · rename_i t a x ho
      split at h
      · rename_i ad ha
        obtain ⟨w', hr, h⟩ := storeVC_sound (P := P) h
        have : (execOp (ev st) o).run P w = .ok .skip w' := by simp [execOp, ho, ha, Instr.storeAt, Instr.sureAddr, hr]
        rw [this]
        exact ⟨_, act_put .., h⟩
      · exact h.elim
    · exact h.elim
  · split at h
    · rename_i v w' hr
      rw [arun_run _ hr]
      exact ⟨v, act_put .., h⟩
    · exact h.elim
  · rename_i hk
    obtain ⟨v, w', hr, h⟩ := h
    rw [raw_sound hk hr]
    exact ⟨v, act_put .., typed_out h⟩
  · split at h
    · rename_i c ho
      split at h
      · rename_i g hc
        split at h
        · rename_i hg
          exact call _ _ (call_sound ho hc hg w) h
        · exact h.elim
      · exact h.elim
    · exact h.elim
  · split at h
    · rename_i c ho
      split at h
      · rename_i x hc
        obtain ⟨g, fs, cs, hx, hg, h⟩ := h
        exact call _ _ (dyn_sound ho hc hx hg w) h
      · exact h.elim
    · exact h.elim
  · split at h
    · rename_i x ho
      split at h
      · rename_i X' Y t v hx
        have : (execOp (ev st) o).run P w = .halt (.panic (.iface t v)) w := by simp [execOp, ho, hx, Instr.panic, goPanic, Sem.run]
        rw [this]
        exact hX _ rfl _ _ _ rfl h
      · exact h.elim
    · exact h.elim
  · exact h.elim
end
end Go.Rd
