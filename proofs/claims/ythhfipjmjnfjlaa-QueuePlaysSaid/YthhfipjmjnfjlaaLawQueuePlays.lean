/- Every list of puts and takes plays on the queue as the document says. -/
import Derived.Test.YthhfipjmjnfjlaaRows
import Derived.Test.YthhfipjmjnfjlaaC17
import Derived.WalkKit
import Derived.ProofKit
import Derived.OpenShut
import Derived.ShutString
import Derived.ChangeOld
import Derived.Below
import Derived.SizedLaws
import Derived.JoinedCond
import Derived.Test.YthhfipjmjnfjlaaOpenA
namespace Go.Proofs.Ythhfipjmjnfjlaa.queuePlays
open Go.ChangeShapes Go.WideShapes Go.ChangeAt Go.RowKit
open Go.ChangeMaps (open_string shut_string)
set_option linter.unusedVariables false
set_option linter.unusedSimpArgs false
theorem own : ownKnob Try.prog.godebug = none := by kernel_rfl
theorem laidOut : laidOutB Try.prog = true := by kernel_rfl
set_option maxRecDepth 100000 in
/-- A slice of whole numbers that came in: what it reads, and that it is no longer than its weight allows. -/
theorem ints {H : Type} {enc : TypeId × Value → H} {W : World} {t e : TypeId} {k : IntKind} {B : Nat} {v : Value} {d : DataW H} {ps : List MemPlace} {ts : List TypeId} {ds : List (DataW H)} {j : Nat}
    (hok : Value.okWide Try.prog W .any 0 t v)
    (hsz : (DataW.weightsEach Try.prog ts ds).all (· ≤ reachBytes) = true) (ht : ts[j]? = some t) (hd : ds[j]? = some d) (hu : Try.prog.underlying t = some (.slice e)) (he : Try.prog.underlying e = some (.int k)) (hc : Try.prog.cellsOf e = 1) (hB : Try.prog.bytesOf e = B)
    (h : DataW.Trod enc Try.prog W 0 (fun _ => true) true t v d ps) :
    ∃ (a : Option Addr) (len cap : Nat) (zs : List Int), v = .slice a len cap ∧ len ≤ cap ∧ len * B ≤ 140737488351232 ∧ Go.Rd.Rd (Value.int k) W a len zs ∧ (∀ x ∈ zs, (Lit.int k x).wf = true) ∧
      (∀ x, a = some x → 0 < len → x.block < W.heap.size) ∧ ((∃ E S : List (DataW H), d = .slice E S ∧ E.length = len) ∨ len = 0) := by
  obtain ⟨a, len, cap, rfl⟩ := okWide_slice hu hok
  obtain ⟨fuel, hf⟩ := h
  rcases open_ints hu he hc hf with ⟨hcs, _⟩ | ⟨x, l, c, zs, hcs, _, hl, _, hz, hx, hcell, hwf⟩
  · simp [Value.cells] at hcs
    obtain ⟨rfl, rfl, rfl⟩ := hcs
    exact ⟨none, 0, 0, [], rfl, Nat.le_refl _, (by omega), Go.Rd.Rd.nil, (fun x hx => (by cases hx)), (fun x hx => (by cases hx)), .inr rfl⟩
  · simp [Value.cells] at hcs
    obtain ⟨rfl, rfl, rfl⟩ := hcs
    obtain ⟨hx, _⟩ := Prod.mk.inj hx
    subst hx
    have z := sized_slice hsz ht hd hu
    rw [hB] at z
    have hz : zs.length = cap := by simpa using hz
    have h1 : (lits (H := H) k (zs.take len)).length + (lits (H := H) k (zs.drop len)).length = zs.length := by
      simp [lits]; omega
    rw [h1] at z
    have rd : Go.Rd.Rd (Value.int k) W (some x) len (zs.take len) := by
      refine ⟨by rw [List.length_take]; omega, fun i y hy => ⟨x, rfl, ?_⟩⟩
      obtain ⟨hi, hy⟩ := List.getElem?_eq_some_iff.1 hy
      rw [List.length_take] at hi
      rw [Nat.mul_one, hcell i (by omega), ← hy]
      simp [List.getD, List.getElem?_eq_getElem (show i < zs.length by omega)]
    refine ⟨some x, len, cap, zs.take len, rfl, hl, Nat.le_trans (Nat.mul_le_mul_right _ (by omega)) z, rd, fun y hy => hwf y (List.mem_of_mem_take hy), ?_, .inl ⟨_, _, rfl, by simp [lits]; omega⟩⟩
    rintro y hy h0
    obtain rfl := Option.some.inj hy
    have := hcell 0 (by omega)
    have := Go.Rd.cell_lt this
    rwa [Go.Rd.add_block] at this
set_option maxRecDepth 100000 in
theorem lifted (os : Os) (started : os.Started) (H : Type) (enc : TypeId × Value → H) :
    ReturnsInHanded {} Try.checked os 3 .any (Rows.queuePlaysSpec.pre6 enc Try.prog Try.f3 Rows.queuePlaysRow.domain false) (Rows.queuePlaysSpec.post enc Try.prog Try.f3 false true false false) := by
  refine returnsInHanded_of_change_sized (C := Try.checked) own started (by kernel_rfl) Try.func3
    (ChangeSpec.witness6 (enc := enc) (C := Try.checked) false ⟨#[], #[.slice none 0 0, .slice none 0 0], []⟩ 8 (by kernel_rfl) (by kernel_rfl) (by kernel_rfl) (by kernel_rfl)) ?_
  intro W base args ds gs before hval0 hW hcnd hsz0 _
  have hsz : (DataW.weightsEach Try.prog (Try.f3.params.toList ++ Rows.queuePlaysSpec.plain.varTypes Try.prog) (ds ++ gs)).all (· ≤ reachBytes) = true := hsz0
  have hval : ∀ (j : Nat) t v, Try.f3.params[j]? = some t → args[j]? = some v → Value.okWide Try.prog W .any base t v := hval0
  have hW' := hW
  obtain ⟨p, q, hA0, hV, rfl, hfz, hnd⟩ := hW
  have hA : DataW.TrodAll enc Try.prog W 0 (fun _ => true) true Try.f3.params.toList args.toList ds p := hA0
  rw [Try.params3] at hA hval hsz
  obtain ⟨v0, vs0, e0, es0, p0, q0, hargs, rfl, rfl, h0, s0⟩ := trodAll_cons hA
  obtain ⟨v1, vs1, e1, es1, p1, q1, rfl, rfl, rfl, h1, s1⟩ := trodAll_cons s0
  obtain ⟨rfl, rfl, rfl⟩ := trodAll_nil s1
  obtain rfl : args = #[v0, v1] := by cases args; simp_all
  obtain ⟨rfl, rfl⟩ := trodVars_none hV
  have k0 := h0
  have lt0 : ∀ x ∈ p0, x.block < W.heap.size := by obtain ⟨m, hm⟩ := k0; exact DataW.trod_lt m _ _ _ hm
  have ok0 : Value.okWide Try.prog W .any 0 22 v0 := by
    obtain ⟨a, l, c, hv⟩ := okWide_slice Try.underlying22 (hval 0 22 v0 rfl rfl)
    have := (hval 0 22 v0 rfl rfl)
    first | exact this | (subst hv; simpa [Value.okWide] using this)
  obtain ⟨a0, len0, cap0, zs0, rfl, c0, n0, d0, wf0, b00, u0⟩ := ints (j := 0) (t := 22) (B := 8) ok0 hsz rfl rfl Try.underlying22 Try.underlying3 (by kernel_rfl) (by kernel_rfl) h0
  have x0 : ∀ x ∈ zs0, -9223372036854775808 ≤ x ∧ x ≤ 9223372036854775807 := fun x hx => by have := wf0 x hx; simpa [Lit.wf, IntKind.min, IntKind.max, IntKind.signed, IntKind.bits] using this
  have k1 := h1
  have lt1 : ∀ x ∈ p1, x.block < W.heap.size := by obtain ⟨m, hm⟩ := k1; exact DataW.trod_lt m _ _ _ hm
  have ok1 : Value.okWide Try.prog W .any 0 23 v1 := by
    obtain ⟨a, l, c, hv⟩ := okWide_slice Try.underlying23 (hval 1 23 v1 rfl rfl)
    have := (hval 1 23 v1 rfl rfl)
    first | exact this | (subst hv; simpa [Value.okWide] using this)
  obtain ⟨a1, len1, cap1, zs1, rfl, c1, n1, d1, x1, b01, u1⟩ := open_acts (j := 1) ok1 hsz rfl rfl h1
  clear hA0 hval0 hsz0 hsz
  have walk : Go.Rd.Run Try.prog 3 #[.slice a0 len0 cap0, .slice a1 len1 cap1] W (Good W) := QueuePlays_main d0 (by omega) d1 (by omega) x1
  refine Calls.mono walk fun e W' ⟨v, he, hv, bel⟩ => ?_
  subst he
  subst hv
  have bel : Below W.heap.size W W' := bel
  exact ⟨_, rfl, _, _, _, [], _, [], hW', trodAll_mk1 (shut_bool Try.underlying4 _), (trodAll_cons_mk (Below.trod laidOut (by kernel_rfl) (of_decide_eq_true (by kernel_rfl)) k0 bel lt0) (trodAll_cons_mk (Below.trod laidOut (by kernel_rfl) (of_decide_eq_true (by kernel_rfl)) k1 bel lt1) trodAll_mk0)), rfl, bel.frame _, fun h => by cases h⟩
theorem over : Rows.queuePlaysRow.holds Try.pinned (OpenSpec.ofChange Rows.queuePlaysSpec) :=
  OpenClaim.holds_of_wide 3 Try.f3 rfl rfl rfl rfl rfl rfl rfl ⟨rfl, rfl, rfl, rfl, rfl⟩ rfl rfl rfl rfl rfl (by kernel_rfl) Try.func3 (by kernel_rfl)
    (of_decide_eq_true (by kernel_rfl)) (by unfold Func.isWrapper; first | (rw [if_pos (by decide +kernel)]; kernel_rfl) | (rw [if_neg (by decide +kernel)]; exact ⟨rfl, rfl⟩))
    (fun os started H enc _ => lifted os started H enc)
theorem proved : Rows.QueuePlaysSaid := over
end Go.Proofs.Ythhfipjmjnfjlaa.queuePlays
namespace Go.Proofs.Ythhfipjmjnfjlaa
theorem queuePlays_holds : Rows.QueuePlaysSaid := queuePlays.proved
#print axioms queuePlays_holds
end Go.Proofs.Ythhfipjmjnfjlaa
