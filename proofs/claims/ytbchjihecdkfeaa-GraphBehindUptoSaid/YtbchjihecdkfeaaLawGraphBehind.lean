/- One more block at a graph's end, or straight instructions ahead of its entry's, leave it taken; the first changes no run; the second adds their steps. -/
import Derived.Test.YtbchjihecdkfeaaRows
import Derived.Test.YtbchjihecdkfeaaA21
import Derived.WalkKit
import Derived.ProofKit
import Derived.OpenShut
import Derived.ShutString
import Derived.ChangeOld
import Derived.Below
import Derived.SizedLaws
import Derived.JoinedCond
import Derived.Deep.CondSized
import Derived.Test.YtbchjihecdkfeaaOpenBl
namespace Go.Proofs.Ytbchjihecdkfeaa.graphBehind
open Go.ChangeShapes Go.WideShapes Go.ChangeAt Go.RowKit
open Go.ChangeMaps (open_string shut_string)
set_option linter.unusedVariables false
set_option linter.unusedSimpArgs false
theorem own : ownKnob Try.prog.godebug = none := by kernel_rfl
theorem laidOut : laidOutB Try.prog = true := by kernel_rfl
set_option maxRecDepth 100000 in
/-- A slice of whole numbers that came in: what it reads, and that it is no longer than its weight allows. -/
theorem ints {H : Type} {enc : TypeId × Value → H} {W : World} {t e : TypeId} {k : IntKind} {B : Nat} {v : Value} {d : DataW H} {ps : List MemPlace} {ts : List TypeId} {ds : List (DataW H)} {j : Nat}
    (hok : Value.okWide Try.prog W .any 0 t v)
    (hsz : (DataW.weightsEach Try.prog ts ds).all (· ≤ reachBytes) = true) (ht : ts[j]? = some t) (hd : ds[j]? = some d) (hu : Try.prog.underlying t = some (.slice e)) (he : Try.prog.underlying e = some (.int k)) (hc : Try.prog.cellsOf e = 1) (hB : Try.prog.bytesOf e = B)
    (h : DataW.Trod enc Try.prog W 0 (fun _ => true) true t v d ps) :
    ∃ (a : Option Addr) (len cap : Nat) (zs : List Int), v = .slice a len cap ∧ len ≤ cap ∧ len * B ≤ 140737488351232 ∧ Go.Rd.Rd (Value.int k) W a len zs ∧ (∀ x ∈ zs, (Lit.int k x).wf = true) ∧
      (∀ x, a = some x → 0 < len → x.block < W.heap.size) ∧ ((∃ E S : List (DataW H), d = .slice E S ∧ E.length = len) ∨ len = 0) := by
  obtain ⟨a, len, cap, rfl⟩ := okWide_slice hu hok
  obtain ⟨fuel, hf⟩ := h
  rcases open_ints hu he hc hf with ⟨hcs, _⟩ | ⟨x, l, c, zs, hcs, _, hl, _, hz, hx, hcell, hwf⟩
  · simp [Value.cells] at hcs
    obtain ⟨rfl, rfl, rfl⟩ := hcs
    exact ⟨none, 0, 0, [], rfl, Nat.le_refl _, (by omega), Go.Rd.Rd.nil, (fun x hx => (by cases hx)), (fun x hx => (by cases hx)), .inr rfl⟩
  · simp [Value.cells] at hcs
    obtain ⟨rfl, rfl, rfl⟩ := hcs
    obtain ⟨hx, _⟩ := Prod.mk.inj hx
    subst hx
    have z := sized_slice hsz ht hd hu
    rw [hB] at z
    have hz : zs.length = cap := by simpa using hz
    have h1 : (lits (H := H) k (zs.take len)).length + (lits (H := H) k (zs.drop len)).length = zs.length := by
      simp [lits]; omega
    rw [h1] at z
    have rd : Go.Rd.Rd (Value.int k) W (some x) len (zs.take len) := by
      refine ⟨by rw [List.length_take]; omega, fun i y hy => ⟨x, rfl, ?_⟩⟩
      obtain ⟨hi, hy⟩ := List.getElem?_eq_some_iff.1 hy
      rw [List.length_take] at hi
      rw [Nat.mul_one, hcell i (by omega), ← hy]
      simp [List.getD, List.getElem?_eq_getElem (show i < zs.length by omega)]
    refine ⟨some x, len, cap, zs.take len, rfl, hl, Nat.le_trans (Nat.mul_le_mul_right _ (by omega)) z, rd, fun y hy => hwf y (List.mem_of_mem_take hy), ?_, .inl ⟨_, _, rfl, by simp [lits]; omega⟩⟩
    rintro y hy h0
    obtain rfl := Option.some.inj hy
    have := hcell 0 (by omega)
    have := Go.Rd.cell_lt this
    rwa [Go.Rd.add_block] at this
theorem bulk_len {H : Type} : ∀ l : List (DataW H), l.length ≤ Rows.uptoBulkAll l
  | [] => Nat.zero_le _
  | d :: r => by
    have h1 : 1 ≤ Rows.uptoBulk d := by
      cases d with
      | lit x => cases x <;> simp [Rows.uptoBulk]
      | _ => simp [Rows.uptoBulk]
    have h2 := bulk_len r
    rw [Rows.uptoBulkAll, List.length_cons]
    omega
theorem bulk_slice {H : Type} {d : DataW H} {len : Nat} (h : (∃ E S : List (DataW H), d = .slice E S ∧ E.length = len) ∨ len = 0) : len ≤ Rows.uptoBulk d := by
  rcases h with ⟨E, S, rfl, rfl⟩ | rfl
  · have := bulk_len E
    rw [Rows.uptoBulk]
    omega
  · exact Nat.zero_le _
set_option maxRecDepth 100000 in
theorem lifted (os : Os) (started : os.Started) (H : Type) (enc : TypeId × Value → H) (F : Stop.Interp) :
    ReturnsInHanded {} Try.checked os 6 .any ((Rows.OpenSpec.upto Rows.graphBehindSpec).pre6 enc Try.prog Try.f6 Rows.graphBehindUptoRow.domain false) (((Rows.OpenSpec.upto Rows.graphBehindSpec).at F).post enc Try.prog Try.f6 false true false false) := by
  refine returnsInHanded_of_cond_sized (C := Try.checked) (s := Rows.OpenSpec.upto Rows.graphBehindSpec) (k := Rows.uptoSmall) rfl own started (by kernel_rfl) Try.func6
    (OpenSpec.witness (enc := enc) (C := Try.checked) (s := Rows.OpenSpec.upto Rows.graphBehindSpec) (k := Rows.uptoSmall) rfl false ⟨#[], #[.slice none 0 0, .slice none 0 0, .int .u32 0], []⟩ 8 (by kernel_rfl) (by kernel_rfl) (by kernel_rfl)
      (x := ([.nil, .nil, .lit (.int .u32 0)], [], [])) (by kernel_rfl) rfl (by kernel_rfl)) ?_
  intro W base args ds gs before hval0 hW hcnd hk hsz0 _
  have hsz : (DataW.weightsEach Try.prog (Try.f6.params.toList ++ Rows.graphBehindSpec.plain.varTypes Try.prog) (ds ++ gs)).all (· ≤ reachBytes) = true := hsz0
  have hval : ∀ (j : Nat) t v, Try.f6.params[j]? = some t → args[j]? = some v → Value.okWide Try.prog W .any base t v := hval0
  have hW' := hW
  obtain ⟨p, q, hA0, hV, rfl, hfz, hnd⟩ := hW
  have hA : DataW.TrodAll enc Try.prog W 0 (fun _ => true) true Try.f6.params.toList args.toList ds p := hA0
  rw [Try.params6] at hA hval hsz
  obtain ⟨v0, vs0, e0, es0, p0, q0, hargs, rfl, rfl, h0, s0⟩ := trodAll_cons hA
  obtain ⟨v1, vs1, e1, es1, p1, q1, rfl, rfl, rfl, h1, s1⟩ := trodAll_cons s0
  obtain ⟨v2, vs2, e2, es2, p2, q2, rfl, rfl, rfl, h2, s2⟩ := trodAll_cons s1
  obtain ⟨rfl, rfl, rfl⟩ := trodAll_nil s2
  obtain rfl : args = #[v0, v1, v2] := by cases args; simp_all
  obtain ⟨rfl, rfl⟩ := trodVars_none hV
  have k0 := h0
  have lt0 : ∀ x ∈ p0, x.block < W.heap.size := by obtain ⟨m, hm⟩ := k0; exact DataW.trod_lt m _ _ _ hm
  have ok0 : Value.okWide Try.prog W .any 0 22 v0 := by
    obtain ⟨a, l, c, hv⟩ := okWide_slice Try.underlying22 (hval 0 22 v0 rfl rfl)
    have := (hval 0 22 v0 rfl rfl)
    first | exact this | (subst hv; simpa [Value.okWide] using this)
  obtain ⟨a0, len0, cap0, zs0, rfl, c0, n0, d0, x0, b00, u0⟩ := open_blocks (j := 0) ok0 hsz rfl rfl h0
  have k1 := h1
  have lt1 : ∀ x ∈ p1, x.block < W.heap.size := by obtain ⟨m, hm⟩ := k1; exact DataW.trod_lt m _ _ _ hm
  have ok1 : Value.okWide Try.prog W .any 0 30 v1 := by
    obtain ⟨a, l, c, hv⟩ := okWide_slice Try.underlying30 (hval 1 30 v1 rfl rfl)
    have := (hval 1 30 v1 rfl rfl)
    first | exact this | (subst hv; simpa [Value.okWide] using this)
  obtain ⟨a1, len1, cap1, zs1, rfl, c1, n1, d1, wf1, b01, u1⟩ := ints (j := 1) (t := 30) (B := 1) ok1 hsz rfl rfl Try.underlying30 Try.underlying5 (by kernel_rfl) (by kernel_rfl) h1
  have x1 : ∀ x ∈ zs1, 0 ≤ x ∧ x ≤ 255 := fun x hx => by have := wf1 x hx; simpa [Lit.wf, IntKind.min, IntKind.max, IntKind.signed, IntKind.bits] using this
  obtain ⟨a2, rfl, rfl, rfl, w2⟩ := open_int Try.underlying31 (hval 2 31 v2 rfl rfl) h2
  have r2 : 0 ≤ a2 ∧ a2 ≤ 4294967295 := by simpa [Lit.wf, IntKind.min, IntKind.max, IntKind.signed, IntKind.bits] using w2
  have hb : Rows.uptoBulkAll _ ≤ 1048576 := of_decide_eq_true hk
  simp only [Rows.uptoBulkAll, Rows.uptoBulk, List.append_nil, Array.length_toList] at hb
  have u0 := bulk_slice (u0.imp (fun ⟨E, S, e1, e2, _⟩ => ⟨E, S, e1, e2⟩) id)
  have u1 := bulk_slice u1
  clear hA0 hval0 hsz0 hsz
  have walk : Go.Rd.Run Try.prog 6 #[.slice a0 len0 cap0, .slice a1 len1 cap1, .int .u32 a2] W (Good W) := GraphBehind_main d0 x0 (by omega) d1 (by omega) r2
  refine Calls.mono walk fun e W' ⟨v, he, hv, bel⟩ => ?_
  subst he
  subst hv
  have bel : Below W.heap.size W W' := bel
  exact ⟨_, rfl, _, _, _, [], _, [], hW', trodAll_mk1 (shut_bool Try.underlying4 _), (trodAll_cons_mk (Below.trod laidOut (by kernel_rfl) (of_decide_eq_true (by kernel_rfl)) k0 bel lt0) (trodAll_cons_mk (Below.trod laidOut (by kernel_rfl) (of_decide_eq_true (by kernel_rfl)) k1 bel lt1) (trodAll_cons_mk (shut_int Try.underlying31 w2) trodAll_mk0))), rfl, bel.frame _, fun h => by cases h⟩
theorem over : Rows.graphBehindUptoRow.holds Try.pinned (Rows.OpenSpec.upto Rows.graphBehindSpec) :=
  OpenClaim.holds_of_cond 6 Try.f6 rfl rfl rfl rfl rfl rfl rfl ⟨rfl, rfl, rfl, rfl, rfl⟩ rfl rfl rfl rfl rfl (by kernel_rfl) Try.func6 (by kernel_rfl)
    (of_decide_eq_true (by kernel_rfl)) (by unfold Func.isWrapper; first | (rw [if_pos (by decide +kernel)]; kernel_rfl) | (rw [if_neg (by decide +kernel)]; exact ⟨rfl, rfl⟩))
    (fun os started H enc _ F => lifted os started H enc F)
theorem proved : Rows.GraphBehindUptoSaid := over
end Go.Proofs.Ytbchjihecdkfeaa.graphBehind
namespace Go.Proofs.Ytbchjihecdkfeaa
theorem graphBehind_upto_holds : Rows.GraphBehindUptoSaid := graphBehind.proved
#print axioms graphBehind_upto_holds
end Go.Proofs.Ytbchjihecdkfeaa
