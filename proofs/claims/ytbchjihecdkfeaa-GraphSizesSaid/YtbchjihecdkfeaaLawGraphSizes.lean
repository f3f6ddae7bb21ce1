/- Size, Measure and Reach of any graph answer as the document says, in new memory each time, and the graph stays. -/
import Derived.Test.YtbchjihecdkfeaaRows
import Derived.Test.YtbchjihecdkfeaaA13
import Derived.WalkKit
import Derived.ProofKit
import Derived.OpenShut
import Derived.ShutString
import Derived.ChangeOld
import Derived.Below
import Derived.SizedLaws
import Derived.JoinedCond
import Derived.Test.YtbchjihecdkfeaaOpenBl
namespace Go.Proofs.Ytbchjihecdkfeaa.graphSizes
open Go.ChangeShapes Go.WideShapes Go.ChangeAt Go.RowKit
open Go.ChangeMaps (open_string shut_string)
set_option linter.unusedVariables false
set_option linter.unusedSimpArgs false
theorem own : ownKnob Try.prog.godebug = none := by kernel_rfl
theorem laidOut : laidOutB Try.prog = true := by kernel_rfl
set_option maxRecDepth 100000 in
theorem lifted (os : Os) (started : os.Started) (H : Type) (enc : TypeId × Value → H) :
    ReturnsInHanded {} Try.checked os 7 .any (Rows.graphSizesSpec.pre6 enc Try.prog Try.f7 Rows.graphSizesRow.domain false) (Rows.graphSizesSpec.post enc Try.prog Try.f7 false true false false) := by
  refine returnsInHanded_of_change_sized (C := Try.checked) own started (by kernel_rfl) Try.func7
    (ChangeSpec.witness6 (enc := enc) (C := Try.checked) false ⟨#[], #[.slice none 0 0], []⟩ 8 (by kernel_rfl) (by kernel_rfl) (by kernel_rfl) (by kernel_rfl)) ?_
  intro W base args ds gs before hval0 hW hcnd hsz0 _
  have hsz : (DataW.weightsEach Try.prog (Try.f7.params.toList ++ Rows.graphSizesSpec.plain.varTypes Try.prog) (ds ++ gs)).all (· ≤ reachBytes) = true := hsz0
  have hval : ∀ (j : Nat) t v, Try.f7.params[j]? = some t → args[j]? = some v → Value.okWide Try.prog W .any base t v := hval0
  have hW' := hW
  obtain ⟨p, q, hA0, hV, rfl, hfz, hnd⟩ := hW
  have hA : DataW.TrodAll enc Try.prog W 0 (fun _ => true) true Try.f7.params.toList args.toList ds p := hA0
  rw [Try.params7] at hA hval hsz
  obtain ⟨v0, vs0, e0, es0, p0, q0, hargs, rfl, rfl, h0, s0⟩ := trodAll_cons hA
  obtain ⟨rfl, rfl, rfl⟩ := trodAll_nil s0
  obtain rfl : args = #[v0] := by cases args; simp_all
  obtain ⟨rfl, rfl⟩ := trodVars_none hV
  have k0 := h0
  have lt0 : ∀ x ∈ p0, x.block < W.heap.size := by obtain ⟨m, hm⟩ := k0; exact DataW.trod_lt m _ _ _ hm
  have ok0 : Value.okWide Try.prog W .any 0 22 v0 := by
    obtain ⟨a, l, c, hv⟩ := okWide_slice Try.underlying22 (hval 0 22 v0 rfl rfl)
    have := (hval 0 22 v0 rfl rfl)
    first | exact this | (subst hv; simpa [Value.okWide] using this)
  obtain ⟨a0, len0, cap0, zs0, rfl, c0, n0, d0, x0, b00, u0⟩ := open_blocks (j := 0) ok0 hsz rfl rfl h0
  clear hA0 hval0 hsz0 hsz
  have walk : Go.Rd.Run Try.prog 7 #[.slice a0 len0 cap0] W (Good W) := GraphSizes_main d0 x0 (by omega)
  refine Calls.mono walk fun e W' ⟨v, he, hv, bel⟩ => ?_
  subst he
  subst hv
  have bel : Below W.heap.size W W' := bel
  exact ⟨_, rfl, _, _, _, [], _, [], hW', trodAll_mk1 (shut_bool Try.underlying4 _), (trodAll_cons_mk (Below.trod laidOut (by kernel_rfl) (of_decide_eq_true (by kernel_rfl)) k0 bel lt0) trodAll_mk0), rfl, bel.frame _, fun h => by cases h⟩
theorem over : Rows.graphSizesRow.holds Try.pinned (OpenSpec.ofChange Rows.graphSizesSpec) :=
  OpenClaim.holds_of_wide 7 Try.f7 rfl rfl rfl rfl rfl rfl rfl ⟨rfl, rfl, rfl, rfl, rfl⟩ rfl rfl rfl rfl rfl (by kernel_rfl) Try.func7 (by kernel_rfl)
    (of_decide_eq_true (by kernel_rfl)) (by unfold Func.isWrapper; first | (rw [if_pos (by decide +kernel)]; kernel_rfl) | (rw [if_neg (by decide +kernel)]; exact ⟨rfl, rfl⟩))
    (fun os started H enc _ => lifted os started H enc)
theorem proved : Rows.GraphSizesSaid := over
end Go.Proofs.Ytbchjihecdkfeaa.graphSizes
namespace Go.Proofs.Ytbchjihecdkfeaa
theorem graphSizes_holds : Rows.GraphSizesSaid := graphSizes.proved
#print axioms graphSizes_holds
end Go.Proofs.Ytbchjihecdkfeaa
