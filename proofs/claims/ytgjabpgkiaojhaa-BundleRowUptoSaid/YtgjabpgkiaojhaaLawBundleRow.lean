/- Loads split one behind the other, all their pieces fed in order: each load comes out, at its last piece, and nothing else (arguments of at most 1048576 parts) -/
import Derived.Test.YtgjabpgkiaojhaaRows
import Derived.Test.YtgjabpgkiaojhaaB18
import Derived.WalkKit
import Derived.ProofKit
import Derived.OpenShut
import Derived.ShutString
import Derived.ChangeOld
import Derived.Below
import Derived.SizedLaws
import Derived.JoinedCond
import Derived.Deep.CondSized
import Derived.Test.YtgjabpgkiaojhaaOpenLL
namespace Go.Proofs.Ytgjabpgkiaojhaa.bundleRow
open Go.ChangeShapes Go.WideShapes Go.ChangeAt Go.RowKit
open Go.ChangeMaps (open_string shut_string)
set_option linter.unusedVariables false
set_option linter.unusedSimpArgs false
theorem own : ownKnob Try.prog.godebug = none := by kernel_rfl
theorem laidOut : laidOutB Try.prog = true := by kernel_rfl
theorem bulk_len {H : Type} : ∀ l : List (DataW H), l.length ≤ Rows.uptoBulkAll l
  | [] => Nat.zero_le _
  | d :: r => by
    have h1 : 1 ≤ Rows.uptoBulk d := by
      cases d with
      | lit x => cases x <;> simp [Rows.uptoBulk]
      | _ => simp [Rows.uptoBulk]
    have h2 := bulk_len r
    rw [Rows.uptoBulkAll, List.length_cons]
    omega
theorem bulk_slice {H : Type} {d : DataW H} {len : Nat} (h : (∃ E S : List (DataW H), d = .slice E S ∧ E.length = len) ∨ len = 0) : len ≤ Rows.uptoBulk d := by
  rcases h with ⟨E, S, rfl, rfl⟩ | rfl
  · have := bulk_len E
    rw [Rows.uptoBulk]
    omega
  · exact Nat.zero_le _
set_option maxRecDepth 100000 in
theorem lifted (os : Os) (started : os.Started) (H : Type) (enc : TypeId × Value → H) (F : Stop.Interp) :
    ReturnsInHanded {} Try.checked os 8 .any ((Rows.OpenSpec.upto Rows.bundleRowSpec).pre6 enc Try.prog Try.f8 Rows.bundleRowUptoRow.domain false) (((Rows.OpenSpec.upto Rows.bundleRowSpec).at F).post enc Try.prog Try.f8 false true false false) := by
  refine returnsInHanded_of_cond_sized (C := Try.checked) (s := Rows.OpenSpec.upto Rows.bundleRowSpec) (k := Rows.uptoSmall) rfl own started (by kernel_rfl) Try.func8
    (OpenSpec.witness (enc := enc) (C := Try.checked) (s := Rows.OpenSpec.upto Rows.bundleRowSpec) (k := Rows.uptoSmall) rfl false ⟨#[], #[.slice none 0 0, .int .i64 0, .int .u32 0, .bool false], []⟩ 8 (by kernel_rfl) (by kernel_rfl) (by kernel_rfl)
      (x := ([.nil, .lit (.int .i64 0), .lit (.int .u32 0), .lit (.bool false)], [], [])) (by kernel_rfl) rfl (by kernel_rfl)) ?_
  intro W base args ds gs before hval0 hW hcnd hk hsz0 _
  have hsz : (DataW.weightsEach Try.prog (Try.f8.params.toList ++ Rows.bundleRowSpec.plain.varTypes Try.prog) (ds ++ gs)).all (· ≤ reachBytes) = true := hsz0
  have hval : ∀ (j : Nat) t v, Try.f8.params[j]? = some t → args[j]? = some v → Value.okWide Try.prog W .any base t v := hval0
  have hW' := hW
  obtain ⟨p, q, hA0, hV, rfl, hfz, hnd⟩ := hW
  have hA : DataW.TrodAll enc Try.prog W 0 (fun _ => true) true Try.f8.params.toList args.toList ds p := hA0
  rw [Try.params8] at hA hval hsz
  obtain ⟨v0, vs0, e0, es0, p0, q0, hargs, rfl, rfl, h0, s0⟩ := trodAll_cons hA
  obtain ⟨v1, vs1, e1, es1, p1, q1, rfl, rfl, rfl, h1, s1⟩ := trodAll_cons s0
  obtain ⟨v2, vs2, e2, es2, p2, q2, rfl, rfl, rfl, h2, s2⟩ := trodAll_cons s1
  obtain ⟨v3, vs3, e3, es3, p3, q3, rfl, rfl, rfl, h3, s3⟩ := trodAll_cons s2
  obtain ⟨rfl, rfl, rfl⟩ := trodAll_nil s3
  obtain rfl : args = #[v0, v1, v2, v3] := by cases args; simp_all
  obtain ⟨rfl, rfl⟩ := trodVars_none hV
  have k0 := h0
  have lt0 : ∀ x ∈ p0, x.block < W.heap.size := by obtain ⟨m, hm⟩ := k0; exact DataW.trod_lt m _ _ _ hm
  have ok0 : Value.okWide Try.prog W .any 0 26 v0 := by
    obtain ⟨a, l, c, hv⟩ := okWide_slice Try.underlying26 (hval 0 26 v0 rfl rfl)
    have := (hval 0 26 v0 rfl rfl)
    first | exact this | (subst hv; simpa [Value.okWide] using this)
  obtain ⟨a0, len0, cap0, zs0, rfl, c0, n0, d0, x0, b00, u0⟩ := open_lists (j := 0) ok0 hsz rfl rfl h0
  obtain ⟨a1, rfl, rfl, rfl, w1⟩ := open_int Try.underlying3 (hval 1 3 v1 rfl rfl) h1
  have r1 : -9223372036854775808 ≤ a1 ∧ a1 ≤ 9223372036854775807 := by simpa [Lit.wf, IntKind.min, IntKind.max, IntKind.signed, IntKind.bits] using w1
  obtain ⟨a2, rfl, rfl, rfl, w2⟩ := open_int Try.underlying25 (hval 2 25 v2 rfl rfl) h2
  have r2 : 0 ≤ a2 ∧ a2 ≤ 4294967295 := by simpa [Lit.wf, IntKind.min, IntKind.max, IntKind.signed, IntKind.bits] using w2
  obtain ⟨a3, rfl, rfl, rfl⟩ := open_bool Try.underlying4 (hval 3 4 v3 rfl rfl) h3
  have hb : Rows.uptoBulkAll _ ≤ 1048576 := of_decide_eq_true hk
  simp only [Rows.uptoBulkAll, Rows.uptoBulk, List.append_nil, Array.length_toList] at hb
  have u0 := bulk_slice (u0.imp (fun ⟨E, S, e1, e2, _⟩ => ⟨E, S, e1, e2⟩) id)
  clear hA0 hval0 hsz0 hsz
  have walk : Go.Rd.Run Try.prog 8 #[.slice a0 len0 cap0, .int .i64 a1, .int .u32 a2, .bool a3] W (Good W) := BundleRow_main d0 x0 (by omega) r2.1
  refine Calls.mono walk fun e W' ⟨v, he, hv, bel⟩ => ?_
  subst he
  subst hv
  have bel : Below W.heap.size W W' := bel
  exact ⟨_, rfl, _, _, _, [], _, [], hW', trodAll_mk1 (shut_bool Try.underlying4 _), (trodAll_cons_mk (Below.trod laidOut (by kernel_rfl) (of_decide_eq_true (by kernel_rfl)) k0 bel lt0) (trodAll_cons_mk (shut_int Try.underlying3 w1) (trodAll_cons_mk (shut_int Try.underlying25 w2) (trodAll_cons_mk (shut_bool Try.underlying4 _) trodAll_mk0)))), rfl, bel.frame _, fun h => by cases h⟩
theorem over : Rows.bundleRowUptoRow.holds Try.pinned (Rows.OpenSpec.upto Rows.bundleRowSpec) :=
  OpenClaim.holds_of_cond 8 Try.f8 rfl rfl rfl rfl rfl rfl rfl ⟨rfl, rfl, rfl, rfl, rfl⟩ rfl rfl rfl rfl rfl (by kernel_rfl) Try.func8 (by kernel_rfl)
    (of_decide_eq_true (by kernel_rfl)) (by unfold Func.isWrapper; first | (rw [if_pos (by decide +kernel)]; kernel_rfl) | (rw [if_neg (by decide +kernel)]; exact ⟨rfl, rfl⟩))
    (fun os started H enc _ F => lifted os started H enc F)
theorem proved : Rows.BundleRowUptoSaid := over
end Go.Proofs.Ytgjabpgkiaojhaa.bundleRow
namespace Go.Proofs.Ytgjabpgkiaojhaa
theorem bundleRow_upto_holds : Rows.BundleRowUptoSaid := bundleRow.proved
#print axioms bundleRow_upto_holds
end Go.Proofs.Ytgjabpgkiaojhaa
