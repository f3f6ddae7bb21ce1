/-
  No cell of these rows narrows 'for every input' (looked for: loops, veiled, ifaces, maps, wideKeys, modest, calm, conditions, laid).
  DERIVED. THE GIVEN ROWS OF THIS SEAT. 5 by the template 'for every input the law returns true; each argument reads behind the call as it read before'; 0 by the template 'total and deterministic' (their statements: YtjlbegfbdjhhdaaTotals.lean).
  GIVEN WITH THE SEED: the statements are not yours to turn. If you find one false, say at which input.
  Laid BY PROGRAM, IN A SANDBOX (cutbox-rows.mjs): the forced cells as the released guide's own fill.sh prints them over the translation 8b8547ba988cf97d… (all of the seat's roots in one cut). By AI agents, Wed Nov 11 2026. No macro, syntax, notation, axiom, sorry.
-/
import Derived.Test.YtjlbegfbdjhhdaaChecked
import GoSem.Claim
import GoSem.ClaimJoined
import GoSem.ClaimMapViews
import Derived.JoinedTies
import Derived.KernelRfl
namespace Go.Proofs.Ytjlbegfbdjhhdaa
/- THE CELL 'sum', in the pinned program and in every row, IS THE sha256 OF THE DUMP (.gsa) THAT YtjlbegfbdjhhdaaProg.lean LOADS. Nothing in Lean hashes anything: it is a label: what it is worth is what the hold of that sum in a sandbox is worth. -/
noncomputable def Try.pinned : Pinned := { name := "ytjlbegfbdjhhdaa", sum := "8b8547ba988cf97d7cab40a9d0de1152a54c94a13cd690a3f3b3c8e7177d77ca", checked := Try.checked }
namespace Rows
def none {H : Type} : Left H := { results := [], args := [] }

/-- 'riddlelaw8.ForgeMakes': WHATEVER THE INPUT: true; the input reads as it did. -/
def forgeMakesSpec : ChangeSpec := { name := "forgeMakes", fn := fun _ => fun
  | [d1, d2] => { results := [.lit (.bool true)], args := [d1, d2] }
  | _ => none }
def forgeMakesRow : OpenClaim := { program := "ytjlbegfbdjhhdaa", sum := "8b8547ba988cf97d7cab40a9d0de1152a54c94a13cd690a3f3b3c8e7177d77ca", func := "riddle/riddlelaw8.ForgeMakes", spec := "forgeMakes", unfollowed := true, recurses := true, apart := false }
def ForgeMakesSaid : Prop := forgeMakesRow.holds Try.pinned (OpenSpec.ofChange forgeMakesSpec)

/-- ITS FALSE NEIGHBOUR: 'it returns false'. Refute it at one input. -/
def forgeMakesWrong : ChangeSpec := { name := "forgeMakes", fn := fun _ => fun
  | [d1, d2] => { results := [.lit (.bool false)], args := [d1, d2] }
  | _ => none }
def ForgeMakesWrongFalsely : Prop := forgeMakesRow.holds Try.pinned (OpenSpec.ofChange forgeMakesWrong)

/-- 'riddlelaw8.ForgeLinks': WHATEVER THE INPUT: true; the input reads as it did. -/
def forgeLinksSpec : ChangeSpec := { name := "forgeLinks", fn := fun _ => fun
  | [d] => { results := [.lit (.bool true)], args := [d] }
  | _ => none }
def forgeLinksRow : OpenClaim := { program := "ytjlbegfbdjhhdaa", sum := "8b8547ba988cf97d7cab40a9d0de1152a54c94a13cd690a3f3b3c8e7177d77ca", func := "riddle/riddlelaw8.ForgeLinks", spec := "forgeLinks", unfollowed := true, recurses := true, apart := false }
def ForgeLinksSaid : Prop := forgeLinksRow.holds Try.pinned (OpenSpec.ofChange forgeLinksSpec)

/-- ITS FALSE NEIGHBOUR: 'it returns false'. Refute it at one input. -/
def forgeLinksWrong : ChangeSpec := { name := "forgeLinks", fn := fun _ => fun
  | [d] => { results := [.lit (.bool false)], args := [d] }
  | _ => none }
def ForgeLinksWrongFalsely : Prop := forgeLinksRow.holds Try.pinned (OpenSpec.ofChange forgeLinksWrong)

/-- 'riddlelaw8.ForgeRefuses': WHATEVER THE INPUT: true; the input reads as it did. -/
def forgeRefusesSpec : ChangeSpec := { name := "forgeRefuses", fn := fun _ => fun
  | [d1, d2] => { results := [.lit (.bool true)], args := [d1, d2] }
  | _ => none }
def forgeRefusesRow : OpenClaim := { program := "ytjlbegfbdjhhdaa", sum := "8b8547ba988cf97d7cab40a9d0de1152a54c94a13cd690a3f3b3c8e7177d77ca", func := "riddle/riddlelaw8.ForgeRefuses", spec := "forgeRefuses", unfollowed := true, recurses := true, apart := false }
def ForgeRefusesSaid : Prop := forgeRefusesRow.holds Try.pinned (OpenSpec.ofChange forgeRefusesSpec)

/-- ITS FALSE NEIGHBOUR: 'it returns false'. Refute it at one input. -/
def forgeRefusesWrong : ChangeSpec := { name := "forgeRefuses", fn := fun _ => fun
  | [d1, d2] => { results := [.lit (.bool false)], args := [d1, d2] }
  | _ => none }
def ForgeRefusesWrongFalsely : Prop := forgeRefusesRow.holds Try.pinned (OpenSpec.ofChange forgeRefusesWrong)

/-- 'riddlelaw8.ForgeLooks': WHATEVER THE INPUT: true; the input reads as it did. -/
def forgeLooksSpec : ChangeSpec := { name := "forgeLooks", fn := fun _ => fun
  | [d1, d2] => { results := [.lit (.bool true)], args := [d1, d2] }
  | _ => none }
def forgeLooksRow : OpenClaim := { program := "ytjlbegfbdjhhdaa", sum := "8b8547ba988cf97d7cab40a9d0de1152a54c94a13cd690a3f3b3c8e7177d77ca", func := "riddle/riddlelaw8.ForgeLooks", spec := "forgeLooks", unfollowed := true, recurses := true, apart := false }
def ForgeLooksSaid : Prop := forgeLooksRow.holds Try.pinned (OpenSpec.ofChange forgeLooksSpec)

/-- ITS FALSE NEIGHBOUR: 'it returns false'. Refute it at one input. -/
def forgeLooksWrong : ChangeSpec := { name := "forgeLooks", fn := fun _ => fun
  | [d1, d2] => { results := [.lit (.bool false)], args := [d1, d2] }
  | _ => none }
def ForgeLooksWrongFalsely : Prop := forgeLooksRow.holds Try.pinned (OpenSpec.ofChange forgeLooksWrong)

/-- 'riddlelaw8.ForgeFields': WHATEVER THE INPUT: true; the input reads as it did. -/
def forgeFieldsSpec : ChangeSpec := { name := "forgeFields", fn := fun _ => fun
  | [d1, d2] => { results := [.lit (.bool true)], args := [d1, d2] }
  | _ => none }
def forgeFieldsRow : OpenClaim := { program := "ytjlbegfbdjhhdaa", sum := "8b8547ba988cf97d7cab40a9d0de1152a54c94a13cd690a3f3b3c8e7177d77ca", func := "riddle/riddlelaw8.ForgeFields", spec := "forgeFields", unfollowed := true, recurses := true, apart := false }
def ForgeFieldsSaid : Prop := forgeFieldsRow.holds Try.pinned (OpenSpec.ofChange forgeFieldsSpec)

/-- ITS FALSE NEIGHBOUR: 'it returns false'. Refute it at one input. -/
def forgeFieldsWrong : ChangeSpec := { name := "forgeFields", fn := fun _ => fun
  | [d1, d2] => { results := [.lit (.bool false)], args := [d1, d2] }
  | _ => none }
def ForgeFieldsWrongFalsely : Prop := forgeFieldsRow.holds Try.pinned (OpenSpec.ofChange forgeFieldsWrong)

/- THE SECOND FORM. 'bulk': how many values and letters a reading holds, each counted each time it is reached (what is shared counts as often as it is met; a slice's spare places count too). A statement '..UptoSaid' is the law's where the arguments, and the package variables that the reading takes, are together of bulk at most 1048576: NARROWER than '..Said'. Prove '..Said' where nothing that the law and all that it calls make is longer than what came in: it says more and counts as full. Else prove '..UptoSaid'. A law counts once. -/
mutual
def uptoBulk {H : Type} : DataW H → Nat
  | .lit (.string bytes) => bytes.length + 1
  | .lit _ => 1
  | .nil => 1
  | .ptr d => uptoBulk d + 1
  | .slice elems spare => uptoBulkAll elems + uptoBulkAll spare + 1
  | .agg parts => uptoBulkAll parts + 1
  | .iface _ d => uptoBulk d + 1
  | .map entries => uptoBulkEntries entries + 1
  | .held _ => 1
def uptoBulkAll {H : Type} : List (DataW H) → Nat
  | [] => 0
  | d :: r => uptoBulk d + uptoBulkAll r
def uptoBulkEntries {H : Type} : List (Lit × DataW H) → Nat
  | [] => 0
  | x :: r => uptoBulkEntry x + uptoBulkEntries r
def uptoBulkEntry {H : Type} : Lit × DataW H → Nat
  | (.string bytes, d) => bytes.length + uptoBulk d + 1
  | (_, d) => uptoBulk d + 1
 end
def uptoSmall : (H : Type) → List (DataW H) → Bool := fun _ ds => decide (uptoBulkAll ds ≤ 1048576)
def OpenSpec.upto (s : _root_.Go.ChangeSpec) : _root_.Go.OpenSpec := { _root_.Go.OpenSpec.ofChange s with cond := some uptoSmall }

/-- 'riddlelaw8.ForgeMakes', WHERE WHAT IT READS IS OF BULK AT MOST 1048576: true; the input reads as it did. -/
def forgeMakesUptoRow : OpenClaim := { program := "ytjlbegfbdjhhdaa", sum := "8b8547ba988cf97d7cab40a9d0de1152a54c94a13cd690a3f3b3c8e7177d77ca", func := "riddle/riddlelaw8.ForgeMakes", spec := "forgeMakes", unfollowed := true, recurses := true, apart := false, narrowed := true }
def ForgeMakesUptoSaid : Prop := forgeMakesUptoRow.holds Try.pinned (OpenSpec.upto forgeMakesSpec)

/-- 'riddlelaw8.ForgeLinks', WHERE WHAT IT READS IS OF BULK AT MOST 1048576: true; the input reads as it did. -/
def forgeLinksUptoRow : OpenClaim := { program := "ytjlbegfbdjhhdaa", sum := "8b8547ba988cf97d7cab40a9d0de1152a54c94a13cd690a3f3b3c8e7177d77ca", func := "riddle/riddlelaw8.ForgeLinks", spec := "forgeLinks", unfollowed := true, recurses := true, apart := false, narrowed := true }
def ForgeLinksUptoSaid : Prop := forgeLinksUptoRow.holds Try.pinned (OpenSpec.upto forgeLinksSpec)

/-- 'riddlelaw8.ForgeRefuses', WHERE WHAT IT READS IS OF BULK AT MOST 1048576: true; the input reads as it did. -/
def forgeRefusesUptoRow : OpenClaim := { program := "ytjlbegfbdjhhdaa", sum := "8b8547ba988cf97d7cab40a9d0de1152a54c94a13cd690a3f3b3c8e7177d77ca", func := "riddle/riddlelaw8.ForgeRefuses", spec := "forgeRefuses", unfollowed := true, recurses := true, apart := false, narrowed := true }
def ForgeRefusesUptoSaid : Prop := forgeRefusesUptoRow.holds Try.pinned (OpenSpec.upto forgeRefusesSpec)

/-- 'riddlelaw8.ForgeLooks', WHERE WHAT IT READS IS OF BULK AT MOST 1048576: true; the input reads as it did. -/
def forgeLooksUptoRow : OpenClaim := { program := "ytjlbegfbdjhhdaa", sum := "8b8547ba988cf97d7cab40a9d0de1152a54c94a13cd690a3f3b3c8e7177d77ca", func := "riddle/riddlelaw8.ForgeLooks", spec := "forgeLooks", unfollowed := true, recurses := true, apart := false, narrowed := true }
def ForgeLooksUptoSaid : Prop := forgeLooksUptoRow.holds Try.pinned (OpenSpec.upto forgeLooksSpec)

/-- 'riddlelaw8.ForgeFields', WHERE WHAT IT READS IS OF BULK AT MOST 1048576: true; the input reads as it did. -/
def forgeFieldsUptoRow : OpenClaim := { program := "ytjlbegfbdjhhdaa", sum := "8b8547ba988cf97d7cab40a9d0de1152a54c94a13cd690a3f3b3c8e7177d77ca", func := "riddle/riddlelaw8.ForgeFields", spec := "forgeFields", unfollowed := true, recurses := true, apart := false, narrowed := true }
def ForgeFieldsUptoSaid : Prop := forgeFieldsUptoRow.holds Try.pinned (OpenSpec.upto forgeFieldsSpec)

end Rows
end Go.Proofs.Ytjlbegfbdjhhdaa
