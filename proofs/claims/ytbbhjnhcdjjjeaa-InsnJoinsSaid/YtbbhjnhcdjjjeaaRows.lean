/-
  No cell of these rows narrows 'for every input' (looked for: loops, veiled, ifaces, maps, wideKeys, modest, calm, conditions, laid).
  DERIVED. THE GIVEN ROWS OF THIS SEAT. 5 by the template 'for every input the law returns true; each argument reads behind the call as it read before'; 0 by the template 'total and deterministic' (their statements: YtbbhjnhcdjjjeaaTotals.lean).
  GIVEN WITH THE SEED: the statements are not yours to turn. If you find one false, say at which input.
  Laid BY PROGRAM, IN A SANDBOX (cutbox-rows.mjs): the forced cells as the released guide's own fill.sh prints them over the translation 5b956a8734fbfe4b… (all of the seat's roots in one cut). By AI agents, Wed Nov 11 2026. No macro, syntax, notation, axiom, sorry.
-/
import Derived.Test.YtbbhjnhcdjjjeaaChecked
import GoSem.Claim
import GoSem.ClaimJoined
import GoSem.ClaimMapViews
import Derived.JoinedTies
import Derived.KernelRfl
namespace Go.Proofs.Ytbbhjnhcdjjjeaa
/- THE CELL 'sum', in the pinned program and in every row, IS THE sha256 OF THE DUMP (.gsa) THAT YtbbhjnhcdjjjeaaProg.lean LOADS. Nothing in Lean hashes anything: it is a label: what it is worth is what the hold of that sum in a sandbox is worth. -/
noncomputable def Try.pinned : Pinned := { name := "ytbbhjnhcdjjjeaa", sum := "5b956a8734fbfe4b2ce29c6e865c3fa7585c9de1b3af0e688fa86a2cbb38b16f", checked := Try.checked }
namespace Rows
def none {H : Type} : Left H := { results := [], args := [] }

/-- 'riddlelaw2.InsnEncodes': WHATEVER THE INPUT: true; the input reads as it did. -/
def insnEncodesSpec : ChangeSpec := { name := "insnEncodes", fn := fun _ => fun
  | [d] => { results := [.lit (.bool true)], args := [d] }
  | _ => none }
def insnEncodesRow : OpenClaim := { program := "ytbbhjnhcdjjjeaa", sum := "5b956a8734fbfe4b2ce29c6e865c3fa7585c9de1b3af0e688fa86a2cbb38b16f", func := "riddle/riddlelaw2.InsnEncodes", spec := "insnEncodes", apart := false }
def InsnEncodesSaid : Prop := insnEncodesRow.holds Try.pinned (OpenSpec.ofChange insnEncodesSpec)

/-- ITS FALSE NEIGHBOUR: 'it returns false'. Refute it at one input. -/
def insnEncodesWrong : ChangeSpec := { name := "insnEncodes", fn := fun _ => fun
  | [d] => { results := [.lit (.bool false)], args := [d] }
  | _ => none }
def InsnEncodesWrongFalsely : Prop := insnEncodesRow.holds Try.pinned (OpenSpec.ofChange insnEncodesWrong)

/-- 'riddlelaw2.InsnDecodes': WHATEVER THE INPUT: true; the input reads as it did. -/
def insnDecodesSpec : ChangeSpec := { name := "insnDecodes", fn := fun _ => fun
  | [d] => { results := [.lit (.bool true)], args := [d] }
  | _ => none }
def insnDecodesRow : OpenClaim := { program := "ytbbhjnhcdjjjeaa", sum := "5b956a8734fbfe4b2ce29c6e865c3fa7585c9de1b3af0e688fa86a2cbb38b16f", func := "riddle/riddlelaw2.InsnDecodes", spec := "insnDecodes", apart := false }
def InsnDecodesSaid : Prop := insnDecodesRow.holds Try.pinned (OpenSpec.ofChange insnDecodesSpec)

/-- ITS FALSE NEIGHBOUR: 'it returns false'. Refute it at one input. -/
def insnDecodesWrong : ChangeSpec := { name := "insnDecodes", fn := fun _ => fun
  | [d] => { results := [.lit (.bool false)], args := [d] }
  | _ => none }
def InsnDecodesWrongFalsely : Prop := insnDecodesRow.holds Try.pinned (OpenSpec.ofChange insnDecodesWrong)

/-- 'riddlelaw2.InsnBack': WHATEVER THE INPUT: true; the input reads as it did. -/
def insnBackSpec : ChangeSpec := { name := "insnBack", fn := fun _ => fun
  | [d1, d2] => { results := [.lit (.bool true)], args := [d1, d2] }
  | _ => none }
def insnBackRow : OpenClaim := { program := "ytbbhjnhcdjjjeaa", sum := "5b956a8734fbfe4b2ce29c6e865c3fa7585c9de1b3af0e688fa86a2cbb38b16f", func := "riddle/riddlelaw2.InsnBack", spec := "insnBack", apart := false }
def InsnBackSaid : Prop := insnBackRow.holds Try.pinned (OpenSpec.ofChange insnBackSpec)

/-- ITS FALSE NEIGHBOUR: 'it returns false'. Refute it at one input. -/
def insnBackWrong : ChangeSpec := { name := "insnBack", fn := fun _ => fun
  | [d1, d2] => { results := [.lit (.bool false)], args := [d1, d2] }
  | _ => none }
def InsnBackWrongFalsely : Prop := insnBackRow.holds Try.pinned (OpenSpec.ofChange insnBackWrong)

/-- 'riddlelaw2.InsnJoins': WHATEVER THE INPUT: true; the input reads as it did. -/
def insnJoinsSpec : ChangeSpec := { name := "insnJoins", fn := fun _ => fun
  | [d1, d2] => { results := [.lit (.bool true)], args := [d1, d2] }
  | _ => none }
def insnJoinsRow : OpenClaim := { program := "ytbbhjnhcdjjjeaa", sum := "5b956a8734fbfe4b2ce29c6e865c3fa7585c9de1b3af0e688fa86a2cbb38b16f", func := "riddle/riddlelaw2.InsnJoins", spec := "insnJoins", apart := false }
def InsnJoinsSaid : Prop := insnJoinsRow.holds Try.pinned (OpenSpec.ofChange insnJoinsSpec)

/-- ITS FALSE NEIGHBOUR: 'it returns false'. Refute it at one input. -/
def insnJoinsWrong : ChangeSpec := { name := "insnJoins", fn := fun _ => fun
  | [d1, d2] => { results := [.lit (.bool false)], args := [d1, d2] }
  | _ => none }
def InsnJoinsWrongFalsely : Prop := insnJoinsRow.holds Try.pinned (OpenSpec.ofChange insnJoinsWrong)

/-- 'riddlelaw2.InsnCodes': WHATEVER THE INPUT: true; the input reads as it did. -/
def insnCodesSpec : ChangeSpec := { name := "insnCodes", fn := fun _ => fun
  | [d] => { results := [.lit (.bool true)], args := [d] }
  | _ => none }
def insnCodesRow : OpenClaim := { program := "ytbbhjnhcdjjjeaa", sum := "5b956a8734fbfe4b2ce29c6e865c3fa7585c9de1b3af0e688fa86a2cbb38b16f", func := "riddle/riddlelaw2.InsnCodes", spec := "insnCodes", apart := false }
def InsnCodesSaid : Prop := insnCodesRow.holds Try.pinned (OpenSpec.ofChange insnCodesSpec)

/-- ITS FALSE NEIGHBOUR: 'it returns false'. Refute it at one input. -/
def insnCodesWrong : ChangeSpec := { name := "insnCodes", fn := fun _ => fun
  | [d] => { results := [.lit (.bool false)], args := [d] }
  | _ => none }
def InsnCodesWrongFalsely : Prop := insnCodesRow.holds Try.pinned (OpenSpec.ofChange insnCodesWrong)

/- THE SECOND FORM. 'bulk': how many values and letters a reading holds, each counted each time it is reached (what is shared counts as often as it is met; a slice's spare places count too). A statement '..UptoSaid' is the law's where the arguments, and the package variables that the reading takes, are together of bulk at most 1048576: NARROWER than '..Said'. Prove '..Said' where nothing that the law and all that it calls make is longer than what came in: it says more and counts as full. Else prove '..UptoSaid'. A law counts once. -/
mutual
def uptoBulk {H : Type} : DataW H → Nat
  | .lit (.string bytes) => bytes.length + 1
  | .lit _ => 1
  | .nil => 1
  | .ptr d => uptoBulk d + 1
  | .slice elems spare => uptoBulkAll elems + uptoBulkAll spare + 1
  | .agg parts => uptoBulkAll parts + 1
  | .iface _ d => uptoBulk d + 1
  | .map entries => uptoBulkEntries entries + 1
  | .held _ => 1
def uptoBulkAll {H : Type} : List (DataW H) → Nat
  | [] => 0
  | d :: r => uptoBulk d + uptoBulkAll r
def uptoBulkEntries {H : Type} : List (Lit × DataW H) → Nat
  | [] => 0
  | x :: r => uptoBulkEntry x + uptoBulkEntries r
def uptoBulkEntry {H : Type} : Lit × DataW H → Nat
  | (.string bytes, d) => bytes.length + uptoBulk d + 1
  | (_, d) => uptoBulk d + 1
 end
def uptoSmall : (H : Type) → List (DataW H) → Bool := fun _ ds => decide (uptoBulkAll ds ≤ 1048576)
def OpenSpec.upto (s : _root_.Go.ChangeSpec) : _root_.Go.OpenSpec := { _root_.Go.OpenSpec.ofChange s with cond := some uptoSmall }

/-- 'riddlelaw2.InsnEncodes', WHERE WHAT IT READS IS OF BULK AT MOST 1048576: true; the input reads as it did. -/
def insnEncodesUptoRow : OpenClaim := { program := "ytbbhjnhcdjjjeaa", sum := "5b956a8734fbfe4b2ce29c6e865c3fa7585c9de1b3af0e688fa86a2cbb38b16f", func := "riddle/riddlelaw2.InsnEncodes", spec := "insnEncodes", apart := false, narrowed := true }
def InsnEncodesUptoSaid : Prop := insnEncodesUptoRow.holds Try.pinned (OpenSpec.upto insnEncodesSpec)

/-- 'riddlelaw2.InsnDecodes', WHERE WHAT IT READS IS OF BULK AT MOST 1048576: true; the input reads as it did. -/
def insnDecodesUptoRow : OpenClaim := { program := "ytbbhjnhcdjjjeaa", sum := "5b956a8734fbfe4b2ce29c6e865c3fa7585c9de1b3af0e688fa86a2cbb38b16f", func := "riddle/riddlelaw2.InsnDecodes", spec := "insnDecodes", apart := false, narrowed := true }
def InsnDecodesUptoSaid : Prop := insnDecodesUptoRow.holds Try.pinned (OpenSpec.upto insnDecodesSpec)

/-- 'riddlelaw2.InsnBack', WHERE WHAT IT READS IS OF BULK AT MOST 1048576: true; the input reads as it did. -/
def insnBackUptoRow : OpenClaim := { program := "ytbbhjnhcdjjjeaa", sum := "5b956a8734fbfe4b2ce29c6e865c3fa7585c9de1b3af0e688fa86a2cbb38b16f", func := "riddle/riddlelaw2.InsnBack", spec := "insnBack", apart := false, narrowed := true }
def InsnBackUptoSaid : Prop := insnBackUptoRow.holds Try.pinned (OpenSpec.upto insnBackSpec)

/-- 'riddlelaw2.InsnJoins', WHERE WHAT IT READS IS OF BULK AT MOST 1048576: true; the input reads as it did. -/
def insnJoinsUptoRow : OpenClaim := { program := "ytbbhjnhcdjjjeaa", sum := "5b956a8734fbfe4b2ce29c6e865c3fa7585c9de1b3af0e688fa86a2cbb38b16f", func := "riddle/riddlelaw2.InsnJoins", spec := "insnJoins", apart := false, narrowed := true }
def InsnJoinsUptoSaid : Prop := insnJoinsUptoRow.holds Try.pinned (OpenSpec.upto insnJoinsSpec)

/-- 'riddlelaw2.InsnCodes', WHERE WHAT IT READS IS OF BULK AT MOST 1048576: true; the input reads as it did. -/
def insnCodesUptoRow : OpenClaim := { program := "ytbbhjnhcdjjjeaa", sum := "5b956a8734fbfe4b2ce29c6e865c3fa7585c9de1b3af0e688fa86a2cbb38b16f", func := "riddle/riddlelaw2.InsnCodes", spec := "insnCodes", apart := false, narrowed := true }
def InsnCodesUptoSaid : Prop := insnCodesUptoRow.holds Try.pinned (OpenSpec.upto insnCodesSpec)

end Rows
end Go.Proofs.Ytbbhjnhcdjjjeaa
