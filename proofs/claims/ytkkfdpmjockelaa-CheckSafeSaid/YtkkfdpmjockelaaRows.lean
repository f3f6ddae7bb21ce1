/-
  No cell of these rows narrows 'for every input' (looked for: loops, veiled, ifaces, maps, wideKeys, modest, calm, conditions, laid).
  DERIVED. THE GIVEN ROWS OF THIS SEAT. 6 by the template 'for every input the law returns true; each argument reads behind the call as it read before'; 0 by the template 'total and deterministic' (their statements: YtkkfdpmjockelaaTotals.lean).
  GIVEN WITH THE SEED: the statements are not yours to turn. If you find one false, say at which input.
  Laid BY PROGRAM, IN A SANDBOX (cutbox-rows.mjs): the forced cells as the released guide's own fill.sh prints them over the translation 748d1b5c7fd79c25… (all of the seat's roots in one cut). By AI agents, Wed Nov 11 2026. No macro, syntax, notation, axiom, sorry.
-/
import Derived.Test.YtkkfdpmjockelaaChecked
import GoSem.Claim
import GoSem.ClaimJoined
import GoSem.ClaimMapViews
import Derived.JoinedTies
import Derived.KernelRfl
namespace Go.Proofs.Ytkkfdpmjockelaa
/- THE CELL 'sum', in the pinned program and in every row, IS THE sha256 OF THE DUMP (.gsa) THAT YtkkfdpmjockelaaProg.lean LOADS. Nothing in Lean hashes anything: it is a label: what it is worth is what the hold of that sum in a sandbox is worth. -/
noncomputable def Try.pinned : Pinned := { name := "ytkkfdpmjockelaa", sum := "748d1b5c7fd79c25cbb78365608110dfdc4bbb55d8dff1adead0ce53325ebd4b", checked := Try.checked }
namespace Rows
def none {H : Type} : Left H := { results := [], args := [] }

/-- 'riddlelaw4.CheckChecks': WHATEVER THE INPUT: true; the input reads as it did. -/
def checkChecksSpec : ChangeSpec := { name := "checkChecks", fn := fun _ => fun
  | [d] => { results := [.lit (.bool true)], args := [d] }
  | _ => none }
def checkChecksRow : OpenClaim := { program := "ytkkfdpmjockelaa", sum := "748d1b5c7fd79c25cbb78365608110dfdc4bbb55d8dff1adead0ce53325ebd4b", func := "riddle/riddlelaw4.CheckChecks", spec := "checkChecks", unfollowed := true, recurses := true, apart := false }
def CheckChecksSaid : Prop := checkChecksRow.holds Try.pinned (OpenSpec.ofChange checkChecksSpec)

/-- ITS FALSE NEIGHBOUR: 'it returns false'. Refute it at one input. -/
def checkChecksWrong : ChangeSpec := { name := "checkChecks", fn := fun _ => fun
  | [d] => { results := [.lit (.bool false)], args := [d] }
  | _ => none }
def CheckChecksWrongFalsely : Prop := checkChecksRow.holds Try.pinned (OpenSpec.ofChange checkChecksWrong)

/-- 'riddlelaw4.CheckReaches': WHATEVER THE INPUT: true; the input reads as it did. -/
def checkReachesSpec : ChangeSpec := { name := "checkReaches", fn := fun _ => fun
  | [d] => { results := [.lit (.bool true)], args := [d] }
  | _ => none }
def checkReachesRow : OpenClaim := { program := "ytkkfdpmjockelaa", sum := "748d1b5c7fd79c25cbb78365608110dfdc4bbb55d8dff1adead0ce53325ebd4b", func := "riddle/riddlelaw4.CheckReaches", spec := "checkReaches", unfollowed := true, recurses := true, apart := false }
def CheckReachesSaid : Prop := checkReachesRow.holds Try.pinned (OpenSpec.ofChange checkReachesSpec)

/-- ITS FALSE NEIGHBOUR: 'it returns false'. Refute it at one input. -/
def checkReachesWrong : ChangeSpec := { name := "checkReaches", fn := fun _ => fun
  | [d] => { results := [.lit (.bool false)], args := [d] }
  | _ => none }
def CheckReachesWrongFalsely : Prop := checkReachesRow.holds Try.pinned (OpenSpec.ofChange checkReachesWrong)

/-- 'riddlelaw4.CheckSafe': WHATEVER THE INPUT: true; the input reads as it did. -/
def checkSafeSpec : ChangeSpec := { name := "checkSafe", fn := fun _ => fun
  | [d] => { results := [.lit (.bool true)], args := [d] }
  | _ => none }
def checkSafeRow : OpenClaim := { program := "ytkkfdpmjockelaa", sum := "748d1b5c7fd79c25cbb78365608110dfdc4bbb55d8dff1adead0ce53325ebd4b", func := "riddle/riddlelaw4.CheckSafe", spec := "checkSafe", unfollowed := true, recurses := true, apart := false }
def CheckSafeSaid : Prop := checkSafeRow.holds Try.pinned (OpenSpec.ofChange checkSafeSpec)

/-- ITS FALSE NEIGHBOUR: 'it returns false'. Refute it at one input. -/
def checkSafeWrong : ChangeSpec := { name := "checkSafe", fn := fun _ => fun
  | [d] => { results := [.lit (.bool false)], args := [d] }
  | _ => none }
def CheckSafeWrongFalsely : Prop := checkSafeRow.holds Try.pinned (OpenSpec.ofChange checkSafeWrong)

/-- 'riddlelaw4.CheckAhead': WHATEVER THE INPUT: true; the input reads as it did. -/
def checkAheadSpec : ChangeSpec := { name := "checkAhead", fn := fun _ => fun
  | [d1, d2, d3] => { results := [.lit (.bool true)], args := [d1, d2, d3] }
  | _ => none }
def checkAheadRow : OpenClaim := { program := "ytkkfdpmjockelaa", sum := "748d1b5c7fd79c25cbb78365608110dfdc4bbb55d8dff1adead0ce53325ebd4b", func := "riddle/riddlelaw4.CheckAhead", spec := "checkAhead", unfollowed := true, recurses := true, apart := false }
def CheckAheadSaid : Prop := checkAheadRow.holds Try.pinned (OpenSpec.ofChange checkAheadSpec)

/-- ITS FALSE NEIGHBOUR: 'it returns false'. Refute it at one input. -/
def checkAheadWrong : ChangeSpec := { name := "checkAhead", fn := fun _ => fun
  | [d1, d2, d3] => { results := [.lit (.bool false)], args := [d1, d2, d3] }
  | _ => none }
def CheckAheadWrongFalsely : Prop := checkAheadRow.holds Try.pinned (OpenSpec.ofChange checkAheadWrong)

/-- 'riddlelaw4.CheckSpoilt': WHATEVER THE INPUT: true; the input reads as it did. -/
def checkSpoiltSpec : ChangeSpec := { name := "checkSpoilt", fn := fun _ => fun
  | [d1, d2, d3] => { results := [.lit (.bool true)], args := [d1, d2, d3] }
  | _ => none }
def checkSpoiltRow : OpenClaim := { program := "ytkkfdpmjockelaa", sum := "748d1b5c7fd79c25cbb78365608110dfdc4bbb55d8dff1adead0ce53325ebd4b", func := "riddle/riddlelaw4.CheckSpoilt", spec := "checkSpoilt", unfollowed := true, recurses := true, apart := false }
def CheckSpoiltSaid : Prop := checkSpoiltRow.holds Try.pinned (OpenSpec.ofChange checkSpoiltSpec)

/-- ITS FALSE NEIGHBOUR: 'it returns false'. Refute it at one input. -/
def checkSpoiltWrong : ChangeSpec := { name := "checkSpoilt", fn := fun _ => fun
  | [d1, d2, d3] => { results := [.lit (.bool false)], args := [d1, d2, d3] }
  | _ => none }
def CheckSpoiltWrongFalsely : Prop := checkSpoiltRow.holds Try.pinned (OpenSpec.ofChange checkSpoiltWrong)

/-- 'riddlelaw4.CheckBytes': WHATEVER THE INPUT: true; the input reads as it did. -/
def checkBytesSpec : ChangeSpec := { name := "checkBytes", fn := fun _ => fun
  | [d] => { results := [.lit (.bool true)], args := [d] }
  | _ => none }
def checkBytesRow : OpenClaim := { program := "ytkkfdpmjockelaa", sum := "748d1b5c7fd79c25cbb78365608110dfdc4bbb55d8dff1adead0ce53325ebd4b", func := "riddle/riddlelaw4.CheckBytes", spec := "checkBytes", unfollowed := true, recurses := true, apart := false }
def CheckBytesSaid : Prop := checkBytesRow.holds Try.pinned (OpenSpec.ofChange checkBytesSpec)

/-- ITS FALSE NEIGHBOUR: 'it returns false'. Refute it at one input. -/
def checkBytesWrong : ChangeSpec := { name := "checkBytes", fn := fun _ => fun
  | [d] => { results := [.lit (.bool false)], args := [d] }
  | _ => none }
def CheckBytesWrongFalsely : Prop := checkBytesRow.holds Try.pinned (OpenSpec.ofChange checkBytesWrong)

/- THE SECOND FORM. 'bulk': how many values and letters a reading holds, each counted each time it is reached (what is shared counts as often as it is met; a slice's spare places count too). A statement '..UptoSaid' is the law's where the arguments, and the package variables that the reading takes, are together of bulk at most 1048576: NARROWER than '..Said'. Prove '..Said' where nothing that the law and all that it calls make is longer than what came in: it says more and counts as full. Else prove '..UptoSaid'. A law counts once. -/
mutual
def uptoBulk {H : Type} : DataW H → Nat
  | .lit (.string bytes) => bytes.length + 1
  | .lit _ => 1
  | .nil => 1
  | .ptr d => uptoBulk d + 1
  | .slice elems spare => uptoBulkAll elems + uptoBulkAll spare + 1
  | .agg parts => uptoBulkAll parts + 1
  | .iface _ d => uptoBulk d + 1
  | .map entries => uptoBulkEntries entries + 1
  | .held _ => 1
def uptoBulkAll {H : Type} : List (DataW H) → Nat
  | [] => 0
  | d :: r => uptoBulk d + uptoBulkAll r
def uptoBulkEntries {H : Type} : List (Lit × DataW H) → Nat
  | [] => 0
  | x :: r => uptoBulkEntry x + uptoBulkEntries r
def uptoBulkEntry {H : Type} : Lit × DataW H → Nat
  | (.string bytes, d) => bytes.length + uptoBulk d + 1
  | (_, d) => uptoBulk d + 1
 end
def uptoSmall : (H : Type) → List (DataW H) → Bool := fun _ ds => decide (uptoBulkAll ds ≤ 1048576)
def OpenSpec.upto (s : _root_.Go.ChangeSpec) : _root_.Go.OpenSpec := { _root_.Go.OpenSpec.ofChange s with cond := some uptoSmall }

/-- 'riddlelaw4.CheckChecks', WHERE WHAT IT READS IS OF BULK AT MOST 1048576: true; the input reads as it did. -/
def checkChecksUptoRow : OpenClaim := { program := "ytkkfdpmjockelaa", sum := "748d1b5c7fd79c25cbb78365608110dfdc4bbb55d8dff1adead0ce53325ebd4b", func := "riddle/riddlelaw4.CheckChecks", spec := "checkChecks", unfollowed := true, recurses := true, apart := false, narrowed := true }
def CheckChecksUptoSaid : Prop := checkChecksUptoRow.holds Try.pinned (OpenSpec.upto checkChecksSpec)

/-- 'riddlelaw4.CheckReaches', WHERE WHAT IT READS IS OF BULK AT MOST 1048576: true; the input reads as it did. -/
def checkReachesUptoRow : OpenClaim := { program := "ytkkfdpmjockelaa", sum := "748d1b5c7fd79c25cbb78365608110dfdc4bbb55d8dff1adead0ce53325ebd4b", func := "riddle/riddlelaw4.CheckReaches", spec := "checkReaches", unfollowed := true, recurses := true, apart := false, narrowed := true }
def CheckReachesUptoSaid : Prop := checkReachesUptoRow.holds Try.pinned (OpenSpec.upto checkReachesSpec)

/-- 'riddlelaw4.CheckSafe', WHERE WHAT IT READS IS OF BULK AT MOST 1048576: true; the input reads as it did. -/
def checkSafeUptoRow : OpenClaim := { program := "ytkkfdpmjockelaa", sum := "748d1b5c7fd79c25cbb78365608110dfdc4bbb55d8dff1adead0ce53325ebd4b", func := "riddle/riddlelaw4.CheckSafe", spec := "checkSafe", unfollowed := true, recurses := true, apart := false, narrowed := true }
def CheckSafeUptoSaid : Prop := checkSafeUptoRow.holds Try.pinned (OpenSpec.upto checkSafeSpec)

/-- 'riddlelaw4.CheckAhead', WHERE WHAT IT READS IS OF BULK AT MOST 1048576: true; the input reads as it did. -/
def checkAheadUptoRow : OpenClaim := { program := "ytkkfdpmjockelaa", sum := "748d1b5c7fd79c25cbb78365608110dfdc4bbb55d8dff1adead0ce53325ebd4b", func := "riddle/riddlelaw4.CheckAhead", spec := "checkAhead", unfollowed := true, recurses := true, apart := false, narrowed := true }
def CheckAheadUptoSaid : Prop := checkAheadUptoRow.holds Try.pinned (OpenSpec.upto checkAheadSpec)

/-- 'riddlelaw4.CheckSpoilt', WHERE WHAT IT READS IS OF BULK AT MOST 1048576: true; the input reads as it did. -/
def checkSpoiltUptoRow : OpenClaim := { program := "ytkkfdpmjockelaa", sum := "748d1b5c7fd79c25cbb78365608110dfdc4bbb55d8dff1adead0ce53325ebd4b", func := "riddle/riddlelaw4.CheckSpoilt", spec := "checkSpoilt", unfollowed := true, recurses := true, apart := false, narrowed := true }
def CheckSpoiltUptoSaid : Prop := checkSpoiltUptoRow.holds Try.pinned (OpenSpec.upto checkSpoiltSpec)

/-- 'riddlelaw4.CheckBytes', WHERE WHAT IT READS IS OF BULK AT MOST 1048576: true; the input reads as it did. -/
def checkBytesUptoRow : OpenClaim := { program := "ytkkfdpmjockelaa", sum := "748d1b5c7fd79c25cbb78365608110dfdc4bbb55d8dff1adead0ce53325ebd4b", func := "riddle/riddlelaw4.CheckBytes", spec := "checkBytes", unfollowed := true, recurses := true, apart := false, narrowed := true }
def CheckBytesUptoSaid : Prop := checkBytesUptoRow.holds Try.pinned (OpenSpec.upto checkBytesSpec)

end Rows
end Go.Proofs.Ytkkfdpmjockelaa
