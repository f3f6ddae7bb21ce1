/-
  No cell of these rows narrows 'for every input' (looked for: loops, veiled, ifaces, maps, wideKeys, modest, calm, conditions, laid).
  DERIVED. THE GIVEN ROWS OF THIS SEAT. 7 by the template 'for every input the law returns true; each argument reads behind the call as it read before'; 0 by the template 'total and deterministic' (their statements: YtbchjihecdkfeaaTotals.lean).
  GIVEN WITH THE SEED: the statements are not yours to turn. If you find one false, say at which input.
  Laid BY PROGRAM, IN A SANDBOX (cutbox-rows.mjs): the forced cells as the released guide's own fill.sh prints them over the translation 45cc90af8d7b1a09… (all of the seat's roots in one cut). By AI agents, Wed Nov 11 2026. No macro, syntax, notation, axiom, sorry.
-/
import Derived.Test.YtbchjihecdkfeaaChecked
import GoSem.Claim
import GoSem.ClaimJoined
import GoSem.ClaimMapViews
import Derived.JoinedTies
import Derived.KernelRfl
namespace Go.Proofs.Ytbchjihecdkfeaa
/- THE CELL 'sum', in the pinned program and in every row, IS THE sha256 OF THE DUMP (.gsa) THAT YtbchjihecdkfeaaProg.lean LOADS. Nothing in Lean hashes anything: it is a label: what it is worth is what the hold of that sum in a sandbox is worth. -/
noncomputable def Try.pinned : Pinned := { name := "ytbchjihecdkfeaa", sum := "45cc90af8d7b1a0901ffa7ed705997f00fcdd09dd0d55c5603bcfc22cc1765c9", checked := Try.checked }
namespace Rows
def none {H : Type} : Left H := { results := [], args := [] }

/-- 'riddlelaw15.GraphChecks': WHATEVER THE INPUT: true; the input reads as it did. -/
def graphChecksSpec : ChangeSpec := { name := "graphChecks", fn := fun _ => fun
  | [d] => { results := [.lit (.bool true)], args := [d] }
  | _ => none }
def graphChecksRow : OpenClaim := { program := "ytbchjihecdkfeaa", sum := "45cc90af8d7b1a0901ffa7ed705997f00fcdd09dd0d55c5603bcfc22cc1765c9", func := "riddle/riddlelaw15.GraphChecks", spec := "graphChecks", unfollowed := true, recurses := true, apart := false }
def GraphChecksSaid : Prop := graphChecksRow.holds Try.pinned (OpenSpec.ofChange graphChecksSpec)

/-- ITS FALSE NEIGHBOUR: 'it returns false'. Refute it at one input. -/
def graphChecksWrong : ChangeSpec := { name := "graphChecks", fn := fun _ => fun
  | [d] => { results := [.lit (.bool false)], args := [d] }
  | _ => none }
def GraphChecksWrongFalsely : Prop := graphChecksRow.holds Try.pinned (OpenSpec.ofChange graphChecksWrong)

/-- 'riddlelaw15.GraphRuns': WHATEVER THE INPUT: true; the input reads as it did. -/
def graphRunsSpec : ChangeSpec := { name := "graphRuns", fn := fun _ => fun
  | [d1, d2] => { results := [.lit (.bool true)], args := [d1, d2] }
  | _ => none }
def graphRunsRow : OpenClaim := { program := "ytbchjihecdkfeaa", sum := "45cc90af8d7b1a0901ffa7ed705997f00fcdd09dd0d55c5603bcfc22cc1765c9", func := "riddle/riddlelaw15.GraphRuns", spec := "graphRuns", unfollowed := true, recurses := true, apart := false }
def GraphRunsSaid : Prop := graphRunsRow.holds Try.pinned (OpenSpec.ofChange graphRunsSpec)

/-- ITS FALSE NEIGHBOUR: 'it returns false'. Refute it at one input. -/
def graphRunsWrong : ChangeSpec := { name := "graphRuns", fn := fun _ => fun
  | [d1, d2] => { results := [.lit (.bool false)], args := [d1, d2] }
  | _ => none }
def GraphRunsWrongFalsely : Prop := graphRunsRow.holds Try.pinned (OpenSpec.ofChange graphRunsWrong)

/-- 'riddlelaw15.GraphOfs': WHATEVER THE INPUT: true; the input reads as it did. -/
def graphOfsSpec : ChangeSpec := { name := "graphOfs", fn := fun _ => fun
  | [d] => { results := [.lit (.bool true)], args := [d] }
  | _ => none }
def graphOfsRow : OpenClaim := { program := "ytbchjihecdkfeaa", sum := "45cc90af8d7b1a0901ffa7ed705997f00fcdd09dd0d55c5603bcfc22cc1765c9", func := "riddle/riddlelaw15.GraphOfs", spec := "graphOfs", unfollowed := true, recurses := true, apart := false }
def GraphOfsSaid : Prop := graphOfsRow.holds Try.pinned (OpenSpec.ofChange graphOfsSpec)

/-- ITS FALSE NEIGHBOUR: 'it returns false'. Refute it at one input. -/
def graphOfsWrong : ChangeSpec := { name := "graphOfs", fn := fun _ => fun
  | [d] => { results := [.lit (.bool false)], args := [d] }
  | _ => none }
def GraphOfsWrongFalsely : Prop := graphOfsRow.holds Try.pinned (OpenSpec.ofChange graphOfsWrong)

/-- 'riddlelaw15.GraphBehind': WHATEVER THE INPUT: true; the input reads as it did. -/
def graphBehindSpec : ChangeSpec := { name := "graphBehind", fn := fun _ => fun
  | [d1, d2, d3] => { results := [.lit (.bool true)], args := [d1, d2, d3] }
  | _ => none }
def graphBehindRow : OpenClaim := { program := "ytbchjihecdkfeaa", sum := "45cc90af8d7b1a0901ffa7ed705997f00fcdd09dd0d55c5603bcfc22cc1765c9", func := "riddle/riddlelaw15.GraphBehind", spec := "graphBehind", unfollowed := true, recurses := true, apart := false }
def GraphBehindSaid : Prop := graphBehindRow.holds Try.pinned (OpenSpec.ofChange graphBehindSpec)

/-- ITS FALSE NEIGHBOUR: 'it returns false'. Refute it at one input. -/
def graphBehindWrong : ChangeSpec := { name := "graphBehind", fn := fun _ => fun
  | [d1, d2, d3] => { results := [.lit (.bool false)], args := [d1, d2, d3] }
  | _ => none }
def GraphBehindWrongFalsely : Prop := graphBehindRow.holds Try.pinned (OpenSpec.ofChange graphBehindWrong)

/-- 'riddlelaw15.GraphSizes': WHATEVER THE INPUT: true; the input reads as it did. -/
def graphSizesSpec : ChangeSpec := { name := "graphSizes", fn := fun _ => fun
  | [d] => { results := [.lit (.bool true)], args := [d] }
  | _ => none }
def graphSizesRow : OpenClaim := { program := "ytbchjihecdkfeaa", sum := "45cc90af8d7b1a0901ffa7ed705997f00fcdd09dd0d55c5603bcfc22cc1765c9", func := "riddle/riddlelaw15.GraphSizes", spec := "graphSizes", unfollowed := true, recurses := true, apart := false }
def GraphSizesSaid : Prop := graphSizesRow.holds Try.pinned (OpenSpec.ofChange graphSizesSpec)

/-- ITS FALSE NEIGHBOUR: 'it returns false'. Refute it at one input. -/
def graphSizesWrong : ChangeSpec := { name := "graphSizes", fn := fun _ => fun
  | [d] => { results := [.lit (.bool false)], args := [d] }
  | _ => none }
def GraphSizesWrongFalsely : Prop := graphSizesRow.holds Try.pinned (OpenSpec.ofChange graphSizesWrong)

/-- 'riddlelaw15.GraphBounds': WHATEVER THE INPUT: true; the input reads as it did. -/
def graphBoundsSpec : ChangeSpec := { name := "graphBounds", fn := fun _ => fun
  | [d1, d2] => { results := [.lit (.bool true)], args := [d1, d2] }
  | _ => none }
def graphBoundsRow : OpenClaim := { program := "ytbchjihecdkfeaa", sum := "45cc90af8d7b1a0901ffa7ed705997f00fcdd09dd0d55c5603bcfc22cc1765c9", func := "riddle/riddlelaw15.GraphBounds", spec := "graphBounds", unfollowed := true, recurses := true, apart := false }
def GraphBoundsSaid : Prop := graphBoundsRow.holds Try.pinned (OpenSpec.ofChange graphBoundsSpec)

/-- ITS FALSE NEIGHBOUR: 'it returns false'. Refute it at one input. -/
def graphBoundsWrong : ChangeSpec := { name := "graphBounds", fn := fun _ => fun
  | [d1, d2] => { results := [.lit (.bool false)], args := [d1, d2] }
  | _ => none }
def GraphBoundsWrongFalsely : Prop := graphBoundsRow.holds Try.pinned (OpenSpec.ofChange graphBoundsWrong)

/-- 'riddlelaw15.GraphSame': WHATEVER THE INPUT: true; the input reads as it did. -/
def graphSameSpec : ChangeSpec := { name := "graphSame", fn := fun _ => fun
  | [d1, d2] => { results := [.lit (.bool true)], args := [d1, d2] }
  | _ => none }
def graphSameRow : OpenClaim := { program := "ytbchjihecdkfeaa", sum := "45cc90af8d7b1a0901ffa7ed705997f00fcdd09dd0d55c5603bcfc22cc1765c9", func := "riddle/riddlelaw15.GraphSame", spec := "graphSame", unfollowed := true, recurses := true, apart := false }
def GraphSameSaid : Prop := graphSameRow.holds Try.pinned (OpenSpec.ofChange graphSameSpec)

/-- ITS FALSE NEIGHBOUR: 'it returns false'. Refute it at one input. -/
def graphSameWrong : ChangeSpec := { name := "graphSame", fn := fun _ => fun
  | [d1, d2] => { results := [.lit (.bool false)], args := [d1, d2] }
  | _ => none }
def GraphSameWrongFalsely : Prop := graphSameRow.holds Try.pinned (OpenSpec.ofChange graphSameWrong)

/- THE SECOND FORM. 'bulk': how many values and letters a reading holds, each counted each time it is reached (what is shared counts as often as it is met; a slice's spare places count too). A statement '..UptoSaid' is the law's where the arguments, and the package variables that the reading takes, are together of bulk at most 1048576: NARROWER than '..Said'. Prove '..Said' where nothing that the law and all that it calls make is longer than what came in: it says more and counts as full. Else prove '..UptoSaid'. A law counts once. -/
mutual
def uptoBulk {H : Type} : DataW H → Nat
  | .lit (.string bytes) => bytes.length + 1
  | .lit _ => 1
  | .nil => 1
  | .ptr d => uptoBulk d + 1
  | .slice elems spare => uptoBulkAll elems + uptoBulkAll spare + 1
  | .agg parts => uptoBulkAll parts + 1
  | .iface _ d => uptoBulk d + 1
  | .map entries => uptoBulkEntries entries + 1
  | .held _ => 1
def uptoBulkAll {H : Type} : List (DataW H) → Nat
  | [] => 0
  | d :: r => uptoBulk d + uptoBulkAll r
def uptoBulkEntries {H : Type} : List (Lit × DataW H) → Nat
  | [] => 0
  | x :: r => uptoBulkEntry x + uptoBulkEntries r
def uptoBulkEntry {H : Type} : Lit × DataW H → Nat
  | (.string bytes, d) => bytes.length + uptoBulk d + 1
  | (_, d) => uptoBulk d + 1
 end
def uptoSmall : (H : Type) → List (DataW H) → Bool := fun _ ds => decide (uptoBulkAll ds ≤ 1048576)
def OpenSpec.upto (s : _root_.Go.ChangeSpec) : _root_.Go.OpenSpec := { _root_.Go.OpenSpec.ofChange s with cond := some uptoSmall }

/-- 'riddlelaw15.GraphChecks', WHERE WHAT IT READS IS OF BULK AT MOST 1048576: true; the input reads as it did. -/
def graphChecksUptoRow : OpenClaim := { program := "ytbchjihecdkfeaa", sum := "45cc90af8d7b1a0901ffa7ed705997f00fcdd09dd0d55c5603bcfc22cc1765c9", func := "riddle/riddlelaw15.GraphChecks", spec := "graphChecks", unfollowed := true, recurses := true, apart := false, narrowed := true }
def GraphChecksUptoSaid : Prop := graphChecksUptoRow.holds Try.pinned (OpenSpec.upto graphChecksSpec)

/-- 'riddlelaw15.GraphRuns', WHERE WHAT IT READS IS OF BULK AT MOST 1048576: true; the input reads as it did. -/
def graphRunsUptoRow : OpenClaim := { program := "ytbchjihecdkfeaa", sum := "45cc90af8d7b1a0901ffa7ed705997f00fcdd09dd0d55c5603bcfc22cc1765c9", func := "riddle/riddlelaw15.GraphRuns", spec := "graphRuns", unfollowed := true, recurses := true, apart := false, narrowed := true }
def GraphRunsUptoSaid : Prop := graphRunsUptoRow.holds Try.pinned (OpenSpec.upto graphRunsSpec)

/-- 'riddlelaw15.GraphOfs', WHERE WHAT IT READS IS OF BULK AT MOST 1048576: true; the input reads as it did. -/
def graphOfsUptoRow : OpenClaim := { program := "ytbchjihecdkfeaa", sum := "45cc90af8d7b1a0901ffa7ed705997f00fcdd09dd0d55c5603bcfc22cc1765c9", func := "riddle/riddlelaw15.GraphOfs", spec := "graphOfs", unfollowed := true, recurses := true, apart := false, narrowed := true }
def GraphOfsUptoSaid : Prop := graphOfsUptoRow.holds Try.pinned (OpenSpec.upto graphOfsSpec)

/-- 'riddlelaw15.GraphBehind', WHERE WHAT IT READS IS OF BULK AT MOST 1048576: true; the input reads as it did. -/
def graphBehindUptoRow : OpenClaim := { program := "ytbchjihecdkfeaa", sum := "45cc90af8d7b1a0901ffa7ed705997f00fcdd09dd0d55c5603bcfc22cc1765c9", func := "riddle/riddlelaw15.GraphBehind", spec := "graphBehind", unfollowed := true, recurses := true, apart := false, narrowed := true }
def GraphBehindUptoSaid : Prop := graphBehindUptoRow.holds Try.pinned (OpenSpec.upto graphBehindSpec)

/-- 'riddlelaw15.GraphSizes', WHERE WHAT IT READS IS OF BULK AT MOST 1048576: true; the input reads as it did. -/
def graphSizesUptoRow : OpenClaim := { program := "ytbchjihecdkfeaa", sum := "45cc90af8d7b1a0901ffa7ed705997f00fcdd09dd0d55c5603bcfc22cc1765c9", func := "riddle/riddlelaw15.GraphSizes", spec := "graphSizes", unfollowed := true, recurses := true, apart := false, narrowed := true }
def GraphSizesUptoSaid : Prop := graphSizesUptoRow.holds Try.pinned (OpenSpec.upto graphSizesSpec)

/-- 'riddlelaw15.GraphBounds', WHERE WHAT IT READS IS OF BULK AT MOST 1048576: true; the input reads as it did. -/
def graphBoundsUptoRow : OpenClaim := { program := "ytbchjihecdkfeaa", sum := "45cc90af8d7b1a0901ffa7ed705997f00fcdd09dd0d55c5603bcfc22cc1765c9", func := "riddle/riddlelaw15.GraphBounds", spec := "graphBounds", unfollowed := true, recurses := true, apart := false, narrowed := true }
def GraphBoundsUptoSaid : Prop := graphBoundsUptoRow.holds Try.pinned (OpenSpec.upto graphBoundsSpec)

/-- 'riddlelaw15.GraphSame', WHERE WHAT IT READS IS OF BULK AT MOST 1048576: true; the input reads as it did. -/
def graphSameUptoRow : OpenClaim := { program := "ytbchjihecdkfeaa", sum := "45cc90af8d7b1a0901ffa7ed705997f00fcdd09dd0d55c5603bcfc22cc1765c9", func := "riddle/riddlelaw15.GraphSame", spec := "graphSame", unfollowed := true, recurses := true, apart := false, narrowed := true }
def GraphSameUptoSaid : Prop := graphSameUptoRow.holds Try.pinned (OpenSpec.upto graphSameSpec)

end Rows
end Go.Proofs.Ytbchjihecdkfeaa
