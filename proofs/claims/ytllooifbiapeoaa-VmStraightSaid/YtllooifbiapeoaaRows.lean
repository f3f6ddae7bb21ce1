/-
  No cell of these rows narrows 'for every input' (looked for: loops, veiled, ifaces, maps, wideKeys, modest, calm, conditions, laid).
  DERIVED. THE GIVEN ROWS OF THIS SEAT. 8 by the template 'for every input the law returns true; each argument reads behind the call as it read before'; 0 by the template 'total and deterministic' (their statements: YtllooifbiapeoaaTotals.lean).
  GIVEN WITH THE SEED: the statements are not yours to turn. If you find one false, say at which input.
  Laid BY PROGRAM, IN A SANDBOX (cutbox-rows.mjs): the forced cells as the released guide's own fill.sh prints them over the translation 4f19ef79fb467e30… (all of the seat's roots in one cut). By AI agents, Wed Nov 11 2026. No macro, syntax, notation, axiom, sorry.
-/
import Derived.Test.YtllooifbiapeoaaChecked
import GoSem.Claim
import GoSem.ClaimJoined
import GoSem.ClaimMapViews
import Derived.JoinedTies
import Derived.KernelRfl
namespace Go.Proofs.Ytllooifbiapeoaa
/- THE CELL 'sum', in the pinned program and in every row, IS THE sha256 OF THE DUMP (.gsa) THAT YtllooifbiapeoaaProg.lean LOADS. Nothing in Lean hashes anything: it is a label: what it is worth is what the hold of that sum in a sandbox is worth. -/
noncomputable def Try.pinned : Pinned := { name := "ytllooifbiapeoaa", sum := "4f19ef79fb467e3078c1809f3704e4e90ab017d6dc335cc7ad91f21e9b23ad2c", checked := Try.checked }
namespace Rows
def none {H : Type} : Left H := { results := [], args := [] }

/-- 'riddlelaw5.VmRuns': WHATEVER THE INPUT: true; the input reads as it did. -/
def vmRunsSpec : ChangeSpec := { name := "vmRuns", fn := fun _ => fun
  | [d1, d2] => { results := [.lit (.bool true)], args := [d1, d2] }
  | _ => none }
def vmRunsRow : OpenClaim := { program := "ytllooifbiapeoaa", sum := "4f19ef79fb467e3078c1809f3704e4e90ab017d6dc335cc7ad91f21e9b23ad2c", func := "riddle/riddlelaw5.VmRuns", spec := "vmRuns", unfollowed := true, recurses := true, apart := false }
def VmRunsSaid : Prop := vmRunsRow.holds Try.pinned (OpenSpec.ofChange vmRunsSpec)

/-- ITS FALSE NEIGHBOUR: 'it returns false'. Refute it at one input. -/
def vmRunsWrong : ChangeSpec := { name := "vmRuns", fn := fun _ => fun
  | [d1, d2] => { results := [.lit (.bool false)], args := [d1, d2] }
  | _ => none }
def VmRunsWrongFalsely : Prop := vmRunsRow.holds Try.pinned (OpenSpec.ofChange vmRunsWrong)

/-- 'riddlelaw5.VmTraces': WHATEVER THE INPUT: true; the input reads as it did. -/
def vmTracesSpec : ChangeSpec := { name := "vmTraces", fn := fun _ => fun
  | [d1, d2] => { results := [.lit (.bool true)], args := [d1, d2] }
  | _ => none }
def vmTracesRow : OpenClaim := { program := "ytllooifbiapeoaa", sum := "4f19ef79fb467e3078c1809f3704e4e90ab017d6dc335cc7ad91f21e9b23ad2c", func := "riddle/riddlelaw5.VmTraces", spec := "vmTraces", unfollowed := true, recurses := true, apart := false }
def VmTracesSaid : Prop := vmTracesRow.holds Try.pinned (OpenSpec.ofChange vmTracesSpec)

/-- ITS FALSE NEIGHBOUR: 'it returns false'. Refute it at one input. -/
def vmTracesWrong : ChangeSpec := { name := "vmTraces", fn := fun _ => fun
  | [d1, d2] => { results := [.lit (.bool false)], args := [d1, d2] }
  | _ => none }
def VmTracesWrongFalsely : Prop := vmTracesRow.holds Try.pinned (OpenSpec.ofChange vmTracesWrong)

/-- 'riddlelaw5.VmStraight': WHATEVER THE INPUT: true; the input reads as it did. -/
def vmStraightSpec : ChangeSpec := { name := "vmStraight", fn := fun _ => fun
  | [d1, d2, d3] => { results := [.lit (.bool true)], args := [d1, d2, d3] }
  | _ => none }
def vmStraightRow : OpenClaim := { program := "ytllooifbiapeoaa", sum := "4f19ef79fb467e3078c1809f3704e4e90ab017d6dc335cc7ad91f21e9b23ad2c", func := "riddle/riddlelaw5.VmStraight", spec := "vmStraight", unfollowed := true, recurses := true, apart := false }
def VmStraightSaid : Prop := vmStraightRow.holds Try.pinned (OpenSpec.ofChange vmStraightSpec)

/-- ITS FALSE NEIGHBOUR: 'it returns false'. Refute it at one input. -/
def vmStraightWrong : ChangeSpec := { name := "vmStraight", fn := fun _ => fun
  | [d1, d2, d3] => { results := [.lit (.bool false)], args := [d1, d2, d3] }
  | _ => none }
def VmStraightWrongFalsely : Prop := vmStraightRow.holds Try.pinned (OpenSpec.ofChange vmStraightWrong)

/-- 'riddlelaw5.VmLoads': WHATEVER THE INPUT: true; the input reads as it did. -/
def vmLoadsSpec : ChangeSpec := { name := "vmLoads", fn := fun _ => fun
  | [d1, d2, d3] => { results := [.lit (.bool true)], args := [d1, d2, d3] }
  | _ => none }
def vmLoadsRow : OpenClaim := { program := "ytllooifbiapeoaa", sum := "4f19ef79fb467e3078c1809f3704e4e90ab017d6dc335cc7ad91f21e9b23ad2c", func := "riddle/riddlelaw5.VmLoads", spec := "vmLoads", unfollowed := true, recurses := true, apart := false }
def VmLoadsSaid : Prop := vmLoadsRow.holds Try.pinned (OpenSpec.ofChange vmLoadsSpec)

/-- ITS FALSE NEIGHBOUR: 'it returns false'. Refute it at one input. -/
def vmLoadsWrong : ChangeSpec := { name := "vmLoads", fn := fun _ => fun
  | [d1, d2, d3] => { results := [.lit (.bool false)], args := [d1, d2, d3] }
  | _ => none }
def VmLoadsWrongFalsely : Prop := vmLoadsRow.holds Try.pinned (OpenSpec.ofChange vmLoadsWrong)

/-- 'riddlelaw5.VmJumps': WHATEVER THE INPUT: true; the input reads as it did. -/
def vmJumpsSpec : ChangeSpec := { name := "vmJumps", fn := fun _ => fun
  | [d1, d2, d3] => { results := [.lit (.bool true)], args := [d1, d2, d3] }
  | _ => none }
def vmJumpsRow : OpenClaim := { program := "ytllooifbiapeoaa", sum := "4f19ef79fb467e3078c1809f3704e4e90ab017d6dc335cc7ad91f21e9b23ad2c", func := "riddle/riddlelaw5.VmJumps", spec := "vmJumps", unfollowed := true, recurses := true, apart := false }
def VmJumpsSaid : Prop := vmJumpsRow.holds Try.pinned (OpenSpec.ofChange vmJumpsSpec)

/-- ITS FALSE NEIGHBOUR: 'it returns false'. Refute it at one input. -/
def vmJumpsWrong : ChangeSpec := { name := "vmJumps", fn := fun _ => fun
  | [d1, d2, d3] => { results := [.lit (.bool false)], args := [d1, d2, d3] }
  | _ => none }
def VmJumpsWrongFalsely : Prop := vmJumpsRow.holds Try.pinned (OpenSpec.ofChange vmJumpsWrong)

/-- 'riddlelaw5.VmBehind': WHATEVER THE INPUT: true; the input reads as it did. -/
def vmBehindSpec : ChangeSpec := { name := "vmBehind", fn := fun _ => fun
  | [d1, d2, d3] => { results := [.lit (.bool true)], args := [d1, d2, d3] }
  | _ => none }
def vmBehindRow : OpenClaim := { program := "ytllooifbiapeoaa", sum := "4f19ef79fb467e3078c1809f3704e4e90ab017d6dc335cc7ad91f21e9b23ad2c", func := "riddle/riddlelaw5.VmBehind", spec := "vmBehind", unfollowed := true, recurses := true, apart := false }
def VmBehindSaid : Prop := vmBehindRow.holds Try.pinned (OpenSpec.ofChange vmBehindSpec)

/-- ITS FALSE NEIGHBOUR: 'it returns false'. Refute it at one input. -/
def vmBehindWrong : ChangeSpec := { name := "vmBehind", fn := fun _ => fun
  | [d1, d2, d3] => { results := [.lit (.bool false)], args := [d1, d2, d3] }
  | _ => none }
def VmBehindWrongFalsely : Prop := vmBehindRow.holds Try.pinned (OpenSpec.ofChange vmBehindWrong)

/-- 'riddlelaw5.VmStops': WHATEVER THE INPUT: true; the input reads as it did. -/
def vmStopsSpec : ChangeSpec := { name := "vmStops", fn := fun _ => fun
  | [d1, d2] => { results := [.lit (.bool true)], args := [d1, d2] }
  | _ => none }
def vmStopsRow : OpenClaim := { program := "ytllooifbiapeoaa", sum := "4f19ef79fb467e3078c1809f3704e4e90ab017d6dc335cc7ad91f21e9b23ad2c", func := "riddle/riddlelaw5.VmStops", spec := "vmStops", unfollowed := true, recurses := true, apart := false }
def VmStopsSaid : Prop := vmStopsRow.holds Try.pinned (OpenSpec.ofChange vmStopsSpec)

/-- ITS FALSE NEIGHBOUR: 'it returns false'. Refute it at one input. -/
def vmStopsWrong : ChangeSpec := { name := "vmStops", fn := fun _ => fun
  | [d1, d2] => { results := [.lit (.bool false)], args := [d1, d2] }
  | _ => none }
def VmStopsWrongFalsely : Prop := vmStopsRow.holds Try.pinned (OpenSpec.ofChange vmStopsWrong)

/-- 'riddlelaw5.VmEnds': WHATEVER THE INPUT: true; the input reads as it did. -/
def vmEndsSpec : ChangeSpec := { name := "vmEnds", fn := fun _ => fun
  | [d1, d2] => { results := [.lit (.bool true)], args := [d1, d2] }
  | _ => none }
def vmEndsRow : OpenClaim := { program := "ytllooifbiapeoaa", sum := "4f19ef79fb467e3078c1809f3704e4e90ab017d6dc335cc7ad91f21e9b23ad2c", func := "riddle/riddlelaw5.VmEnds", spec := "vmEnds", unfollowed := true, recurses := true, apart := false }
def VmEndsSaid : Prop := vmEndsRow.holds Try.pinned (OpenSpec.ofChange vmEndsSpec)

/-- ITS FALSE NEIGHBOUR: 'it returns false'. Refute it at one input. -/
def vmEndsWrong : ChangeSpec := { name := "vmEnds", fn := fun _ => fun
  | [d1, d2] => { results := [.lit (.bool false)], args := [d1, d2] }
  | _ => none }
def VmEndsWrongFalsely : Prop := vmEndsRow.holds Try.pinned (OpenSpec.ofChange vmEndsWrong)

/- THE SECOND FORM. 'bulk': how many values and letters a reading holds, each counted each time it is reached (what is shared counts as often as it is met; a slice's spare places count too). A statement '..UptoSaid' is the law's where the arguments, and the package variables that the reading takes, are together of bulk at most 1048576: NARROWER than '..Said'. Prove '..Said' where nothing that the law and all that it calls make is longer than what came in: it says more and counts as full. Else prove '..UptoSaid'. A law counts once. -/
mutual
def uptoBulk {H : Type} : DataW H → Nat
  | .lit (.string bytes) => bytes.length + 1
  | .lit _ => 1
  | .nil => 1
  | .ptr d => uptoBulk d + 1
  | .slice elems spare => uptoBulkAll elems + uptoBulkAll spare + 1
  | .agg parts => uptoBulkAll parts + 1
  | .iface _ d => uptoBulk d + 1
  | .map entries => uptoBulkEntries entries + 1
  | .held _ => 1
def uptoBulkAll {H : Type} : List (DataW H) → Nat
  | [] => 0
  | d :: r => uptoBulk d + uptoBulkAll r
def uptoBulkEntries {H : Type} : List (Lit × DataW H) → Nat
  | [] => 0
  | x :: r => uptoBulkEntry x + uptoBulkEntries r
def uptoBulkEntry {H : Type} : Lit × DataW H → Nat
  | (.string bytes, d) => bytes.length + uptoBulk d + 1
  | (_, d) => uptoBulk d + 1
 end
def uptoSmall : (H : Type) → List (DataW H) → Bool := fun _ ds => decide (uptoBulkAll ds ≤ 1048576)
def OpenSpec.upto (s : _root_.Go.ChangeSpec) : _root_.Go.OpenSpec := { _root_.Go.OpenSpec.ofChange s with cond := some uptoSmall }

/-- 'riddlelaw5.VmRuns', WHERE WHAT IT READS IS OF BULK AT MOST 1048576: true; the input reads as it did. -/
def vmRunsUptoRow : OpenClaim := { program := "ytllooifbiapeoaa", sum := "4f19ef79fb467e3078c1809f3704e4e90ab017d6dc335cc7ad91f21e9b23ad2c", func := "riddle/riddlelaw5.VmRuns", spec := "vmRuns", unfollowed := true, recurses := true, apart := false, narrowed := true }
def VmRunsUptoSaid : Prop := vmRunsUptoRow.holds Try.pinned (OpenSpec.upto vmRunsSpec)

/-- 'riddlelaw5.VmTraces', WHERE WHAT IT READS IS OF BULK AT MOST 1048576: true; the input reads as it did. -/
def vmTracesUptoRow : OpenClaim := { program := "ytllooifbiapeoaa", sum := "4f19ef79fb467e3078c1809f3704e4e90ab017d6dc335cc7ad91f21e9b23ad2c", func := "riddle/riddlelaw5.VmTraces", spec := "vmTraces", unfollowed := true, recurses := true, apart := false, narrowed := true }
def VmTracesUptoSaid : Prop := vmTracesUptoRow.holds Try.pinned (OpenSpec.upto vmTracesSpec)

/-- 'riddlelaw5.VmStraight', WHERE WHAT IT READS IS OF BULK AT MOST 1048576: true; the input reads as it did. -/
def vmStraightUptoRow : OpenClaim := { program := "ytllooifbiapeoaa", sum := "4f19ef79fb467e3078c1809f3704e4e90ab017d6dc335cc7ad91f21e9b23ad2c", func := "riddle/riddlelaw5.VmStraight", spec := "vmStraight", unfollowed := true, recurses := true, apart := false, narrowed := true }
def VmStraightUptoSaid : Prop := vmStraightUptoRow.holds Try.pinned (OpenSpec.upto vmStraightSpec)

/-- 'riddlelaw5.VmLoads', WHERE WHAT IT READS IS OF BULK AT MOST 1048576: true; the input reads as it did. -/
def vmLoadsUptoRow : OpenClaim := { program := "ytllooifbiapeoaa", sum := "4f19ef79fb467e3078c1809f3704e4e90ab017d6dc335cc7ad91f21e9b23ad2c", func := "riddle/riddlelaw5.VmLoads", spec := "vmLoads", unfollowed := true, recurses := true, apart := false, narrowed := true }
def VmLoadsUptoSaid : Prop := vmLoadsUptoRow.holds Try.pinned (OpenSpec.upto vmLoadsSpec)

/-- 'riddlelaw5.VmJumps', WHERE WHAT IT READS IS OF BULK AT MOST 1048576: true; the input reads as it did. -/
def vmJumpsUptoRow : OpenClaim := { program := "ytllooifbiapeoaa", sum := "4f19ef79fb467e3078c1809f3704e4e90ab017d6dc335cc7ad91f21e9b23ad2c", func := "riddle/riddlelaw5.VmJumps", spec := "vmJumps", unfollowed := true, recurses := true, apart := false, narrowed := true }
def VmJumpsUptoSaid : Prop := vmJumpsUptoRow.holds Try.pinned (OpenSpec.upto vmJumpsSpec)

/-- 'riddlelaw5.VmBehind', WHERE WHAT IT READS IS OF BULK AT MOST 1048576: true; the input reads as it did. -/
def vmBehindUptoRow : OpenClaim := { program := "ytllooifbiapeoaa", sum := "4f19ef79fb467e3078c1809f3704e4e90ab017d6dc335cc7ad91f21e9b23ad2c", func := "riddle/riddlelaw5.VmBehind", spec := "vmBehind", unfollowed := true, recurses := true, apart := false, narrowed := true }
def VmBehindUptoSaid : Prop := vmBehindUptoRow.holds Try.pinned (OpenSpec.upto vmBehindSpec)

/-- 'riddlelaw5.VmStops', WHERE WHAT IT READS IS OF BULK AT MOST 1048576: true; the input reads as it did. -/
def vmStopsUptoRow : OpenClaim := { program := "ytllooifbiapeoaa", sum := "4f19ef79fb467e3078c1809f3704e4e90ab017d6dc335cc7ad91f21e9b23ad2c", func := "riddle/riddlelaw5.VmStops", spec := "vmStops", unfollowed := true, recurses := true, apart := false, narrowed := true }
def VmStopsUptoSaid : Prop := vmStopsUptoRow.holds Try.pinned (OpenSpec.upto vmStopsSpec)

/-- 'riddlelaw5.VmEnds', WHERE WHAT IT READS IS OF BULK AT MOST 1048576: true; the input reads as it did. -/
def vmEndsUptoRow : OpenClaim := { program := "ytllooifbiapeoaa", sum := "4f19ef79fb467e3078c1809f3704e4e90ab017d6dc335cc7ad91f21e9b23ad2c", func := "riddle/riddlelaw5.VmEnds", spec := "vmEnds", unfollowed := true, recurses := true, apart := false, narrowed := true }
def VmEndsUptoSaid : Prop := vmEndsUptoRow.holds Try.pinned (OpenSpec.upto vmEndsSpec)

end Rows
end Go.Proofs.Ytllooifbiapeoaa
