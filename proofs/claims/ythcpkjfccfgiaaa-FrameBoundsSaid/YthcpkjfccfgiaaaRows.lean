/-
  No cell of these rows narrows 'for every input' (looked for: loops, veiled, ifaces, maps, wideKeys, modest, calm, conditions, laid).
  DERIVED. THE GIVEN ROWS OF THIS SEAT. 7 by the template 'for every input the law returns true; each argument reads behind the call as it read before'; 0 by the template 'total and deterministic' (their statements: YthcpkjfccfgiaaaTotals.lean).
  GIVEN WITH THE SEED: the statements are not yours to turn. If you find one false, say at which input.
  Laid BY PROGRAM, IN A SANDBOX (cutbox-rows.mjs): the forced cells as the released guide's own fill.sh prints them over the translation d7ca3a8a08e836fb… (all of the seat's roots in one cut). By AI agents, Wed Nov 11 2026. No macro, syntax, notation, axiom, sorry.
-/
import Derived.Test.YthcpkjfccfgiaaaChecked
import GoSem.Claim
import GoSem.ClaimJoined
import GoSem.ClaimMapViews
import Derived.JoinedTies
import Derived.KernelRfl
namespace Go.Proofs.Ythcpkjfccfgiaaa
/- THE CELL 'sum', in the pinned program and in every row, IS THE sha256 OF THE DUMP (.gsa) THAT YthcpkjfccfgiaaaProg.lean LOADS. Nothing in Lean hashes anything: it is a label: what it is worth is what the hold of that sum in a sandbox is worth. -/
noncomputable def Try.pinned : Pinned := { name := "ythcpkjfccfgiaaa", sum := "d7ca3a8a08e836fb3f42634c272c0029988f72d1939e33d44d4c00bd64748bf1", checked := Try.checked }
namespace Rows
def none {H : Type} : Left H := { results := [], args := [] }

/-- 'riddlelaw7.FrameLooks': WHATEVER THE INPUT: true; the input reads as it did. -/
def frameLooksSpec : ChangeSpec := { name := "frameLooks", fn := fun _ => fun
  | [d1, d2] => { results := [.lit (.bool true)], args := [d1, d2] }
  | _ => none }
def frameLooksRow : OpenClaim := { program := "ythcpkjfccfgiaaa", sum := "d7ca3a8a08e836fb3f42634c272c0029988f72d1939e33d44d4c00bd64748bf1", func := "riddle/riddlelaw7.FrameLooks", spec := "frameLooks", unfollowed := true, recurses := true, apart := false }
def FrameLooksSaid : Prop := frameLooksRow.holds Try.pinned (OpenSpec.ofChange frameLooksSpec)

/-- ITS FALSE NEIGHBOUR: 'it returns false'. Refute it at one input. -/
def frameLooksWrong : ChangeSpec := { name := "frameLooks", fn := fun _ => fun
  | [d1, d2] => { results := [.lit (.bool false)], args := [d1, d2] }
  | _ => none }
def FrameLooksWrongFalsely : Prop := frameLooksRow.holds Try.pinned (OpenSpec.ofChange frameLooksWrong)

/-- 'riddlelaw7.FrameLinks': WHATEVER THE INPUT: true; the input reads as it did. -/
def frameLinksSpec : ChangeSpec := { name := "frameLinks", fn := fun _ => fun
  | [d] => { results := [.lit (.bool true)], args := [d] }
  | _ => none }
def frameLinksRow : OpenClaim := { program := "ythcpkjfccfgiaaa", sum := "d7ca3a8a08e836fb3f42634c272c0029988f72d1939e33d44d4c00bd64748bf1", func := "riddle/riddlelaw7.FrameLinks", spec := "frameLinks", unfollowed := true, recurses := true, apart := false }
def FrameLinksSaid : Prop := frameLinksRow.holds Try.pinned (OpenSpec.ofChange frameLinksSpec)

/-- ITS FALSE NEIGHBOUR: 'it returns false'. Refute it at one input. -/
def frameLinksWrong : ChangeSpec := { name := "frameLinks", fn := fun _ => fun
  | [d] => { results := [.lit (.bool false)], args := [d] }
  | _ => none }
def FrameLinksWrongFalsely : Prop := frameLinksRow.holds Try.pinned (OpenSpec.ofChange frameLinksWrong)

/-- 'riddlelaw7.FramePackets': WHATEVER THE INPUT: true; the input reads as it did. -/
def framePacketsSpec : ChangeSpec := { name := "framePackets", fn := fun _ => fun
  | [d1, d2] => { results := [.lit (.bool true)], args := [d1, d2] }
  | _ => none }
def framePacketsRow : OpenClaim := { program := "ythcpkjfccfgiaaa", sum := "d7ca3a8a08e836fb3f42634c272c0029988f72d1939e33d44d4c00bd64748bf1", func := "riddle/riddlelaw7.FramePackets", spec := "framePackets", unfollowed := true, recurses := true, apart := false }
def FramePacketsSaid : Prop := framePacketsRow.holds Try.pinned (OpenSpec.ofChange framePacketsSpec)

/-- ITS FALSE NEIGHBOUR: 'it returns false'. Refute it at one input. -/
def framePacketsWrong : ChangeSpec := { name := "framePackets", fn := fun _ => fun
  | [d1, d2] => { results := [.lit (.bool false)], args := [d1, d2] }
  | _ => none }
def FramePacketsWrongFalsely : Prop := framePacketsRow.holds Try.pinned (OpenSpec.ofChange framePacketsWrong)

/-- 'riddlelaw7.FrameBounds': WHATEVER THE INPUT: true; the input reads as it did. -/
def frameBoundsSpec : ChangeSpec := { name := "frameBounds", fn := fun _ => fun
  | [d1, d2] => { results := [.lit (.bool true)], args := [d1, d2] }
  | _ => none }
def frameBoundsRow : OpenClaim := { program := "ythcpkjfccfgiaaa", sum := "d7ca3a8a08e836fb3f42634c272c0029988f72d1939e33d44d4c00bd64748bf1", func := "riddle/riddlelaw7.FrameBounds", spec := "frameBounds", unfollowed := true, recurses := true, apart := false }
def FrameBoundsSaid : Prop := frameBoundsRow.holds Try.pinned (OpenSpec.ofChange frameBoundsSpec)

/-- ITS FALSE NEIGHBOUR: 'it returns false'. Refute it at one input. -/
def frameBoundsWrong : ChangeSpec := { name := "frameBounds", fn := fun _ => fun
  | [d1, d2] => { results := [.lit (.bool false)], args := [d1, d2] }
  | _ => none }
def FrameBoundsWrongFalsely : Prop := frameBoundsRow.holds Try.pinned (OpenSpec.ofChange frameBoundsWrong)

/-- 'riddlelaw7.FrameGrows': WHATEVER THE INPUT: true; the input reads as it did. -/
def frameGrowsSpec : ChangeSpec := { name := "frameGrows", fn := fun _ => fun
  | [d1, d2, d3] => { results := [.lit (.bool true)], args := [d1, d2, d3] }
  | _ => none }
def frameGrowsRow : OpenClaim := { program := "ythcpkjfccfgiaaa", sum := "d7ca3a8a08e836fb3f42634c272c0029988f72d1939e33d44d4c00bd64748bf1", func := "riddle/riddlelaw7.FrameGrows", spec := "frameGrows", unfollowed := true, recurses := true, apart := false }
def FrameGrowsSaid : Prop := frameGrowsRow.holds Try.pinned (OpenSpec.ofChange frameGrowsSpec)

/-- ITS FALSE NEIGHBOUR: 'it returns false'. Refute it at one input. -/
def frameGrowsWrong : ChangeSpec := { name := "frameGrows", fn := fun _ => fun
  | [d1, d2, d3] => { results := [.lit (.bool false)], args := [d1, d2, d3] }
  | _ => none }
def FrameGrowsWrongFalsely : Prop := frameGrowsRow.holds Try.pinned (OpenSpec.ofChange frameGrowsWrong)

/-- 'riddlelaw7.FramePlain': WHATEVER THE INPUT: true; the input reads as it did. -/
def framePlainSpec : ChangeSpec := { name := "framePlain", fn := fun _ => fun
  | [d] => { results := [.lit (.bool true)], args := [d] }
  | _ => none }
def framePlainRow : OpenClaim := { program := "ythcpkjfccfgiaaa", sum := "d7ca3a8a08e836fb3f42634c272c0029988f72d1939e33d44d4c00bd64748bf1", func := "riddle/riddlelaw7.FramePlain", spec := "framePlain", unfollowed := true, recurses := true, apart := false }
def FramePlainSaid : Prop := framePlainRow.holds Try.pinned (OpenSpec.ofChange framePlainSpec)

/-- ITS FALSE NEIGHBOUR: 'it returns false'. Refute it at one input. -/
def framePlainWrong : ChangeSpec := { name := "framePlain", fn := fun _ => fun
  | [d] => { results := [.lit (.bool false)], args := [d] }
  | _ => none }
def FramePlainWrongFalsely : Prop := framePlainRow.holds Try.pinned (OpenSpec.ofChange framePlainWrong)

/-- 'riddlelaw7.FrameShort': WHATEVER THE INPUT: true; the input reads as it did. -/
def frameShortSpec : ChangeSpec := { name := "frameShort", fn := fun _ => fun
  | [d1, d2] => { results := [.lit (.bool true)], args := [d1, d2] }
  | _ => none }
def frameShortRow : OpenClaim := { program := "ythcpkjfccfgiaaa", sum := "d7ca3a8a08e836fb3f42634c272c0029988f72d1939e33d44d4c00bd64748bf1", func := "riddle/riddlelaw7.FrameShort", spec := "frameShort", unfollowed := true, recurses := true, apart := false }
def FrameShortSaid : Prop := frameShortRow.holds Try.pinned (OpenSpec.ofChange frameShortSpec)

/-- ITS FALSE NEIGHBOUR: 'it returns false'. Refute it at one input. -/
def frameShortWrong : ChangeSpec := { name := "frameShort", fn := fun _ => fun
  | [d1, d2] => { results := [.lit (.bool false)], args := [d1, d2] }
  | _ => none }
def FrameShortWrongFalsely : Prop := frameShortRow.holds Try.pinned (OpenSpec.ofChange frameShortWrong)

/- THE SECOND FORM. 'bulk': how many values and letters a reading holds, each counted each time it is reached (what is shared counts as often as it is met; a slice's spare places count too). A statement '..UptoSaid' is the law's where the arguments, and the package variables that the reading takes, are together of bulk at most 1048576: NARROWER than '..Said'. Prove '..Said' where nothing that the law and all that it calls make is longer than what came in: it says more and counts as full. Else prove '..UptoSaid'. A law counts once. -/
mutual
def uptoBulk {H : Type} : DataW H → Nat
  | .lit (.string bytes) => bytes.length + 1
  | .lit _ => 1
  | .nil => 1
  | .ptr d => uptoBulk d + 1
  | .slice elems spare => uptoBulkAll elems + uptoBulkAll spare + 1
  | .agg parts => uptoBulkAll parts + 1
  | .iface _ d => uptoBulk d + 1
  | .map entries => uptoBulkEntries entries + 1
  | .held _ => 1
def uptoBulkAll {H : Type} : List (DataW H) → Nat
  | [] => 0
  | d :: r => uptoBulk d + uptoBulkAll r
def uptoBulkEntries {H : Type} : List (Lit × DataW H) → Nat
  | [] => 0
  | x :: r => uptoBulkEntry x + uptoBulkEntries r
def uptoBulkEntry {H : Type} : Lit × DataW H → Nat
  | (.string bytes, d) => bytes.length + uptoBulk d + 1
  | (_, d) => uptoBulk d + 1
 end
def uptoSmall : (H : Type) → List (DataW H) → Bool := fun _ ds => decide (uptoBulkAll ds ≤ 1048576)
def OpenSpec.upto (s : _root_.Go.ChangeSpec) : _root_.Go.OpenSpec := { _root_.Go.OpenSpec.ofChange s with cond := some uptoSmall }

/-- 'riddlelaw7.FrameLooks', WHERE WHAT IT READS IS OF BULK AT MOST 1048576: true; the input reads as it did. -/
def frameLooksUptoRow : OpenClaim := { program := "ythcpkjfccfgiaaa", sum := "d7ca3a8a08e836fb3f42634c272c0029988f72d1939e33d44d4c00bd64748bf1", func := "riddle/riddlelaw7.FrameLooks", spec := "frameLooks", unfollowed := true, recurses := true, apart := false, narrowed := true }
def FrameLooksUptoSaid : Prop := frameLooksUptoRow.holds Try.pinned (OpenSpec.upto frameLooksSpec)

/-- 'riddlelaw7.FrameLinks', WHERE WHAT IT READS IS OF BULK AT MOST 1048576: true; the input reads as it did. -/
def frameLinksUptoRow : OpenClaim := { program := "ythcpkjfccfgiaaa", sum := "d7ca3a8a08e836fb3f42634c272c0029988f72d1939e33d44d4c00bd64748bf1", func := "riddle/riddlelaw7.FrameLinks", spec := "frameLinks", unfollowed := true, recurses := true, apart := false, narrowed := true }
def FrameLinksUptoSaid : Prop := frameLinksUptoRow.holds Try.pinned (OpenSpec.upto frameLinksSpec)

/-- 'riddlelaw7.FramePackets', WHERE WHAT IT READS IS OF BULK AT MOST 1048576: true; the input reads as it did. -/
def framePacketsUptoRow : OpenClaim := { program := "ythcpkjfccfgiaaa", sum := "d7ca3a8a08e836fb3f42634c272c0029988f72d1939e33d44d4c00bd64748bf1", func := "riddle/riddlelaw7.FramePackets", spec := "framePackets", unfollowed := true, recurses := true, apart := false, narrowed := true }
def FramePacketsUptoSaid : Prop := framePacketsUptoRow.holds Try.pinned (OpenSpec.upto framePacketsSpec)

/-- 'riddlelaw7.FrameBounds', WHERE WHAT IT READS IS OF BULK AT MOST 1048576: true; the input reads as it did. -/
def frameBoundsUptoRow : OpenClaim := { program := "ythcpkjfccfgiaaa", sum := "d7ca3a8a08e836fb3f42634c272c0029988f72d1939e33d44d4c00bd64748bf1", func := "riddle/riddlelaw7.FrameBounds", spec := "frameBounds", unfollowed := true, recurses := true, apart := false, narrowed := true }
def FrameBoundsUptoSaid : Prop := frameBoundsUptoRow.holds Try.pinned (OpenSpec.upto frameBoundsSpec)

/-- 'riddlelaw7.FrameGrows', WHERE WHAT IT READS IS OF BULK AT MOST 1048576: true; the input reads as it did. -/
def frameGrowsUptoRow : OpenClaim := { program := "ythcpkjfccfgiaaa", sum := "d7ca3a8a08e836fb3f42634c272c0029988f72d1939e33d44d4c00bd64748bf1", func := "riddle/riddlelaw7.FrameGrows", spec := "frameGrows", unfollowed := true, recurses := true, apart := false, narrowed := true }
def FrameGrowsUptoSaid : Prop := frameGrowsUptoRow.holds Try.pinned (OpenSpec.upto frameGrowsSpec)

/-- 'riddlelaw7.FramePlain', WHERE WHAT IT READS IS OF BULK AT MOST 1048576: true; the input reads as it did. -/
def framePlainUptoRow : OpenClaim := { program := "ythcpkjfccfgiaaa", sum := "d7ca3a8a08e836fb3f42634c272c0029988f72d1939e33d44d4c00bd64748bf1", func := "riddle/riddlelaw7.FramePlain", spec := "framePlain", unfollowed := true, recurses := true, apart := false, narrowed := true }
def FramePlainUptoSaid : Prop := framePlainUptoRow.holds Try.pinned (OpenSpec.upto framePlainSpec)

/-- 'riddlelaw7.FrameShort', WHERE WHAT IT READS IS OF BULK AT MOST 1048576: true; the input reads as it did. -/
def frameShortUptoRow : OpenClaim := { program := "ythcpkjfccfgiaaa", sum := "d7ca3a8a08e836fb3f42634c272c0029988f72d1939e33d44d4c00bd64748bf1", func := "riddle/riddlelaw7.FrameShort", spec := "frameShort", unfollowed := true, recurses := true, apart := false, narrowed := true }
def FrameShortUptoSaid : Prop := frameShortUptoRow.holds Try.pinned (OpenSpec.upto frameShortSpec)

end Rows
end Go.Proofs.Ythcpkjfccfgiaaa
