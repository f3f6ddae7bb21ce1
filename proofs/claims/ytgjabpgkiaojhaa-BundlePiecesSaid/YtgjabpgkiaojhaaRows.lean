/-
  No cell of these rows narrows 'for every input' (looked for: loops, veiled, ifaces, maps, wideKeys, modest, calm, conditions, laid).
  DERIVED. THE GIVEN ROWS OF THIS SEAT. 7 by the template 'for every input the law returns true; each argument reads behind the call as it read before'; 0 by the template 'total and deterministic' (their statements: YtgjabpgkiaojhaaTotals.lean).
  GIVEN WITH THE SEED: the statements are not yours to turn. If you find one false, say at which input.
  Laid BY PROGRAM, IN A SANDBOX (cutbox-rows.mjs): the forced cells as the released guide's own fill.sh prints them over the translation 44d79050c74f6941… (all of the seat's roots in one cut). By AI agents, Wed Nov 11 2026. No macro, syntax, notation, axiom, sorry.
-/
import Derived.Test.YtgjabpgkiaojhaaChecked
import GoSem.Claim
import GoSem.ClaimJoined
import GoSem.ClaimMapViews
import Derived.JoinedTies
import Derived.KernelRfl
namespace Go.Proofs.Ytgjabpgkiaojhaa
/- THE CELL 'sum', in the pinned program and in every row, IS THE sha256 OF THE DUMP (.gsa) THAT YtgjabpgkiaojhaaProg.lean LOADS. Nothing in Lean hashes anything: it is a label: what it is worth is what the hold of that sum in a sandbox is worth. -/
noncomputable def Try.pinned : Pinned := { name := "ytgjabpgkiaojhaa", sum := "44d79050c74f6941c14135fbfd6a27686fb3e41f5f57519f3b8b65decdb3a3d9", checked := Try.checked }
namespace Rows
def none {H : Type} : Left H := { results := [], args := [] }

/-- 'riddlelaw9.BundleSplits': WHATEVER THE INPUT: true; the input reads as it did. -/
def bundleSplitsSpec : ChangeSpec := { name := "bundleSplits", fn := fun _ => fun
  | [d1, d2, d3, d4] => { results := [.lit (.bool true)], args := [d1, d2, d3, d4] }
  | _ => none }
def bundleSplitsRow : OpenClaim := { program := "ytgjabpgkiaojhaa", sum := "44d79050c74f6941c14135fbfd6a27686fb3e41f5f57519f3b8b65decdb3a3d9", func := "riddle/riddlelaw9.BundleSplits", spec := "bundleSplits", apart := false }
def BundleSplitsSaid : Prop := bundleSplitsRow.holds Try.pinned (OpenSpec.ofChange bundleSplitsSpec)

/-- ITS FALSE NEIGHBOUR: 'it returns false'. Refute it at one input. -/
def bundleSplitsWrong : ChangeSpec := { name := "bundleSplits", fn := fun _ => fun
  | [d1, d2, d3, d4] => { results := [.lit (.bool false)], args := [d1, d2, d3, d4] }
  | _ => none }
def BundleSplitsWrongFalsely : Prop := bundleSplitsRow.holds Try.pinned (OpenSpec.ofChange bundleSplitsWrong)

/-- 'riddlelaw9.BundleFeeds': WHATEVER THE INPUT: true; the input reads as it did. -/
def bundleFeedsSpec : ChangeSpec := { name := "bundleFeeds", fn := fun _ => fun
  | [d1, d2, d3] => { results := [.lit (.bool true)], args := [d1, d2, d3] }
  | _ => none }
def bundleFeedsRow : OpenClaim := { program := "ytgjabpgkiaojhaa", sum := "44d79050c74f6941c14135fbfd6a27686fb3e41f5f57519f3b8b65decdb3a3d9", func := "riddle/riddlelaw9.BundleFeeds", spec := "bundleFeeds", apart := false }
def BundleFeedsSaid : Prop := bundleFeedsRow.holds Try.pinned (OpenSpec.ofChange bundleFeedsSpec)

/-- ITS FALSE NEIGHBOUR: 'it returns false'. Refute it at one input. -/
def bundleFeedsWrong : ChangeSpec := { name := "bundleFeeds", fn := fun _ => fun
  | [d1, d2, d3] => { results := [.lit (.bool false)], args := [d1, d2, d3] }
  | _ => none }
def BundleFeedsWrongFalsely : Prop := bundleFeedsRow.holds Try.pinned (OpenSpec.ofChange bundleFeedsWrong)

/-- 'riddlelaw9.BundleWhole': WHATEVER THE INPUT: true; the input reads as it did. -/
def bundleWholeSpec : ChangeSpec := { name := "bundleWhole", fn := fun _ => fun
  | [d1, d2, d3, d4, d5] => { results := [.lit (.bool true)], args := [d1, d2, d3, d4, d5] }
  | _ => none }
def bundleWholeRow : OpenClaim := { program := "ytgjabpgkiaojhaa", sum := "44d79050c74f6941c14135fbfd6a27686fb3e41f5f57519f3b8b65decdb3a3d9", func := "riddle/riddlelaw9.BundleWhole", spec := "bundleWhole", apart := false }
def BundleWholeSaid : Prop := bundleWholeRow.holds Try.pinned (OpenSpec.ofChange bundleWholeSpec)

/-- ITS FALSE NEIGHBOUR: 'it returns false'. Refute it at one input. -/
def bundleWholeWrong : ChangeSpec := { name := "bundleWhole", fn := fun _ => fun
  | [d1, d2, d3, d4, d5] => { results := [.lit (.bool false)], args := [d1, d2, d3, d4, d5] }
  | _ => none }
def BundleWholeWrongFalsely : Prop := bundleWholeRow.holds Try.pinned (OpenSpec.ofChange bundleWholeWrong)

/-- 'riddlelaw9.BundleLost': WHATEVER THE INPUT: true; the input reads as it did. -/
def bundleLostSpec : ChangeSpec := { name := "bundleLost", fn := fun _ => fun
  | [d1, d2, d3, d4] => { results := [.lit (.bool true)], args := [d1, d2, d3, d4] }
  | _ => none }
def bundleLostRow : OpenClaim := { program := "ytgjabpgkiaojhaa", sum := "44d79050c74f6941c14135fbfd6a27686fb3e41f5f57519f3b8b65decdb3a3d9", func := "riddle/riddlelaw9.BundleLost", spec := "bundleLost", apart := false }
def BundleLostSaid : Prop := bundleLostRow.holds Try.pinned (OpenSpec.ofChange bundleLostSpec)

/-- ITS FALSE NEIGHBOUR: 'it returns false'. Refute it at one input. -/
def bundleLostWrong : ChangeSpec := { name := "bundleLost", fn := fun _ => fun
  | [d1, d2, d3, d4] => { results := [.lit (.bool false)], args := [d1, d2, d3, d4] }
  | _ => none }
def BundleLostWrongFalsely : Prop := bundleLostRow.holds Try.pinned (OpenSpec.ofChange bundleLostWrong)

/-- 'riddlelaw9.BundleRefuses': WHATEVER THE INPUT: true; the input reads as it did. -/
def bundleRefusesSpec : ChangeSpec := { name := "bundleRefuses", fn := fun _ => fun
  | [d1, d2] => { results := [.lit (.bool true)], args := [d1, d2] }
  | _ => none }
def bundleRefusesRow : OpenClaim := { program := "ytgjabpgkiaojhaa", sum := "44d79050c74f6941c14135fbfd6a27686fb3e41f5f57519f3b8b65decdb3a3d9", func := "riddle/riddlelaw9.BundleRefuses", spec := "bundleRefuses", apart := false }
def BundleRefusesSaid : Prop := bundleRefusesRow.holds Try.pinned (OpenSpec.ofChange bundleRefusesSpec)

/-- ITS FALSE NEIGHBOUR: 'it returns false'. Refute it at one input. -/
def bundleRefusesWrong : ChangeSpec := { name := "bundleRefuses", fn := fun _ => fun
  | [d1, d2] => { results := [.lit (.bool false)], args := [d1, d2] }
  | _ => none }
def BundleRefusesWrongFalsely : Prop := bundleRefusesRow.holds Try.pinned (OpenSpec.ofChange bundleRefusesWrong)

/-- 'riddlelaw9.BundleRow': WHATEVER THE INPUT: true; the input reads as it did. -/
def bundleRowSpec : ChangeSpec := { name := "bundleRow", fn := fun _ => fun
  | [d1, d2, d3, d4] => { results := [.lit (.bool true)], args := [d1, d2, d3, d4] }
  | _ => none }
def bundleRowRow : OpenClaim := { program := "ytgjabpgkiaojhaa", sum := "44d79050c74f6941c14135fbfd6a27686fb3e41f5f57519f3b8b65decdb3a3d9", func := "riddle/riddlelaw9.BundleRow", spec := "bundleRow", apart := false }
def BundleRowSaid : Prop := bundleRowRow.holds Try.pinned (OpenSpec.ofChange bundleRowSpec)

/-- ITS FALSE NEIGHBOUR: 'it returns false'. Refute it at one input. -/
def bundleRowWrong : ChangeSpec := { name := "bundleRow", fn := fun _ => fun
  | [d1, d2, d3, d4] => { results := [.lit (.bool false)], args := [d1, d2, d3, d4] }
  | _ => none }
def BundleRowWrongFalsely : Prop := bundleRowRow.holds Try.pinned (OpenSpec.ofChange bundleRowWrong)

/-- 'riddlelaw9.BundlePieces': WHATEVER THE INPUT: true; the input reads as it did. -/
def bundlePiecesSpec : ChangeSpec := { name := "bundlePieces", fn := fun _ => fun
  | [d1, d2, d3] => { results := [.lit (.bool true)], args := [d1, d2, d3] }
  | _ => none }
def bundlePiecesRow : OpenClaim := { program := "ytgjabpgkiaojhaa", sum := "44d79050c74f6941c14135fbfd6a27686fb3e41f5f57519f3b8b65decdb3a3d9", func := "riddle/riddlelaw9.BundlePieces", spec := "bundlePieces", unfollowed := true, recurses := true, apart := false }
def BundlePiecesSaid : Prop := bundlePiecesRow.holds Try.pinned (OpenSpec.ofChange bundlePiecesSpec)

/-- ITS FALSE NEIGHBOUR: 'it returns false'. Refute it at one input. -/
def bundlePiecesWrong : ChangeSpec := { name := "bundlePieces", fn := fun _ => fun
  | [d1, d2, d3] => { results := [.lit (.bool false)], args := [d1, d2, d3] }
  | _ => none }
def BundlePiecesWrongFalsely : Prop := bundlePiecesRow.holds Try.pinned (OpenSpec.ofChange bundlePiecesWrong)

/- THE SECOND FORM. 'bulk': how many values and letters a reading holds, each counted each time it is reached (what is shared counts as often as it is met; a slice's spare places count too). A statement '..UptoSaid' is the law's where the arguments, and the package variables that the reading takes, are together of bulk at most 1048576: NARROWER than '..Said'. Prove '..Said' where nothing that the law and all that it calls make is longer than what came in: it says more and counts as full. Else prove '..UptoSaid'. A law counts once. -/
mutual
def uptoBulk {H : Type} : DataW H → Nat
  | .lit (.string bytes) => bytes.length + 1
  | .lit _ => 1
  | .nil => 1
  | .ptr d => uptoBulk d + 1
  | .slice elems spare => uptoBulkAll elems + uptoBulkAll spare + 1
  | .agg parts => uptoBulkAll parts + 1
  | .iface _ d => uptoBulk d + 1
  | .map entries => uptoBulkEntries entries + 1
  | .held _ => 1
def uptoBulkAll {H : Type} : List (DataW H) → Nat
  | [] => 0
  | d :: r => uptoBulk d + uptoBulkAll r
def uptoBulkEntries {H : Type} : List (Lit × DataW H) → Nat
  | [] => 0
  | x :: r => uptoBulkEntry x + uptoBulkEntries r
def uptoBulkEntry {H : Type} : Lit × DataW H → Nat
  | (.string bytes, d) => bytes.length + uptoBulk d + 1
  | (_, d) => uptoBulk d + 1
 end
def uptoSmall : (H : Type) → List (DataW H) → Bool := fun _ ds => decide (uptoBulkAll ds ≤ 1048576)
def OpenSpec.upto (s : _root_.Go.ChangeSpec) : _root_.Go.OpenSpec := { _root_.Go.OpenSpec.ofChange s with cond := some uptoSmall }

/-- 'riddlelaw9.BundleSplits', WHERE WHAT IT READS IS OF BULK AT MOST 1048576: true; the input reads as it did. -/
def bundleSplitsUptoRow : OpenClaim := { program := "ytgjabpgkiaojhaa", sum := "44d79050c74f6941c14135fbfd6a27686fb3e41f5f57519f3b8b65decdb3a3d9", func := "riddle/riddlelaw9.BundleSplits", spec := "bundleSplits", apart := false, narrowed := true }
def BundleSplitsUptoSaid : Prop := bundleSplitsUptoRow.holds Try.pinned (OpenSpec.upto bundleSplitsSpec)

/-- 'riddlelaw9.BundleFeeds', WHERE WHAT IT READS IS OF BULK AT MOST 1048576: true; the input reads as it did. -/
def bundleFeedsUptoRow : OpenClaim := { program := "ytgjabpgkiaojhaa", sum := "44d79050c74f6941c14135fbfd6a27686fb3e41f5f57519f3b8b65decdb3a3d9", func := "riddle/riddlelaw9.BundleFeeds", spec := "bundleFeeds", apart := false, narrowed := true }
def BundleFeedsUptoSaid : Prop := bundleFeedsUptoRow.holds Try.pinned (OpenSpec.upto bundleFeedsSpec)

/-- 'riddlelaw9.BundleWhole', WHERE WHAT IT READS IS OF BULK AT MOST 1048576: true; the input reads as it did. -/
def bundleWholeUptoRow : OpenClaim := { program := "ytgjabpgkiaojhaa", sum := "44d79050c74f6941c14135fbfd6a27686fb3e41f5f57519f3b8b65decdb3a3d9", func := "riddle/riddlelaw9.BundleWhole", spec := "bundleWhole", apart := false, narrowed := true }
def BundleWholeUptoSaid : Prop := bundleWholeUptoRow.holds Try.pinned (OpenSpec.upto bundleWholeSpec)

/-- 'riddlelaw9.BundleLost', WHERE WHAT IT READS IS OF BULK AT MOST 1048576: true; the input reads as it did. -/
def bundleLostUptoRow : OpenClaim := { program := "ytgjabpgkiaojhaa", sum := "44d79050c74f6941c14135fbfd6a27686fb3e41f5f57519f3b8b65decdb3a3d9", func := "riddle/riddlelaw9.BundleLost", spec := "bundleLost", apart := false, narrowed := true }
def BundleLostUptoSaid : Prop := bundleLostUptoRow.holds Try.pinned (OpenSpec.upto bundleLostSpec)

/-- 'riddlelaw9.BundleRefuses', WHERE WHAT IT READS IS OF BULK AT MOST 1048576: true; the input reads as it did. -/
def bundleRefusesUptoRow : OpenClaim := { program := "ytgjabpgkiaojhaa", sum := "44d79050c74f6941c14135fbfd6a27686fb3e41f5f57519f3b8b65decdb3a3d9", func := "riddle/riddlelaw9.BundleRefuses", spec := "bundleRefuses", apart := false, narrowed := true }
def BundleRefusesUptoSaid : Prop := bundleRefusesUptoRow.holds Try.pinned (OpenSpec.upto bundleRefusesSpec)

/-- 'riddlelaw9.BundleRow', WHERE WHAT IT READS IS OF BULK AT MOST 1048576: true; the input reads as it did. -/
def bundleRowUptoRow : OpenClaim := { program := "ytgjabpgkiaojhaa", sum := "44d79050c74f6941c14135fbfd6a27686fb3e41f5f57519f3b8b65decdb3a3d9", func := "riddle/riddlelaw9.BundleRow", spec := "bundleRow", apart := false, narrowed := true }
def BundleRowUptoSaid : Prop := bundleRowUptoRow.holds Try.pinned (OpenSpec.upto bundleRowSpec)

/-- 'riddlelaw9.BundlePieces', WHERE WHAT IT READS IS OF BULK AT MOST 1048576: true; the input reads as it did. -/
def bundlePiecesUptoRow : OpenClaim := { program := "ytgjabpgkiaojhaa", sum := "44d79050c74f6941c14135fbfd6a27686fb3e41f5f57519f3b8b65decdb3a3d9", func := "riddle/riddlelaw9.BundlePieces", spec := "bundlePieces", unfollowed := true, recurses := true, apart := false, narrowed := true }
def BundlePiecesUptoSaid : Prop := bundlePiecesUptoRow.holds Try.pinned (OpenSpec.upto bundlePiecesSpec)

end Rows
end Go.Proofs.Ytgjabpgkiaojhaa
