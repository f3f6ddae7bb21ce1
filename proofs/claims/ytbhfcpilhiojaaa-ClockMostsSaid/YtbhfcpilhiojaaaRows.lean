/-
  No cell of these rows narrows 'for every input' (looked for: loops, veiled, ifaces, maps, wideKeys, modest, calm, conditions, laid).
  DERIVED. THE GIVEN ROWS OF THIS SEAT. 4 by the template 'for every input the law returns true; each argument reads behind the call as it read before'; 0 by the template 'total and deterministic' (their statements: YtbhfcpilhiojaaaTotals.lean).
  GIVEN WITH THE SEED: the statements are not yours to turn. If you find one false, say at which input.
  Laid BY PROGRAM, IN A SANDBOX (cutbox-rows.mjs): the forced cells as the released guide's own fill.sh prints them over the translation 3cff8e8896e2c620… (all of the seat's roots in one cut). By AI agents, Wed Nov 11 2026. No macro, syntax, notation, axiom, sorry.
-/
import Derived.Test.YtbhfcpilhiojaaaChecked
import GoSem.Claim
import GoSem.ClaimJoined
import GoSem.ClaimMapViews
import Derived.JoinedTies
import Derived.KernelRfl
namespace Go.Proofs.Ytbhfcpilhiojaaa
/- THE CELL 'sum', in the pinned program and in every row, IS THE sha256 OF THE DUMP (.gsa) THAT YtbhfcpilhiojaaaProg.lean LOADS. Nothing in Lean hashes anything: it is a label: what it is worth is what the hold of that sum in a sandbox is worth. -/
noncomputable def Try.pinned : Pinned := { name := "ytbhfcpilhiojaaa", sum := "3cff8e8896e2c6207a61448bc54b1a10dc9dad33cb7cbef41ae7b67d49ee69e1", checked := Try.checked }
namespace Rows
def none {H : Type} : Left H := { results := [], args := [] }

/-- 'riddlelaw22.ClockPlays': WHATEVER THE INPUT: true; the input reads as it did. -/
def clockPlaysSpec : ChangeSpec := { name := "clockPlays", fn := fun _ => fun
  | [d1, d2, d3] => { results := [.lit (.bool true)], args := [d1, d2, d3] }
  | _ => none }
def clockPlaysRow : OpenClaim := { program := "ytbhfcpilhiojaaa", sum := "3cff8e8896e2c6207a61448bc54b1a10dc9dad33cb7cbef41ae7b67d49ee69e1", func := "riddle/riddlelaw22.ClockPlays", spec := "clockPlays", apart := false }
def ClockPlaysSaid : Prop := clockPlaysRow.holds Try.pinned (OpenSpec.ofChange clockPlaysSpec)

/-- ITS FALSE NEIGHBOUR: 'it returns false'. Refute it at one input. -/
def clockPlaysWrong : ChangeSpec := { name := "clockPlays", fn := fun _ => fun
  | [d1, d2, d3] => { results := [.lit (.bool false)], args := [d1, d2, d3] }
  | _ => none }
def ClockPlaysWrongFalsely : Prop := clockPlaysRow.holds Try.pinned (OpenSpec.ofChange clockPlaysWrong)

/-- 'riddlelaw22.ClockIdles': WHATEVER THE INPUT: true; the input reads as it did. -/
def clockIdlesSpec : ChangeSpec := { name := "clockIdles", fn := fun _ => fun
  | [d1, d2] => { results := [.lit (.bool true)], args := [d1, d2] }
  | _ => none }
def clockIdlesRow : OpenClaim := { program := "ytbhfcpilhiojaaa", sum := "3cff8e8896e2c6207a61448bc54b1a10dc9dad33cb7cbef41ae7b67d49ee69e1", func := "riddle/riddlelaw22.ClockIdles", spec := "clockIdles", apart := false }
def ClockIdlesSaid : Prop := clockIdlesRow.holds Try.pinned (OpenSpec.ofChange clockIdlesSpec)

/-- ITS FALSE NEIGHBOUR: 'it returns false'. Refute it at one input. -/
def clockIdlesWrong : ChangeSpec := { name := "clockIdles", fn := fun _ => fun
  | [d1, d2] => { results := [.lit (.bool false)], args := [d1, d2] }
  | _ => none }
def ClockIdlesWrongFalsely : Prop := clockIdlesRow.holds Try.pinned (OpenSpec.ofChange clockIdlesWrong)

/-- 'riddlelaw22.ClockMosts': WHATEVER THE INPUT: true; the input reads as it did. -/
def clockMostsSpec : ChangeSpec := { name := "clockMosts", fn := fun _ => fun
  | [d1, d2] => { results := [.lit (.bool true)], args := [d1, d2] }
  | _ => none }
def clockMostsRow : OpenClaim := { program := "ytbhfcpilhiojaaa", sum := "3cff8e8896e2c6207a61448bc54b1a10dc9dad33cb7cbef41ae7b67d49ee69e1", func := "riddle/riddlelaw22.ClockMosts", spec := "clockMosts", apart := false }
def ClockMostsSaid : Prop := clockMostsRow.holds Try.pinned (OpenSpec.ofChange clockMostsSpec)

/-- ITS FALSE NEIGHBOUR: 'it returns false'. Refute it at one input. -/
def clockMostsWrong : ChangeSpec := { name := "clockMosts", fn := fun _ => fun
  | [d1, d2] => { results := [.lit (.bool false)], args := [d1, d2] }
  | _ => none }
def ClockMostsWrongFalsely : Prop := clockMostsRow.holds Try.pinned (OpenSpec.ofChange clockMostsWrong)

/-- 'riddlelaw22.ClockStands': WHATEVER THE INPUT: true; the input reads as it did. -/
def clockStandsSpec : ChangeSpec := { name := "clockStands", fn := fun _ => fun
  | [d1, d2, d3] => { results := [.lit (.bool true)], args := [d1, d2, d3] }
  | _ => none }
def clockStandsRow : OpenClaim := { program := "ytbhfcpilhiojaaa", sum := "3cff8e8896e2c6207a61448bc54b1a10dc9dad33cb7cbef41ae7b67d49ee69e1", func := "riddle/riddlelaw22.ClockStands", spec := "clockStands", apart := false }
def ClockStandsSaid : Prop := clockStandsRow.holds Try.pinned (OpenSpec.ofChange clockStandsSpec)

/-- ITS FALSE NEIGHBOUR: 'it returns false'. Refute it at one input. -/
def clockStandsWrong : ChangeSpec := { name := "clockStands", fn := fun _ => fun
  | [d1, d2, d3] => { results := [.lit (.bool false)], args := [d1, d2, d3] }
  | _ => none }
def ClockStandsWrongFalsely : Prop := clockStandsRow.holds Try.pinned (OpenSpec.ofChange clockStandsWrong)

/- THE SECOND FORM. 'bulk': how many values and letters a reading holds, each counted each time it is reached (what is shared counts as often as it is met; a slice's spare places count too). A statement '..UptoSaid' is the law's where the arguments, and the package variables that the reading takes, are together of bulk at most 1048576: NARROWER than '..Said'. Prove '..Said' where nothing that the law and all that it calls make is longer than what came in: it says more and counts as full. Else prove '..UptoSaid'. A law counts once. -/
mutual
def uptoBulk {H : Type} : DataW H → Nat
  | .lit (.string bytes) => bytes.length + 1
  | .lit _ => 1
  | .nil => 1
  | .ptr d => uptoBulk d + 1
  | .slice elems spare => uptoBulkAll elems + uptoBulkAll spare + 1
  | .agg parts => uptoBulkAll parts + 1
  | .iface _ d => uptoBulk d + 1
  | .map entries => uptoBulkEntries entries + 1
  | .held _ => 1
def uptoBulkAll {H : Type} : List (DataW H) → Nat
  | [] => 0
  | d :: r => uptoBulk d + uptoBulkAll r
def uptoBulkEntries {H : Type} : List (Lit × DataW H) → Nat
  | [] => 0
  | x :: r => uptoBulkEntry x + uptoBulkEntries r
def uptoBulkEntry {H : Type} : Lit × DataW H → Nat
  | (.string bytes, d) => bytes.length + uptoBulk d + 1
  | (_, d) => uptoBulk d + 1
 end
def uptoSmall : (H : Type) → List (DataW H) → Bool := fun _ ds => decide (uptoBulkAll ds ≤ 1048576)
def OpenSpec.upto (s : _root_.Go.ChangeSpec) : _root_.Go.OpenSpec := { _root_.Go.OpenSpec.ofChange s with cond := some uptoSmall }

/-- 'riddlelaw22.ClockPlays', WHERE WHAT IT READS IS OF BULK AT MOST 1048576: true; the input reads as it did. -/
def clockPlaysUptoRow : OpenClaim := { program := "ytbhfcpilhiojaaa", sum := "3cff8e8896e2c6207a61448bc54b1a10dc9dad33cb7cbef41ae7b67d49ee69e1", func := "riddle/riddlelaw22.ClockPlays", spec := "clockPlays", apart := false, narrowed := true }
def ClockPlaysUptoSaid : Prop := clockPlaysUptoRow.holds Try.pinned (OpenSpec.upto clockPlaysSpec)

/-- 'riddlelaw22.ClockIdles', WHERE WHAT IT READS IS OF BULK AT MOST 1048576: true; the input reads as it did. -/
def clockIdlesUptoRow : OpenClaim := { program := "ytbhfcpilhiojaaa", sum := "3cff8e8896e2c6207a61448bc54b1a10dc9dad33cb7cbef41ae7b67d49ee69e1", func := "riddle/riddlelaw22.ClockIdles", spec := "clockIdles", apart := false, narrowed := true }
def ClockIdlesUptoSaid : Prop := clockIdlesUptoRow.holds Try.pinned (OpenSpec.upto clockIdlesSpec)

/-- 'riddlelaw22.ClockMosts', WHERE WHAT IT READS IS OF BULK AT MOST 1048576: true; the input reads as it did. -/
def clockMostsUptoRow : OpenClaim := { program := "ytbhfcpilhiojaaa", sum := "3cff8e8896e2c6207a61448bc54b1a10dc9dad33cb7cbef41ae7b67d49ee69e1", func := "riddle/riddlelaw22.ClockMosts", spec := "clockMosts", apart := false, narrowed := true }
def ClockMostsUptoSaid : Prop := clockMostsUptoRow.holds Try.pinned (OpenSpec.upto clockMostsSpec)

/-- 'riddlelaw22.ClockStands', WHERE WHAT IT READS IS OF BULK AT MOST 1048576: true; the input reads as it did. -/
def clockStandsUptoRow : OpenClaim := { program := "ytbhfcpilhiojaaa", sum := "3cff8e8896e2c6207a61448bc54b1a10dc9dad33cb7cbef41ae7b67d49ee69e1", func := "riddle/riddlelaw22.ClockStands", spec := "clockStands", apart := false, narrowed := true }
def ClockStandsUptoSaid : Prop := clockStandsUptoRow.holds Try.pinned (OpenSpec.upto clockStandsSpec)

end Rows
end Go.Proofs.Ytbhfcpilhiojaaa
