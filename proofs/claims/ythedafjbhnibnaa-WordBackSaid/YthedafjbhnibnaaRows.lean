/-
  No cell of these rows narrows 'for every input' (looked for: loops, veiled, ifaces, maps, wideKeys, modest, calm, conditions, laid).
  DERIVED. THE GIVEN ROWS OF THIS SEAT. 6 by the template 'for every input the law returns true; each argument reads behind the call as it read before'; 0 by the template 'total and deterministic' (their statements: YthedafjbhnibnaaTotals.lean).
  GIVEN WITH THE SEED: the statements are not yours to turn. If you find one false, say at which input.
  Laid BY PROGRAM, IN A SANDBOX (cutbox-rows.mjs): the forced cells as the released guide's own fill.sh prints them over the translation 8599b79733071a75… (all of the seat's roots in one cut). By AI agents, Wed Nov 11 2026. No macro, syntax, notation, axiom, sorry.
-/
import Derived.Test.YthedafjbhnibnaaChecked
import GoSem.Claim
import GoSem.ClaimJoined
import GoSem.ClaimMapViews
import Derived.JoinedTies
import Derived.KernelRfl
namespace Go.Proofs.Ythedafjbhnibnaa
/- THE CELL 'sum', in the pinned program and in every row, IS THE sha256 OF THE DUMP (.gsa) THAT YthedafjbhnibnaaProg.lean LOADS. Nothing in Lean hashes anything: it is a label: what it is worth is what the hold of that sum in a sandbox is worth. -/
noncomputable def Try.pinned : Pinned := { name := "ythedafjbhnibnaa", sum := "8599b79733071a75a4fd1bfd0c612d938a0bc60979bc860eabb5e4c12a144318", checked := Try.checked }
namespace Rows
def none {H : Type} : Left H := { results := [], args := [] }

/-- 'riddlelaw1.WordGets': WHATEVER THE INPUT: true; the input reads as it did. -/
def wordGetsSpec : ChangeSpec := { name := "wordGets", fn := fun _ => fun
  | [d1, d2, d3] => { results := [.lit (.bool true)], args := [d1, d2, d3] }
  | _ => none }
def wordGetsRow : OpenClaim := { program := "ythedafjbhnibnaa", sum := "8599b79733071a75a4fd1bfd0c612d938a0bc60979bc860eabb5e4c12a144318", func := "riddle/riddlelaw1.WordGets", spec := "wordGets", apart := false }
def WordGetsSaid : Prop := wordGetsRow.holds Try.pinned (OpenSpec.ofChange wordGetsSpec)

/-- ITS FALSE NEIGHBOUR: 'it returns false'. Refute it at one input. -/
def wordGetsWrong : ChangeSpec := { name := "wordGets", fn := fun _ => fun
  | [d1, d2, d3] => { results := [.lit (.bool false)], args := [d1, d2, d3] }
  | _ => none }
def WordGetsWrongFalsely : Prop := wordGetsRow.holds Try.pinned (OpenSpec.ofChange wordGetsWrong)

/-- 'riddlelaw1.WordPuts': WHATEVER THE INPUT: true; the input reads as it did. -/
def wordPutsSpec : ChangeSpec := { name := "wordPuts", fn := fun _ => fun
  | [d1, d2, d3, d4] => { results := [.lit (.bool true)], args := [d1, d2, d3, d4] }
  | _ => none }
def wordPutsRow : OpenClaim := { program := "ythedafjbhnibnaa", sum := "8599b79733071a75a4fd1bfd0c612d938a0bc60979bc860eabb5e4c12a144318", func := "riddle/riddlelaw1.WordPuts", spec := "wordPuts", apart := false }
def WordPutsSaid : Prop := wordPutsRow.holds Try.pinned (OpenSpec.ofChange wordPutsSpec)

/-- ITS FALSE NEIGHBOUR: 'it returns false'. Refute it at one input. -/
def wordPutsWrong : ChangeSpec := { name := "wordPuts", fn := fun _ => fun
  | [d1, d2, d3, d4] => { results := [.lit (.bool false)], args := [d1, d2, d3, d4] }
  | _ => none }
def WordPutsWrongFalsely : Prop := wordPutsRow.holds Try.pinned (OpenSpec.ofChange wordPutsWrong)

/-- 'riddlelaw1.WordBack': WHATEVER THE INPUT: true; the input reads as it did. -/
def wordBackSpec : ChangeSpec := { name := "wordBack", fn := fun _ => fun
  | [d1, d2, d3] => { results := [.lit (.bool true)], args := [d1, d2, d3] }
  | _ => none }
def wordBackRow : OpenClaim := { program := "ythedafjbhnibnaa", sum := "8599b79733071a75a4fd1bfd0c612d938a0bc60979bc860eabb5e4c12a144318", func := "riddle/riddlelaw1.WordBack", spec := "wordBack", apart := false }
def WordBackSaid : Prop := wordBackRow.holds Try.pinned (OpenSpec.ofChange wordBackSpec)

/-- ITS FALSE NEIGHBOUR: 'it returns false'. Refute it at one input. -/
def wordBackWrong : ChangeSpec := { name := "wordBack", fn := fun _ => fun
  | [d1, d2, d3] => { results := [.lit (.bool false)], args := [d1, d2, d3] }
  | _ => none }
def WordBackWrongFalsely : Prop := wordBackRow.holds Try.pinned (OpenSpec.ofChange wordBackWrong)

/-- 'riddlelaw1.WordJoins': WHATEVER THE INPUT: true; the input reads as it did. -/
def wordJoinsSpec : ChangeSpec := { name := "wordJoins", fn := fun _ => fun
  | [d1, d2, d3] => { results := [.lit (.bool true)], args := [d1, d2, d3] }
  | _ => none }
def wordJoinsRow : OpenClaim := { program := "ythedafjbhnibnaa", sum := "8599b79733071a75a4fd1bfd0c612d938a0bc60979bc860eabb5e4c12a144318", func := "riddle/riddlelaw1.WordJoins", spec := "wordJoins", apart := false }
def WordJoinsSaid : Prop := wordJoinsRow.holds Try.pinned (OpenSpec.ofChange wordJoinsSpec)

/-- ITS FALSE NEIGHBOUR: 'it returns false'. Refute it at one input. -/
def wordJoinsWrong : ChangeSpec := { name := "wordJoins", fn := fun _ => fun
  | [d1, d2, d3] => { results := [.lit (.bool false)], args := [d1, d2, d3] }
  | _ => none }
def WordJoinsWrongFalsely : Prop := wordJoinsRow.holds Try.pinned (OpenSpec.ofChange wordJoinsWrong)

/-- 'riddlelaw1.WordSums': WHATEVER THE INPUT: true; the input reads as it did. -/
def wordSumsSpec : ChangeSpec := { name := "wordSums", fn := fun _ => fun
  | [d1, d2] => { results := [.lit (.bool true)], args := [d1, d2] }
  | _ => none }
def wordSumsRow : OpenClaim := { program := "ythedafjbhnibnaa", sum := "8599b79733071a75a4fd1bfd0c612d938a0bc60979bc860eabb5e4c12a144318", func := "riddle/riddlelaw1.WordSums", spec := "wordSums", apart := false }
def WordSumsSaid : Prop := wordSumsRow.holds Try.pinned (OpenSpec.ofChange wordSumsSpec)

/-- ITS FALSE NEIGHBOUR: 'it returns false'. Refute it at one input. -/
def wordSumsWrong : ChangeSpec := { name := "wordSums", fn := fun _ => fun
  | [d1, d2] => { results := [.lit (.bool false)], args := [d1, d2] }
  | _ => none }
def WordSumsWrongFalsely : Prop := wordSumsRow.holds Try.pinned (OpenSpec.ofChange wordSumsWrong)

/-- 'riddlelaw1.WordHexes': WHATEVER THE INPUT: true; the input reads as it did. -/
def wordHexesSpec : ChangeSpec := { name := "wordHexes", fn := fun _ => fun
  | [d1, d2] => { results := [.lit (.bool true)], args := [d1, d2] }
  | _ => none }
def wordHexesRow : OpenClaim := { program := "ythedafjbhnibnaa", sum := "8599b79733071a75a4fd1bfd0c612d938a0bc60979bc860eabb5e4c12a144318", func := "riddle/riddlelaw1.WordHexes", spec := "wordHexes", apart := false }
def WordHexesSaid : Prop := wordHexesRow.holds Try.pinned (OpenSpec.ofChange wordHexesSpec)

/-- ITS FALSE NEIGHBOUR: 'it returns false'. Refute it at one input. -/
def wordHexesWrong : ChangeSpec := { name := "wordHexes", fn := fun _ => fun
  | [d1, d2] => { results := [.lit (.bool false)], args := [d1, d2] }
  | _ => none }
def WordHexesWrongFalsely : Prop := wordHexesRow.holds Try.pinned (OpenSpec.ofChange wordHexesWrong)

/- THE SECOND FORM. 'bulk': how many values and letters a reading holds, each counted each time it is reached (what is shared counts as often as it is met; a slice's spare places count too). A statement '..UptoSaid' is the law's where the arguments, and the package variables that the reading takes, are together of bulk at most 1048576: NARROWER than '..Said'. Prove '..Said' where nothing that the law and all that it calls make is longer than what came in: it says more and counts as full. Else prove '..UptoSaid'. A law counts once. -/
mutual
def uptoBulk {H : Type} : DataW H → Nat
  | .lit (.string bytes) => bytes.length + 1
  | .lit _ => 1
  | .nil => 1
  | .ptr d => uptoBulk d + 1
  | .slice elems spare => uptoBulkAll elems + uptoBulkAll spare + 1
  | .agg parts => uptoBulkAll parts + 1
  | .iface _ d => uptoBulk d + 1
  | .map entries => uptoBulkEntries entries + 1
  | .held _ => 1
def uptoBulkAll {H : Type} : List (DataW H) → Nat
  | [] => 0
  | d :: r => uptoBulk d + uptoBulkAll r
def uptoBulkEntries {H : Type} : List (Lit × DataW H) → Nat
  | [] => 0
  | x :: r => uptoBulkEntry x + uptoBulkEntries r
def uptoBulkEntry {H : Type} : Lit × DataW H → Nat
  | (.string bytes, d) => bytes.length + uptoBulk d + 1
  | (_, d) => uptoBulk d + 1
 end
def uptoSmall : (H : Type) → List (DataW H) → Bool := fun _ ds => decide (uptoBulkAll ds ≤ 1048576)
def OpenSpec.upto (s : _root_.Go.ChangeSpec) : _root_.Go.OpenSpec := { _root_.Go.OpenSpec.ofChange s with cond := some uptoSmall }

/-- 'riddlelaw1.WordGets', WHERE WHAT IT READS IS OF BULK AT MOST 1048576: true; the input reads as it did. -/
def wordGetsUptoRow : OpenClaim := { program := "ythedafjbhnibnaa", sum := "8599b79733071a75a4fd1bfd0c612d938a0bc60979bc860eabb5e4c12a144318", func := "riddle/riddlelaw1.WordGets", spec := "wordGets", apart := false, narrowed := true }
def WordGetsUptoSaid : Prop := wordGetsUptoRow.holds Try.pinned (OpenSpec.upto wordGetsSpec)

/-- 'riddlelaw1.WordPuts', WHERE WHAT IT READS IS OF BULK AT MOST 1048576: true; the input reads as it did. -/
def wordPutsUptoRow : OpenClaim := { program := "ythedafjbhnibnaa", sum := "8599b79733071a75a4fd1bfd0c612d938a0bc60979bc860eabb5e4c12a144318", func := "riddle/riddlelaw1.WordPuts", spec := "wordPuts", apart := false, narrowed := true }
def WordPutsUptoSaid : Prop := wordPutsUptoRow.holds Try.pinned (OpenSpec.upto wordPutsSpec)

/-- 'riddlelaw1.WordBack', WHERE WHAT IT READS IS OF BULK AT MOST 1048576: true; the input reads as it did. -/
def wordBackUptoRow : OpenClaim := { program := "ythedafjbhnibnaa", sum := "8599b79733071a75a4fd1bfd0c612d938a0bc60979bc860eabb5e4c12a144318", func := "riddle/riddlelaw1.WordBack", spec := "wordBack", apart := false, narrowed := true }
def WordBackUptoSaid : Prop := wordBackUptoRow.holds Try.pinned (OpenSpec.upto wordBackSpec)

/-- 'riddlelaw1.WordJoins', WHERE WHAT IT READS IS OF BULK AT MOST 1048576: true; the input reads as it did. -/
def wordJoinsUptoRow : OpenClaim := { program := "ythedafjbhnibnaa", sum := "8599b79733071a75a4fd1bfd0c612d938a0bc60979bc860eabb5e4c12a144318", func := "riddle/riddlelaw1.WordJoins", spec := "wordJoins", apart := false, narrowed := true }
def WordJoinsUptoSaid : Prop := wordJoinsUptoRow.holds Try.pinned (OpenSpec.upto wordJoinsSpec)

/-- 'riddlelaw1.WordSums', WHERE WHAT IT READS IS OF BULK AT MOST 1048576: true; the input reads as it did. -/
def wordSumsUptoRow : OpenClaim := { program := "ythedafjbhnibnaa", sum := "8599b79733071a75a4fd1bfd0c612d938a0bc60979bc860eabb5e4c12a144318", func := "riddle/riddlelaw1.WordSums", spec := "wordSums", apart := false, narrowed := true }
def WordSumsUptoSaid : Prop := wordSumsUptoRow.holds Try.pinned (OpenSpec.upto wordSumsSpec)

/-- 'riddlelaw1.WordHexes', WHERE WHAT IT READS IS OF BULK AT MOST 1048576: true; the input reads as it did. -/
def wordHexesUptoRow : OpenClaim := { program := "ythedafjbhnibnaa", sum := "8599b79733071a75a4fd1bfd0c612d938a0bc60979bc860eabb5e4c12a144318", func := "riddle/riddlelaw1.WordHexes", spec := "wordHexes", apart := false, narrowed := true }
def WordHexesUptoSaid : Prop := wordHexesUptoRow.holds Try.pinned (OpenSpec.upto wordHexesSpec)

end Rows
end Go.Proofs.Ythedafjbhnibnaa
