/- The document's answer: Bytes. -/
import Derived.Test.YtbbhjnhcdjjjeaaEnc
import Derived.Test.YtbbhjnhcdjjjeaaWRPut
namespace Go.Proofs.Ytbbhjnhcdjjjeaa
open Go.Rd Go.RowKit
set_option linter.unusedVariables false
set_option linter.unusedSimpArgs false

theorem rbytes_spec {w : World} {v s : Int} (hs : s = 1 ∨ s = 2 ∨ s = 4) :
    Run Try.prog 30 #[.int .u32 v, .int .i64 s] w fun u w' => NewBytes w w' u s.toNat (fieldB s v) := by
  obtain ⟨M, w1, hr, im, x1⟩ := made_put (v := v) (w := w) hs
  refine ref1_Bytes.ok ⟨_, w1, hr, M, _, _, rfl, (rput_spec im (by omega)).mono ?_⟩
  intro u w2 hput
  obtain ⟨B, bc, rfl, o2, b2, x2⟩ := put_made hs hput
  exact ⟨B, _, bc, true, rfl, B, bc, rfl, o2, fieldB_length .., fun k hk => by have := b2 k hk; have := x1.size; omega, x1.trans x2⟩
end Go.Proofs.Ytbbhjnhcdjjjeaa
