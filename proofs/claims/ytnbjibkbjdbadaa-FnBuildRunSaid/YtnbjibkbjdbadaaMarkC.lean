/-
  The contracts of heldCalls, markBuilding and heldBuilding. No claim stands here.
-/
import Derived.Test.YtnbjibkbjdbadaaMarkB
namespace Go.Proofs.Ytnbjibkbjdbadaa
open Go.RowKit
set_option linter.unusedVariables false
set_option linter.unusedSimpArgs false

theorem In.lt {lo hi : Nat} {A : Option Addr} (h : In lo hi A) : ∀ x, A = some x → lo ≤ x.block ∧ x.block < hi := h

end Go.Proofs.Ytnbjibkbjdbadaa
