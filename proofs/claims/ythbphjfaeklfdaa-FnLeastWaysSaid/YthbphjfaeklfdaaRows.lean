/-
  No cell of these rows narrows 'for every input' (looked for: loops, veiled, ifaces, maps, wideKeys, modest, calm, conditions, laid).
  DERIVED. THE GIVEN ROWS OF THIS SEAT. 10 by the template 'for every input the law returns true; each argument reads behind the call as it read before'; 0 by the template 'total and deterministic' (their statements: YthbphjfaeklfdaaTotals.lean).
  GIVEN WITH THE SEED: the statements are not yours to turn. If you find one false, say at which input.
  Laid BY PROGRAM, IN A SANDBOX (cutbox-rows.mjs): the forced cells as the released guide's own fill.sh prints them over the translation 3e52af54b4aa292a… (all of the seat's roots in one cut). By AI agents, Wed Nov 11 2026. No macro, syntax, notation, axiom, sorry.
-/
import Derived.Test.YthbphjfaeklfdaaChecked
import GoSem.Claim
import GoSem.ClaimJoined
import GoSem.ClaimMapViews
import Derived.JoinedTies
import Derived.KernelRfl
namespace Go.Proofs.Ythbphjfaeklfdaa
/- THE CELL 'sum', in the pinned program and in every row, IS THE sha256 OF THE DUMP (.gsa) THAT YthbphjfaeklfdaaProg.lean LOADS. Nothing in Lean hashes anything: it is a label: what it is worth is what the hold of that sum in a sandbox is worth. -/
noncomputable def Try.pinned : Pinned := { name := "ythbphjfaeklfdaa", sum := "3e52af54b4aa292a1bcc1e89f92d235b2f80f03f621fc453850b988e1cd7abac", checked := Try.checked }
namespace Rows
def none {H : Type} : Left H := { results := [], args := [] }

/-- 'laws.FnExactTripsFor': WHATEVER THE INPUT: true; the input reads as it did. -/
def fnExactTripsForSpec : ChangeSpec := { name := "fnExactTripsFor", fn := fun _ => fun
  | [d1, d2] => { results := [.lit (.bool true)], args := [d1, d2] }
  | _ => none }
def fnExactTripsForRow : OpenClaim := { program := "ythbphjfaeklfdaa", sum := "3e52af54b4aa292a1bcc1e89f92d235b2f80f03f621fc453850b988e1cd7abac", func := "loop.example/elevators/laws.FnExactTripsFor", spec := "fnExactTripsFor", apart := false }
def FnExactTripsForSaid : Prop := fnExactTripsForRow.holds Try.pinned (OpenSpec.ofChange fnExactTripsForSpec)

/-- ITS FALSE NEIGHBOUR: 'it returns false'. Refute it at one input. -/
def fnExactTripsForWrong : ChangeSpec := { name := "fnExactTripsFor", fn := fun _ => fun
  | [d1, d2] => { results := [.lit (.bool false)], args := [d1, d2] }
  | _ => none }
def FnExactTripsForWrongFalsely : Prop := fnExactTripsForRow.holds Try.pinned (OpenSpec.ofChange fnExactTripsForWrong)

/-- 'laws.FnExactPeopleOk': WHATEVER THE INPUT: true; the input reads as it did. -/
def fnExactPeopleOkSpec : ChangeSpec := { name := "fnExactPeopleOk", fn := fun _ => fun
  | [d1, d2, d3] => { results := [.lit (.bool true)], args := [d1, d2, d3] }
  | _ => none }
def fnExactPeopleOkRow : OpenClaim := { program := "ythbphjfaeklfdaa", sum := "3e52af54b4aa292a1bcc1e89f92d235b2f80f03f621fc453850b988e1cd7abac", func := "loop.example/elevators/laws.FnExactPeopleOk", spec := "fnExactPeopleOk", apart := false }
def FnExactPeopleOkSaid : Prop := fnExactPeopleOkRow.holds Try.pinned (OpenSpec.ofChange fnExactPeopleOkSpec)

/-- ITS FALSE NEIGHBOUR: 'it returns false'. Refute it at one input. -/
def fnExactPeopleOkWrong : ChangeSpec := { name := "fnExactPeopleOk", fn := fun _ => fun
  | [d1, d2, d3] => { results := [.lit (.bool false)], args := [d1, d2, d3] }
  | _ => none }
def FnExactPeopleOkWrongFalsely : Prop := fnExactPeopleOkRow.holds Try.pinned (OpenSpec.ofChange fnExactPeopleOkWrong)

/-- 'laws.FnTripsFor': WHATEVER THE INPUT: true; the input reads as it did. -/
def fnTripsForSpec : ChangeSpec := { name := "fnTripsFor", fn := fun _ => fun
  | [d] => { results := [.lit (.bool true)], args := [d] }
  | _ => none }
def fnTripsForRow : OpenClaim := { program := "ythbphjfaeklfdaa", sum := "3e52af54b4aa292a1bcc1e89f92d235b2f80f03f621fc453850b988e1cd7abac", func := "loop.example/elevators/laws.FnTripsFor", spec := "fnTripsFor", apart := false }
def FnTripsForSaid : Prop := fnTripsForRow.holds Try.pinned (OpenSpec.ofChange fnTripsForSpec)

/-- ITS FALSE NEIGHBOUR: 'it returns false'. Refute it at one input. -/
def fnTripsForWrong : ChangeSpec := { name := "fnTripsFor", fn := fun _ => fun
  | [d] => { results := [.lit (.bool false)], args := [d] }
  | _ => none }
def FnTripsForWrongFalsely : Prop := fnTripsForRow.holds Try.pinned (OpenSpec.ofChange fnTripsForWrong)

/-- 'laws.FnExactLeastWays': WHATEVER THE INPUT: true; the input reads as it did. -/
def fnExactLeastWaysSpec : ChangeSpec := { name := "fnExactLeastWays", fn := fun _ => fun
  | [d1, d2, d3] => { results := [.lit (.bool true)], args := [d1, d2, d3] }
  | _ => none }
def fnExactLeastWaysRow : OpenClaim := { program := "ythbphjfaeklfdaa", sum := "3e52af54b4aa292a1bcc1e89f92d235b2f80f03f621fc453850b988e1cd7abac", func := "loop.example/elevators/laws.FnExactLeastWays", spec := "fnExactLeastWays", apart := false }
def FnExactLeastWaysSaid : Prop := fnExactLeastWaysRow.holds Try.pinned (OpenSpec.ofChange fnExactLeastWaysSpec)

/-- ITS FALSE NEIGHBOUR: 'it returns false'. Refute it at one input. -/
def fnExactLeastWaysWrong : ChangeSpec := { name := "fnExactLeastWays", fn := fun _ => fun
  | [d1, d2, d3] => { results := [.lit (.bool false)], args := [d1, d2, d3] }
  | _ => none }
def FnExactLeastWaysWrongFalsely : Prop := fnExactLeastWaysRow.holds Try.pinned (OpenSpec.ofChange fnExactLeastWaysWrong)

/-- 'laws.FnExactClearWays': WHATEVER THE INPUT: true; the input reads as it did. -/
def fnExactClearWaysSpec : ChangeSpec := { name := "fnExactClearWays", fn := fun _ => fun
  | [d1, d2, d3] => { results := [.lit (.bool true)], args := [d1, d2, d3] }
  | _ => none }
def fnExactClearWaysRow : OpenClaim := { program := "ythbphjfaeklfdaa", sum := "3e52af54b4aa292a1bcc1e89f92d235b2f80f03f621fc453850b988e1cd7abac", func := "loop.example/elevators/laws.FnExactClearWays", spec := "fnExactClearWays", apart := false }
def FnExactClearWaysSaid : Prop := fnExactClearWaysRow.holds Try.pinned (OpenSpec.ofChange fnExactClearWaysSpec)

/-- ITS FALSE NEIGHBOUR: 'it returns false'. Refute it at one input. -/
def fnExactClearWaysWrong : ChangeSpec := { name := "fnExactClearWays", fn := fun _ => fun
  | [d1, d2, d3] => { results := [.lit (.bool false)], args := [d1, d2, d3] }
  | _ => none }
def FnExactClearWaysWrongFalsely : Prop := fnExactClearWaysRow.holds Try.pinned (OpenSpec.ofChange fnExactClearWaysWrong)

/-- 'laws.FnExactSharedWays': WHATEVER THE INPUT: true; the input reads as it did. -/
def fnExactSharedWaysSpec : ChangeSpec := { name := "fnExactSharedWays", fn := fun _ => fun
  | [d1, d2, d3] => { results := [.lit (.bool true)], args := [d1, d2, d3] }
  | _ => none }
def fnExactSharedWaysRow : OpenClaim := { program := "ythbphjfaeklfdaa", sum := "3e52af54b4aa292a1bcc1e89f92d235b2f80f03f621fc453850b988e1cd7abac", func := "loop.example/elevators/laws.FnExactSharedWays", spec := "fnExactSharedWays", apart := false }
def FnExactSharedWaysSaid : Prop := fnExactSharedWaysRow.holds Try.pinned (OpenSpec.ofChange fnExactSharedWaysSpec)

/-- ITS FALSE NEIGHBOUR: 'it returns false'. Refute it at one input. -/
def fnExactSharedWaysWrong : ChangeSpec := { name := "fnExactSharedWays", fn := fun _ => fun
  | [d1, d2, d3] => { results := [.lit (.bool false)], args := [d1, d2, d3] }
  | _ => none }
def FnExactSharedWaysWrongFalsely : Prop := fnExactSharedWaysRow.holds Try.pinned (OpenSpec.ofChange fnExactSharedWaysWrong)

/-- 'laws.FnPeopleOk': WHATEVER THE INPUT: true; the input reads as it did. -/
def fnPeopleOkSpec : ChangeSpec := { name := "fnPeopleOk", fn := fun _ => fun
  | [d] => { results := [.lit (.bool true)], args := [d] }
  | _ => none }
def fnPeopleOkRow : OpenClaim := { program := "ythbphjfaeklfdaa", sum := "3e52af54b4aa292a1bcc1e89f92d235b2f80f03f621fc453850b988e1cd7abac", func := "loop.example/elevators/laws.FnPeopleOk", spec := "fnPeopleOk", apart := false }
def FnPeopleOkSaid : Prop := fnPeopleOkRow.holds Try.pinned (OpenSpec.ofChange fnPeopleOkSpec)

/-- ITS FALSE NEIGHBOUR: 'it returns false'. Refute it at one input. -/
def fnPeopleOkWrong : ChangeSpec := { name := "fnPeopleOk", fn := fun _ => fun
  | [d] => { results := [.lit (.bool false)], args := [d] }
  | _ => none }
def FnPeopleOkWrongFalsely : Prop := fnPeopleOkRow.holds Try.pinned (OpenSpec.ofChange fnPeopleOkWrong)

/-- 'laws.FnLeastWays': WHATEVER THE INPUT: true; the input reads as it did. -/
def fnLeastWaysSpec : ChangeSpec := { name := "fnLeastWays", fn := fun _ => fun
  | [d] => { results := [.lit (.bool true)], args := [d] }
  | _ => none }
def fnLeastWaysRow : OpenClaim := { program := "ythbphjfaeklfdaa", sum := "3e52af54b4aa292a1bcc1e89f92d235b2f80f03f621fc453850b988e1cd7abac", func := "loop.example/elevators/laws.FnLeastWays", spec := "fnLeastWays", apart := false }
def FnLeastWaysSaid : Prop := fnLeastWaysRow.holds Try.pinned (OpenSpec.ofChange fnLeastWaysSpec)

/-- ITS FALSE NEIGHBOUR: 'it returns false'. Refute it at one input. -/
def fnLeastWaysWrong : ChangeSpec := { name := "fnLeastWays", fn := fun _ => fun
  | [d] => { results := [.lit (.bool false)], args := [d] }
  | _ => none }
def FnLeastWaysWrongFalsely : Prop := fnLeastWaysRow.holds Try.pinned (OpenSpec.ofChange fnLeastWaysWrong)

/-- 'laws.FnClearWays': WHATEVER THE INPUT: true; the input reads as it did. -/
def fnClearWaysSpec : ChangeSpec := { name := "fnClearWays", fn := fun _ => fun
  | [d] => { results := [.lit (.bool true)], args := [d] }
  | _ => none }
def fnClearWaysRow : OpenClaim := { program := "ythbphjfaeklfdaa", sum := "3e52af54b4aa292a1bcc1e89f92d235b2f80f03f621fc453850b988e1cd7abac", func := "loop.example/elevators/laws.FnClearWays", spec := "fnClearWays", apart := false }
def FnClearWaysSaid : Prop := fnClearWaysRow.holds Try.pinned (OpenSpec.ofChange fnClearWaysSpec)

/-- ITS FALSE NEIGHBOUR: 'it returns false'. Refute it at one input. -/
def fnClearWaysWrong : ChangeSpec := { name := "fnClearWays", fn := fun _ => fun
  | [d] => { results := [.lit (.bool false)], args := [d] }
  | _ => none }
def FnClearWaysWrongFalsely : Prop := fnClearWaysRow.holds Try.pinned (OpenSpec.ofChange fnClearWaysWrong)

/-- 'laws.FnSharedWays': WHATEVER THE INPUT: true; the input reads as it did. -/
def fnSharedWaysSpec : ChangeSpec := { name := "fnSharedWays", fn := fun _ => fun
  | [d] => { results := [.lit (.bool true)], args := [d] }
  | _ => none }
def fnSharedWaysRow : OpenClaim := { program := "ythbphjfaeklfdaa", sum := "3e52af54b4aa292a1bcc1e89f92d235b2f80f03f621fc453850b988e1cd7abac", func := "loop.example/elevators/laws.FnSharedWays", spec := "fnSharedWays", apart := false }
def FnSharedWaysSaid : Prop := fnSharedWaysRow.holds Try.pinned (OpenSpec.ofChange fnSharedWaysSpec)

/-- ITS FALSE NEIGHBOUR: 'it returns false'. Refute it at one input. -/
def fnSharedWaysWrong : ChangeSpec := { name := "fnSharedWays", fn := fun _ => fun
  | [d] => { results := [.lit (.bool false)], args := [d] }
  | _ => none }
def FnSharedWaysWrongFalsely : Prop := fnSharedWaysRow.holds Try.pinned (OpenSpec.ofChange fnSharedWaysWrong)

/- THE SECOND FORM. 'bulk': how many values and letters a reading holds, each counted each time it is reached (what is shared counts as often as it is met; a slice's spare places count too). A statement '..UptoSaid' is the law's where the arguments, and the package variables that the reading takes, are together of bulk at most 1048576: NARROWER than '..Said'. Prove '..Said' where nothing that the law and all that it calls make is longer than what came in: it says more and counts as full. Else prove '..UptoSaid'. A law counts once. -/
mutual
def uptoBulk {H : Type} : DataW H → Nat
  | .lit (.string bytes) => bytes.length + 1
  | .lit _ => 1
  | .nil => 1
  | .ptr d => uptoBulk d + 1
  | .slice elems spare => uptoBulkAll elems + uptoBulkAll spare + 1
  | .agg parts => uptoBulkAll parts + 1
  | .iface _ d => uptoBulk d + 1
  | .map entries => uptoBulkEntries entries + 1
  | .held _ => 1
def uptoBulkAll {H : Type} : List (DataW H) → Nat
  | [] => 0
  | d :: r => uptoBulk d + uptoBulkAll r
def uptoBulkEntries {H : Type} : List (Lit × DataW H) → Nat
  | [] => 0
  | x :: r => uptoBulkEntry x + uptoBulkEntries r
def uptoBulkEntry {H : Type} : Lit × DataW H → Nat
  | (.string bytes, d) => bytes.length + uptoBulk d + 1
  | (_, d) => uptoBulk d + 1
 end
def uptoSmall : (H : Type) → List (DataW H) → Bool := fun _ ds => decide (uptoBulkAll ds ≤ 1048576)
def OpenSpec.upto (s : _root_.Go.ChangeSpec) : _root_.Go.OpenSpec := { _root_.Go.OpenSpec.ofChange s with cond := some uptoSmall }

/-- 'laws.FnExactTripsFor', WHERE WHAT IT READS IS OF BULK AT MOST 1048576: true; the input reads as it did. -/
def fnExactTripsForUptoRow : OpenClaim := { program := "ythbphjfaeklfdaa", sum := "3e52af54b4aa292a1bcc1e89f92d235b2f80f03f621fc453850b988e1cd7abac", func := "loop.example/elevators/laws.FnExactTripsFor", spec := "fnExactTripsFor", apart := false, narrowed := true }
def FnExactTripsForUptoSaid : Prop := fnExactTripsForUptoRow.holds Try.pinned (OpenSpec.upto fnExactTripsForSpec)

/-- 'laws.FnExactPeopleOk', WHERE WHAT IT READS IS OF BULK AT MOST 1048576: true; the input reads as it did. -/
def fnExactPeopleOkUptoRow : OpenClaim := { program := "ythbphjfaeklfdaa", sum := "3e52af54b4aa292a1bcc1e89f92d235b2f80f03f621fc453850b988e1cd7abac", func := "loop.example/elevators/laws.FnExactPeopleOk", spec := "fnExactPeopleOk", apart := false, narrowed := true }
def FnExactPeopleOkUptoSaid : Prop := fnExactPeopleOkUptoRow.holds Try.pinned (OpenSpec.upto fnExactPeopleOkSpec)

/-- 'laws.FnTripsFor', WHERE WHAT IT READS IS OF BULK AT MOST 1048576: true; the input reads as it did. -/
def fnTripsForUptoRow : OpenClaim := { program := "ythbphjfaeklfdaa", sum := "3e52af54b4aa292a1bcc1e89f92d235b2f80f03f621fc453850b988e1cd7abac", func := "loop.example/elevators/laws.FnTripsFor", spec := "fnTripsFor", apart := false, narrowed := true }
def FnTripsForUptoSaid : Prop := fnTripsForUptoRow.holds Try.pinned (OpenSpec.upto fnTripsForSpec)

/-- 'laws.FnExactLeastWays', WHERE WHAT IT READS IS OF BULK AT MOST 1048576: true; the input reads as it did. -/
def fnExactLeastWaysUptoRow : OpenClaim := { program := "ythbphjfaeklfdaa", sum := "3e52af54b4aa292a1bcc1e89f92d235b2f80f03f621fc453850b988e1cd7abac", func := "loop.example/elevators/laws.FnExactLeastWays", spec := "fnExactLeastWays", apart := false, narrowed := true }
def FnExactLeastWaysUptoSaid : Prop := fnExactLeastWaysUptoRow.holds Try.pinned (OpenSpec.upto fnExactLeastWaysSpec)

/-- 'laws.FnExactClearWays', WHERE WHAT IT READS IS OF BULK AT MOST 1048576: true; the input reads as it did. -/
def fnExactClearWaysUptoRow : OpenClaim := { program := "ythbphjfaeklfdaa", sum := "3e52af54b4aa292a1bcc1e89f92d235b2f80f03f621fc453850b988e1cd7abac", func := "loop.example/elevators/laws.FnExactClearWays", spec := "fnExactClearWays", apart := false, narrowed := true }
def FnExactClearWaysUptoSaid : Prop := fnExactClearWaysUptoRow.holds Try.pinned (OpenSpec.upto fnExactClearWaysSpec)

/-- 'laws.FnExactSharedWays', WHERE WHAT IT READS IS OF BULK AT MOST 1048576: true; the input reads as it did. -/
def fnExactSharedWaysUptoRow : OpenClaim := { program := "ythbphjfaeklfdaa", sum := "3e52af54b4aa292a1bcc1e89f92d235b2f80f03f621fc453850b988e1cd7abac", func := "loop.example/elevators/laws.FnExactSharedWays", spec := "fnExactSharedWays", apart := false, narrowed := true }
def FnExactSharedWaysUptoSaid : Prop := fnExactSharedWaysUptoRow.holds Try.pinned (OpenSpec.upto fnExactSharedWaysSpec)

/-- 'laws.FnPeopleOk', WHERE WHAT IT READS IS OF BULK AT MOST 1048576: true; the input reads as it did. -/
def fnPeopleOkUptoRow : OpenClaim := { program := "ythbphjfaeklfdaa", sum := "3e52af54b4aa292a1bcc1e89f92d235b2f80f03f621fc453850b988e1cd7abac", func := "loop.example/elevators/laws.FnPeopleOk", spec := "fnPeopleOk", apart := false, narrowed := true }
def FnPeopleOkUptoSaid : Prop := fnPeopleOkUptoRow.holds Try.pinned (OpenSpec.upto fnPeopleOkSpec)

/-- 'laws.FnLeastWays', WHERE WHAT IT READS IS OF BULK AT MOST 1048576: true; the input reads as it did. -/
def fnLeastWaysUptoRow : OpenClaim := { program := "ythbphjfaeklfdaa", sum := "3e52af54b4aa292a1bcc1e89f92d235b2f80f03f621fc453850b988e1cd7abac", func := "loop.example/elevators/laws.FnLeastWays", spec := "fnLeastWays", apart := false, narrowed := true }
def FnLeastWaysUptoSaid : Prop := fnLeastWaysUptoRow.holds Try.pinned (OpenSpec.upto fnLeastWaysSpec)

/-- 'laws.FnClearWays', WHERE WHAT IT READS IS OF BULK AT MOST 1048576: true; the input reads as it did. -/
def fnClearWaysUptoRow : OpenClaim := { program := "ythbphjfaeklfdaa", sum := "3e52af54b4aa292a1bcc1e89f92d235b2f80f03f621fc453850b988e1cd7abac", func := "loop.example/elevators/laws.FnClearWays", spec := "fnClearWays", apart := false, narrowed := true }
def FnClearWaysUptoSaid : Prop := fnClearWaysUptoRow.holds Try.pinned (OpenSpec.upto fnClearWaysSpec)

/-- 'laws.FnSharedWays', WHERE WHAT IT READS IS OF BULK AT MOST 1048576: true; the input reads as it did. -/
def fnSharedWaysUptoRow : OpenClaim := { program := "ythbphjfaeklfdaa", sum := "3e52af54b4aa292a1bcc1e89f92d235b2f80f03f621fc453850b988e1cd7abac", func := "loop.example/elevators/laws.FnSharedWays", spec := "fnSharedWays", apart := false, narrowed := true }
def FnSharedWaysUptoSaid : Prop := fnSharedWaysUptoRow.holds Try.pinned (OpenSpec.upto fnSharedWaysSpec)

end Rows
end Go.Proofs.Ythbphjfaeklfdaa
