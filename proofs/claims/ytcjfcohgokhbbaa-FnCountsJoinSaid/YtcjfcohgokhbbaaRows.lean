/-
  No cell of these rows narrows 'for every input' (looked for: loops, veiled, ifaces, maps, wideKeys, modest, calm, conditions, laid).
  DERIVED. THE GIVEN ROWS OF THIS SEAT. 9 by the template 'for every input the law returns true; each argument reads behind the call as it read before'; 0 by the template 'total and deterministic' (their statements: YtcjfcohgokhbbaaTotals.lean).
  GIVEN WITH THE SEED: the statements are not yours to turn. If you find one false, say at which input.
  Laid BY PROGRAM, IN A SANDBOX (cutbox-rows.mjs): the forced cells as the released guide's own fill.sh prints them over the translation fdb7fde5a175e5fb… (all of the seat's roots in one cut). By AI agents, Wed Nov 11 2026. No macro, syntax, notation, axiom, sorry.
-/
import Derived.Test.YtcjfcohgokhbbaaChecked
import GoSem.Claim
import GoSem.ClaimJoined
import GoSem.ClaimMapViews
import Derived.JoinedTies
import Derived.KernelRfl
namespace Go.Proofs.Ytcjfcohgokhbbaa
/- THE CELL 'sum', in the pinned program and in every row, IS THE sha256 OF THE DUMP (.gsa) THAT YtcjfcohgokhbbaaProg.lean LOADS. Nothing in Lean hashes anything: it is a label: what it is worth is what the hold of that sum in a sandbox is worth. -/
noncomputable def Try.pinned : Pinned := { name := "ytcjfcohgokhbbaa", sum := "fdb7fde5a175e5fb06c2a077fb43ee83306185e68fb74fb3316bf60e2e85d1b5", checked := Try.checked }
namespace Rows
def none {H : Type} : Left H := { results := [], args := [] }

/-- 'laws.FnExactCountsOf': WHATEVER THE INPUT: true; the input reads as it did. -/
def fnExactCountsOfSpec : ChangeSpec := { name := "fnExactCountsOf", fn := fun _ => fun
  | [d] => { results := [.lit (.bool true)], args := [d] }
  | _ => none }
def fnExactCountsOfRow : OpenClaim := { program := "ytcjfcohgokhbbaa", sum := "fdb7fde5a175e5fb06c2a077fb43ee83306185e68fb74fb3316bf60e2e85d1b5", func := "loop.example/elevators/laws.FnExactCountsOf", spec := "fnExactCountsOf", apart := false }
def FnExactCountsOfSaid : Prop := fnExactCountsOfRow.holds Try.pinned (OpenSpec.ofChange fnExactCountsOfSpec)

/-- ITS FALSE NEIGHBOUR: 'it returns false'. Refute it at one input. -/
def fnExactCountsOfWrong : ChangeSpec := { name := "fnExactCountsOf", fn := fun _ => fun
  | [d] => { results := [.lit (.bool false)], args := [d] }
  | _ => none }
def FnExactCountsOfWrongFalsely : Prop := fnExactCountsOfRow.holds Try.pinned (OpenSpec.ofChange fnExactCountsOfWrong)

/-- 'laws.FnExactCountsAll': WHATEVER THE INPUT: true; the input reads as it did. -/
def fnExactCountsAllSpec : ChangeSpec := { name := "fnExactCountsAll", fn := fun _ => fun
  | [d] => { results := [.lit (.bool true)], args := [d] }
  | _ => none }
def fnExactCountsAllRow : OpenClaim := { program := "ytcjfcohgokhbbaa", sum := "fdb7fde5a175e5fb06c2a077fb43ee83306185e68fb74fb3316bf60e2e85d1b5", func := "loop.example/elevators/laws.FnExactCountsAll", spec := "fnExactCountsAll", apart := false }
def FnExactCountsAllSaid : Prop := fnExactCountsAllRow.holds Try.pinned (OpenSpec.ofChange fnExactCountsAllSpec)

/-- ITS FALSE NEIGHBOUR: 'it returns false'. Refute it at one input. -/
def fnExactCountsAllWrong : ChangeSpec := { name := "fnExactCountsAll", fn := fun _ => fun
  | [d] => { results := [.lit (.bool false)], args := [d] }
  | _ => none }
def FnExactCountsAllWrongFalsely : Prop := fnExactCountsAllRow.holds Try.pinned (OpenSpec.ofChange fnExactCountsAllWrong)

/-- 'laws.FnExactCountsJoin': WHATEVER THE INPUT: true; the input reads as it did. -/
def fnExactCountsJoinSpec : ChangeSpec := { name := "fnExactCountsJoin", fn := fun _ => fun
  | [d1, d2] => { results := [.lit (.bool true)], args := [d1, d2] }
  | _ => none }
def fnExactCountsJoinRow : OpenClaim := { program := "ytcjfcohgokhbbaa", sum := "fdb7fde5a175e5fb06c2a077fb43ee83306185e68fb74fb3316bf60e2e85d1b5", func := "loop.example/elevators/laws.FnExactCountsJoin", spec := "fnExactCountsJoin", apart := false }
def FnExactCountsJoinSaid : Prop := fnExactCountsJoinRow.holds Try.pinned (OpenSpec.ofChange fnExactCountsJoinSpec)

/-- ITS FALSE NEIGHBOUR: 'it returns false'. Refute it at one input. -/
def fnExactCountsJoinWrong : ChangeSpec := { name := "fnExactCountsJoin", fn := fun _ => fun
  | [d1, d2] => { results := [.lit (.bool false)], args := [d1, d2] }
  | _ => none }
def FnExactCountsJoinWrongFalsely : Prop := fnExactCountsJoinRow.holds Try.pinned (OpenSpec.ofChange fnExactCountsJoinWrong)

/-- 'laws.FnExactPercentile': WHATEVER THE INPUT: true; the input reads as it did. -/
def fnExactPercentileSpec : ChangeSpec := { name := "fnExactPercentile", fn := fun _ => fun
  | [d1, d2] => { results := [.lit (.bool true)], args := [d1, d2] }
  | _ => none }
def fnExactPercentileRow : OpenClaim := { program := "ytcjfcohgokhbbaa", sum := "fdb7fde5a175e5fb06c2a077fb43ee83306185e68fb74fb3316bf60e2e85d1b5", func := "loop.example/elevators/laws.FnExactPercentile", spec := "fnExactPercentile", apart := false }
def FnExactPercentileSaid : Prop := fnExactPercentileRow.holds Try.pinned (OpenSpec.ofChange fnExactPercentileSpec)

/-- ITS FALSE NEIGHBOUR: 'it returns false'. Refute it at one input. -/
def fnExactPercentileWrong : ChangeSpec := { name := "fnExactPercentile", fn := fun _ => fun
  | [d1, d2] => { results := [.lit (.bool false)], args := [d1, d2] }
  | _ => none }
def FnExactPercentileWrongFalsely : Prop := fnExactPercentileRow.holds Try.pinned (OpenSpec.ofChange fnExactPercentileWrong)

/-- 'laws.FnCountsValid': WHATEVER THE INPUT: true; the input reads as it did. -/
def fnCountsValidSpec : ChangeSpec := { name := "fnCountsValid", fn := fun _ => fun
  | [d] => { results := [.lit (.bool true)], args := [d] }
  | _ => none }
def fnCountsValidRow : OpenClaim := { program := "ytcjfcohgokhbbaa", sum := "fdb7fde5a175e5fb06c2a077fb43ee83306185e68fb74fb3316bf60e2e85d1b5", func := "loop.example/elevators/laws.FnCountsValid", spec := "fnCountsValid", apart := false }
def FnCountsValidSaid : Prop := fnCountsValidRow.holds Try.pinned (OpenSpec.ofChange fnCountsValidSpec)

/-- ITS FALSE NEIGHBOUR: 'it returns false'. Refute it at one input. -/
def fnCountsValidWrong : ChangeSpec := { name := "fnCountsValid", fn := fun _ => fun
  | [d] => { results := [.lit (.bool false)], args := [d] }
  | _ => none }
def FnCountsValidWrongFalsely : Prop := fnCountsValidRow.holds Try.pinned (OpenSpec.ofChange fnCountsValidWrong)

/-- 'laws.FnCountsOf': WHATEVER THE INPUT: true; the input reads as it did. -/
def fnCountsOfSpec : ChangeSpec := { name := "fnCountsOf", fn := fun _ => fun
  | [d] => { results := [.lit (.bool true)], args := [d] }
  | _ => none }
def fnCountsOfRow : OpenClaim := { program := "ytcjfcohgokhbbaa", sum := "fdb7fde5a175e5fb06c2a077fb43ee83306185e68fb74fb3316bf60e2e85d1b5", func := "loop.example/elevators/laws.FnCountsOf", spec := "fnCountsOf", apart := false }
def FnCountsOfSaid : Prop := fnCountsOfRow.holds Try.pinned (OpenSpec.ofChange fnCountsOfSpec)

/-- ITS FALSE NEIGHBOUR: 'it returns false'. Refute it at one input. -/
def fnCountsOfWrong : ChangeSpec := { name := "fnCountsOf", fn := fun _ => fun
  | [d] => { results := [.lit (.bool false)], args := [d] }
  | _ => none }
def FnCountsOfWrongFalsely : Prop := fnCountsOfRow.holds Try.pinned (OpenSpec.ofChange fnCountsOfWrong)

/-- 'laws.FnCountsAll': WHATEVER THE INPUT: true; the input reads as it did. -/
def fnCountsAllSpec : ChangeSpec := { name := "fnCountsAll", fn := fun _ => fun
  | [d] => { results := [.lit (.bool true)], args := [d] }
  | _ => none }
def fnCountsAllRow : OpenClaim := { program := "ytcjfcohgokhbbaa", sum := "fdb7fde5a175e5fb06c2a077fb43ee83306185e68fb74fb3316bf60e2e85d1b5", func := "loop.example/elevators/laws.FnCountsAll", spec := "fnCountsAll", apart := false }
def FnCountsAllSaid : Prop := fnCountsAllRow.holds Try.pinned (OpenSpec.ofChange fnCountsAllSpec)

/-- ITS FALSE NEIGHBOUR: 'it returns false'. Refute it at one input. -/
def fnCountsAllWrong : ChangeSpec := { name := "fnCountsAll", fn := fun _ => fun
  | [d] => { results := [.lit (.bool false)], args := [d] }
  | _ => none }
def FnCountsAllWrongFalsely : Prop := fnCountsAllRow.holds Try.pinned (OpenSpec.ofChange fnCountsAllWrong)

/-- 'laws.FnPercentile': WHATEVER THE INPUT: true; the input reads as it did. -/
def fnPercentileSpec : ChangeSpec := { name := "fnPercentile", fn := fun _ => fun
  | [d] => { results := [.lit (.bool true)], args := [d] }
  | _ => none }
def fnPercentileRow : OpenClaim := { program := "ytcjfcohgokhbbaa", sum := "fdb7fde5a175e5fb06c2a077fb43ee83306185e68fb74fb3316bf60e2e85d1b5", func := "loop.example/elevators/laws.FnPercentile", spec := "fnPercentile", apart := false }
def FnPercentileSaid : Prop := fnPercentileRow.holds Try.pinned (OpenSpec.ofChange fnPercentileSpec)

/-- ITS FALSE NEIGHBOUR: 'it returns false'. Refute it at one input. -/
def fnPercentileWrong : ChangeSpec := { name := "fnPercentile", fn := fun _ => fun
  | [d] => { results := [.lit (.bool false)], args := [d] }
  | _ => none }
def FnPercentileWrongFalsely : Prop := fnPercentileRow.holds Try.pinned (OpenSpec.ofChange fnPercentileWrong)

/-- 'laws.FnCountsJoin': WHATEVER THE INPUT: true; the input reads as it did. -/
def fnCountsJoinSpec : ChangeSpec := { name := "fnCountsJoin", fn := fun _ => fun
  | [d] => { results := [.lit (.bool true)], args := [d] }
  | _ => none }
def fnCountsJoinRow : OpenClaim := { program := "ytcjfcohgokhbbaa", sum := "fdb7fde5a175e5fb06c2a077fb43ee83306185e68fb74fb3316bf60e2e85d1b5", func := "loop.example/elevators/laws.FnCountsJoin", spec := "fnCountsJoin", apart := false }
def FnCountsJoinSaid : Prop := fnCountsJoinRow.holds Try.pinned (OpenSpec.ofChange fnCountsJoinSpec)

/-- ITS FALSE NEIGHBOUR: 'it returns false'. Refute it at one input. -/
def fnCountsJoinWrong : ChangeSpec := { name := "fnCountsJoin", fn := fun _ => fun
  | [d] => { results := [.lit (.bool false)], args := [d] }
  | _ => none }
def FnCountsJoinWrongFalsely : Prop := fnCountsJoinRow.holds Try.pinned (OpenSpec.ofChange fnCountsJoinWrong)

/- THE SECOND FORM. 'bulk': how many values and letters a reading holds, each counted each time it is reached (what is shared counts as often as it is met; a slice's spare places count too). A statement '..UptoSaid' is the law's where the arguments, and the package variables that the reading takes, are together of bulk at most 1048576: NARROWER than '..Said'. Prove '..Said' where nothing that the law and all that it calls make is longer than what came in: it says more and counts as full. Else prove '..UptoSaid'. A law counts once. -/
mutual
def uptoBulk {H : Type} : DataW H → Nat
  | .lit (.string bytes) => bytes.length + 1
  | .lit _ => 1
  | .nil => 1
  | .ptr d => uptoBulk d + 1
  | .slice elems spare => uptoBulkAll elems + uptoBulkAll spare + 1
  | .agg parts => uptoBulkAll parts + 1
  | .iface _ d => uptoBulk d + 1
  | .map entries => uptoBulkEntries entries + 1
  | .held _ => 1
def uptoBulkAll {H : Type} : List (DataW H) → Nat
  | [] => 0
  | d :: r => uptoBulk d + uptoBulkAll r
def uptoBulkEntries {H : Type} : List (Lit × DataW H) → Nat
  | [] => 0
  | x :: r => uptoBulkEntry x + uptoBulkEntries r
def uptoBulkEntry {H : Type} : Lit × DataW H → Nat
  | (.string bytes, d) => bytes.length + uptoBulk d + 1
  | (_, d) => uptoBulk d + 1
 end
def uptoSmall : (H : Type) → List (DataW H) → Bool := fun _ ds => decide (uptoBulkAll ds ≤ 1048576)
def OpenSpec.upto (s : _root_.Go.ChangeSpec) : _root_.Go.OpenSpec := { _root_.Go.OpenSpec.ofChange s with cond := some uptoSmall }

/-- 'laws.FnExactCountsOf', WHERE WHAT IT READS IS OF BULK AT MOST 1048576: true; the input reads as it did. -/
def fnExactCountsOfUptoRow : OpenClaim := { program := "ytcjfcohgokhbbaa", sum := "fdb7fde5a175e5fb06c2a077fb43ee83306185e68fb74fb3316bf60e2e85d1b5", func := "loop.example/elevators/laws.FnExactCountsOf", spec := "fnExactCountsOf", apart := false, narrowed := true }
def FnExactCountsOfUptoSaid : Prop := fnExactCountsOfUptoRow.holds Try.pinned (OpenSpec.upto fnExactCountsOfSpec)

/-- 'laws.FnExactCountsAll', WHERE WHAT IT READS IS OF BULK AT MOST 1048576: true; the input reads as it did. -/
def fnExactCountsAllUptoRow : OpenClaim := { program := "ytcjfcohgokhbbaa", sum := "fdb7fde5a175e5fb06c2a077fb43ee83306185e68fb74fb3316bf60e2e85d1b5", func := "loop.example/elevators/laws.FnExactCountsAll", spec := "fnExactCountsAll", apart := false, narrowed := true }
def FnExactCountsAllUptoSaid : Prop := fnExactCountsAllUptoRow.holds Try.pinned (OpenSpec.upto fnExactCountsAllSpec)

/-- 'laws.FnExactCountsJoin', WHERE WHAT IT READS IS OF BULK AT MOST 1048576: true; the input reads as it did. -/
def fnExactCountsJoinUptoRow : OpenClaim := { program := "ytcjfcohgokhbbaa", sum := "fdb7fde5a175e5fb06c2a077fb43ee83306185e68fb74fb3316bf60e2e85d1b5", func := "loop.example/elevators/laws.FnExactCountsJoin", spec := "fnExactCountsJoin", apart := false, narrowed := true }
def FnExactCountsJoinUptoSaid : Prop := fnExactCountsJoinUptoRow.holds Try.pinned (OpenSpec.upto fnExactCountsJoinSpec)

/-- 'laws.FnExactPercentile', WHERE WHAT IT READS IS OF BULK AT MOST 1048576: true; the input reads as it did. -/
def fnExactPercentileUptoRow : OpenClaim := { program := "ytcjfcohgokhbbaa", sum := "fdb7fde5a175e5fb06c2a077fb43ee83306185e68fb74fb3316bf60e2e85d1b5", func := "loop.example/elevators/laws.FnExactPercentile", spec := "fnExactPercentile", apart := false, narrowed := true }
def FnExactPercentileUptoSaid : Prop := fnExactPercentileUptoRow.holds Try.pinned (OpenSpec.upto fnExactPercentileSpec)

/-- 'laws.FnCountsValid', WHERE WHAT IT READS IS OF BULK AT MOST 1048576: true; the input reads as it did. -/
def fnCountsValidUptoRow : OpenClaim := { program := "ytcjfcohgokhbbaa", sum := "fdb7fde5a175e5fb06c2a077fb43ee83306185e68fb74fb3316bf60e2e85d1b5", func := "loop.example/elevators/laws.FnCountsValid", spec := "fnCountsValid", apart := false, narrowed := true }
def FnCountsValidUptoSaid : Prop := fnCountsValidUptoRow.holds Try.pinned (OpenSpec.upto fnCountsValidSpec)

/-- 'laws.FnCountsOf', WHERE WHAT IT READS IS OF BULK AT MOST 1048576: true; the input reads as it did. -/
def fnCountsOfUptoRow : OpenClaim := { program := "ytcjfcohgokhbbaa", sum := "fdb7fde5a175e5fb06c2a077fb43ee83306185e68fb74fb3316bf60e2e85d1b5", func := "loop.example/elevators/laws.FnCountsOf", spec := "fnCountsOf", apart := false, narrowed := true }
def FnCountsOfUptoSaid : Prop := fnCountsOfUptoRow.holds Try.pinned (OpenSpec.upto fnCountsOfSpec)

/-- 'laws.FnCountsAll', WHERE WHAT IT READS IS OF BULK AT MOST 1048576: true; the input reads as it did. -/
def fnCountsAllUptoRow : OpenClaim := { program := "ytcjfcohgokhbbaa", sum := "fdb7fde5a175e5fb06c2a077fb43ee83306185e68fb74fb3316bf60e2e85d1b5", func := "loop.example/elevators/laws.FnCountsAll", spec := "fnCountsAll", apart := false, narrowed := true }
def FnCountsAllUptoSaid : Prop := fnCountsAllUptoRow.holds Try.pinned (OpenSpec.upto fnCountsAllSpec)

/-- 'laws.FnPercentile', WHERE WHAT IT READS IS OF BULK AT MOST 1048576: true; the input reads as it did. -/
def fnPercentileUptoRow : OpenClaim := { program := "ytcjfcohgokhbbaa", sum := "fdb7fde5a175e5fb06c2a077fb43ee83306185e68fb74fb3316bf60e2e85d1b5", func := "loop.example/elevators/laws.FnPercentile", spec := "fnPercentile", apart := false, narrowed := true }
def FnPercentileUptoSaid : Prop := fnPercentileUptoRow.holds Try.pinned (OpenSpec.upto fnPercentileSpec)

/-- 'laws.FnCountsJoin', WHERE WHAT IT READS IS OF BULK AT MOST 1048576: true; the input reads as it did. -/
def fnCountsJoinUptoRow : OpenClaim := { program := "ytcjfcohgokhbbaa", sum := "fdb7fde5a175e5fb06c2a077fb43ee83306185e68fb74fb3316bf60e2e85d1b5", func := "loop.example/elevators/laws.FnCountsJoin", spec := "fnCountsJoin", apart := false, narrowed := true }
def FnCountsJoinUptoSaid : Prop := fnCountsJoinUptoRow.holds Try.pinned (OpenSpec.upto fnCountsJoinSpec)

end Rows
end Go.Proofs.Ytcjfcohgokhbbaa
