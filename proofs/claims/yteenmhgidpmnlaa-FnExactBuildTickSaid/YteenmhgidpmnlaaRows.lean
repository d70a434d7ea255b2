/-
  No cell of these rows narrows 'for every input' (looked for: loops, veiled, ifaces, maps, wideKeys, modest, calm, conditions, laid).
  DERIVED. THE GIVEN ROWS OF THIS SEAT. 8 by the template 'for every input the law returns true; each argument reads behind the call as it read before'; 0 by the template 'total and deterministic' (their statements: YteenmhgidpmnlaaTotals.lean).
  GIVEN WITH THE SEED: the statements are not yours to turn. If you find one false, say at which input.
  Laid BY PROGRAM, IN A SANDBOX (cutbox-rows.mjs): the forced cells as the released guide's own fill.sh prints them over the translation 4a62e78f8748f952… (all of the seat's roots in one cut). By AI agents, Wed Nov 11 2026. No macro, syntax, notation, axiom, sorry.
-/
import Derived.Test.YteenmhgidpmnlaaChecked
import GoSem.Claim
import GoSem.ClaimJoined
import GoSem.ClaimMapViews
import Derived.JoinedTies
import Derived.KernelRfl
namespace Go.Proofs.Yteenmhgidpmnlaa
/- THE CELL 'sum', in the pinned program and in every row, IS THE sha256 OF THE DUMP (.gsa) THAT YteenmhgidpmnlaaProg.lean LOADS. Nothing in Lean hashes anything: it is a label: what it is worth is what the hold of that sum in a sandbox is worth. -/
noncomputable def Try.pinned : Pinned := { name := "yteenmhgidpmnlaa", sum := "4a62e78f8748f9522ef627bf78a6b08a6b33c93369173ab794c837b4c51c280d", checked := Try.checked }
namespace Rows
def none {H : Type} : Left H := { results := [], args := [] }

/-- 'laws.FnExactBuildValid': WHATEVER THE INPUT: true; the input reads as it did. -/
def fnExactBuildValidSpec : ChangeSpec := { name := "fnExactBuildValid", fn := fun _ => fun
  | [d] => { results := [.lit (.bool true)], args := [d] }
  | _ => none }
def fnExactBuildValidRow : OpenClaim := { program := "yteenmhgidpmnlaa", sum := "4a62e78f8748f9522ef627bf78a6b08a6b33c93369173ab794c837b4c51c280d", func := "loop.example/elevators/laws.FnExactBuildValid", spec := "fnExactBuildValid", apart := false }
def FnExactBuildValidSaid : Prop := fnExactBuildValidRow.holds Try.pinned (OpenSpec.ofChange fnExactBuildValidSpec)

/-- ITS FALSE NEIGHBOUR: 'it returns false'. Refute it at one input. -/
def fnExactBuildValidWrong : ChangeSpec := { name := "fnExactBuildValid", fn := fun _ => fun
  | [d] => { results := [.lit (.bool false)], args := [d] }
  | _ => none }
def FnExactBuildValidWrongFalsely : Prop := fnExactBuildValidRow.holds Try.pinned (OpenSpec.ofChange fnExactBuildValidWrong)

/-- 'laws.FnExactBuildQuiet': WHATEVER THE INPUT: true; the input reads as it did. -/
def fnExactBuildQuietSpec : ChangeSpec := { name := "fnExactBuildQuiet", fn := fun _ => fun
  | [d] => { results := [.lit (.bool true)], args := [d] }
  | _ => none }
def fnExactBuildQuietRow : OpenClaim := { program := "yteenmhgidpmnlaa", sum := "4a62e78f8748f9522ef627bf78a6b08a6b33c93369173ab794c837b4c51c280d", func := "loop.example/elevators/laws.FnExactBuildQuiet", spec := "fnExactBuildQuiet", apart := false }
def FnExactBuildQuietSaid : Prop := fnExactBuildQuietRow.holds Try.pinned (OpenSpec.ofChange fnExactBuildQuietSpec)

/-- ITS FALSE NEIGHBOUR: 'it returns false'. Refute it at one input. -/
def fnExactBuildQuietWrong : ChangeSpec := { name := "fnExactBuildQuiet", fn := fun _ => fun
  | [d] => { results := [.lit (.bool false)], args := [d] }
  | _ => none }
def FnExactBuildQuietWrongFalsely : Prop := fnExactBuildQuietRow.holds Try.pinned (OpenSpec.ofChange fnExactBuildQuietWrong)

/-- 'laws.FnBuildValid': WHATEVER THE INPUT: true; the input reads as it did. -/
def fnBuildValidSpec : ChangeSpec := { name := "fnBuildValid", fn := fun _ => fun
  | [d] => { results := [.lit (.bool true)], args := [d] }
  | _ => none }
def fnBuildValidRow : OpenClaim := { program := "yteenmhgidpmnlaa", sum := "4a62e78f8748f9522ef627bf78a6b08a6b33c93369173ab794c837b4c51c280d", func := "loop.example/elevators/laws.FnBuildValid", spec := "fnBuildValid", recurses := true, apart := false }
def FnBuildValidSaid : Prop := fnBuildValidRow.holds Try.pinned (OpenSpec.ofChange fnBuildValidSpec)

/-- ITS FALSE NEIGHBOUR: 'it returns false'. Refute it at one input. -/
def fnBuildValidWrong : ChangeSpec := { name := "fnBuildValid", fn := fun _ => fun
  | [d] => { results := [.lit (.bool false)], args := [d] }
  | _ => none }
def FnBuildValidWrongFalsely : Prop := fnBuildValidRow.holds Try.pinned (OpenSpec.ofChange fnBuildValidWrong)

/-- 'laws.FnExactBuildCall': WHATEVER THE INPUT: true; the input reads as it did. -/
def fnExactBuildCallSpec : ChangeSpec := { name := "fnExactBuildCall", fn := fun _ => fun
  | [d1, d2, d3] => { results := [.lit (.bool true)], args := [d1, d2, d3] }
  | _ => none }
def fnExactBuildCallRow : OpenClaim := { program := "yteenmhgidpmnlaa", sum := "4a62e78f8748f9522ef627bf78a6b08a6b33c93369173ab794c837b4c51c280d", func := "loop.example/elevators/laws.FnExactBuildCall", spec := "fnExactBuildCall", apart := false }
def FnExactBuildCallSaid : Prop := fnExactBuildCallRow.holds Try.pinned (OpenSpec.ofChange fnExactBuildCallSpec)

/-- ITS FALSE NEIGHBOUR: 'it returns false'. Refute it at one input. -/
def fnExactBuildCallWrong : ChangeSpec := { name := "fnExactBuildCall", fn := fun _ => fun
  | [d1, d2, d3] => { results := [.lit (.bool false)], args := [d1, d2, d3] }
  | _ => none }
def FnExactBuildCallWrongFalsely : Prop := fnExactBuildCallRow.holds Try.pinned (OpenSpec.ofChange fnExactBuildCallWrong)

/-- 'laws.FnBuildCall': WHATEVER THE INPUT: true; the input reads as it did. -/
def fnBuildCallSpec : ChangeSpec := { name := "fnBuildCall", fn := fun _ => fun
  | [d] => { results := [.lit (.bool true)], args := [d] }
  | _ => none }
def fnBuildCallRow : OpenClaim := { program := "yteenmhgidpmnlaa", sum := "4a62e78f8748f9522ef627bf78a6b08a6b33c93369173ab794c837b4c51c280d", func := "loop.example/elevators/laws.FnBuildCall", spec := "fnBuildCall", recurses := true, apart := false }
def FnBuildCallSaid : Prop := fnBuildCallRow.holds Try.pinned (OpenSpec.ofChange fnBuildCallSpec)

/-- ITS FALSE NEIGHBOUR: 'it returns false'. Refute it at one input. -/
def fnBuildCallWrong : ChangeSpec := { name := "fnBuildCall", fn := fun _ => fun
  | [d] => { results := [.lit (.bool false)], args := [d] }
  | _ => none }
def FnBuildCallWrongFalsely : Prop := fnBuildCallRow.holds Try.pinned (OpenSpec.ofChange fnBuildCallWrong)

/-- 'laws.FnExactBuildTick': WHATEVER THE INPUT: true; the input reads as it did. -/
def fnExactBuildTickSpec : ChangeSpec := { name := "fnExactBuildTick", fn := fun _ => fun
  | [d1, d2] => { results := [.lit (.bool true)], args := [d1, d2] }
  | _ => none }
def fnExactBuildTickRow : OpenClaim := { program := "yteenmhgidpmnlaa", sum := "4a62e78f8748f9522ef627bf78a6b08a6b33c93369173ab794c837b4c51c280d", func := "loop.example/elevators/laws.FnExactBuildTick", spec := "fnExactBuildTick", recurses := true, apart := false }
def FnExactBuildTickSaid : Prop := fnExactBuildTickRow.holds Try.pinned (OpenSpec.ofChange fnExactBuildTickSpec)

/-- ITS FALSE NEIGHBOUR: 'it returns false'. Refute it at one input. -/
def fnExactBuildTickWrong : ChangeSpec := { name := "fnExactBuildTick", fn := fun _ => fun
  | [d1, d2] => { results := [.lit (.bool false)], args := [d1, d2] }
  | _ => none }
def FnExactBuildTickWrongFalsely : Prop := fnExactBuildTickRow.holds Try.pinned (OpenSpec.ofChange fnExactBuildTickWrong)

/-- 'laws.FnBuildTick': WHATEVER THE INPUT: true; the input reads as it did. -/
def fnBuildTickSpec : ChangeSpec := { name := "fnBuildTick", fn := fun _ => fun
  | [d] => { results := [.lit (.bool true)], args := [d] }
  | _ => none }
def fnBuildTickRow : OpenClaim := { program := "yteenmhgidpmnlaa", sum := "4a62e78f8748f9522ef627bf78a6b08a6b33c93369173ab794c837b4c51c280d", func := "loop.example/elevators/laws.FnBuildTick", spec := "fnBuildTick", recurses := true, apart := false }
def FnBuildTickSaid : Prop := fnBuildTickRow.holds Try.pinned (OpenSpec.ofChange fnBuildTickSpec)

/-- ITS FALSE NEIGHBOUR: 'it returns false'. Refute it at one input. -/
def fnBuildTickWrong : ChangeSpec := { name := "fnBuildTick", fn := fun _ => fun
  | [d] => { results := [.lit (.bool false)], args := [d] }
  | _ => none }
def FnBuildTickWrongFalsely : Prop := fnBuildTickRow.holds Try.pinned (OpenSpec.ofChange fnBuildTickWrong)

/-- 'laws.FnBuildQuiet': WHATEVER THE INPUT: true; the input reads as it did. -/
def fnBuildQuietSpec : ChangeSpec := { name := "fnBuildQuiet", fn := fun _ => fun
  | [d] => { results := [.lit (.bool true)], args := [d] }
  | _ => none }
def fnBuildQuietRow : OpenClaim := { program := "yteenmhgidpmnlaa", sum := "4a62e78f8748f9522ef627bf78a6b08a6b33c93369173ab794c837b4c51c280d", func := "loop.example/elevators/laws.FnBuildQuiet", spec := "fnBuildQuiet", recurses := true, apart := false }
def FnBuildQuietSaid : Prop := fnBuildQuietRow.holds Try.pinned (OpenSpec.ofChange fnBuildQuietSpec)

/-- ITS FALSE NEIGHBOUR: 'it returns false'. Refute it at one input. -/
def fnBuildQuietWrong : ChangeSpec := { name := "fnBuildQuiet", fn := fun _ => fun
  | [d] => { results := [.lit (.bool false)], args := [d] }
  | _ => none }
def FnBuildQuietWrongFalsely : Prop := fnBuildQuietRow.holds Try.pinned (OpenSpec.ofChange fnBuildQuietWrong)

/- THE SECOND FORM. 'bulk': how many values and letters a reading holds, each counted each time it is reached (what is shared counts as often as it is met; a slice's spare places count too). A statement '..UptoSaid' is the law's where the arguments, and the package variables that the reading takes, are together of bulk at most 1048576: NARROWER than '..Said'. Prove '..Said' where nothing that the law and all that it calls make is longer than what came in: it says more and counts as full. Else prove '..UptoSaid'. A law counts once. -/
mutual
def uptoBulk {H : Type} : DataW H → Nat
  | .lit (.string bytes) => bytes.length + 1
  | .lit _ => 1
  | .nil => 1
  | .ptr d => uptoBulk d + 1
  | .slice elems spare => uptoBulkAll elems + uptoBulkAll spare + 1
  | .agg parts => uptoBulkAll parts + 1
  | .iface _ d => uptoBulk d + 1
  | .map entries => uptoBulkEntries entries + 1
  | .held _ => 1
def uptoBulkAll {H : Type} : List (DataW H) → Nat
  | [] => 0
  | d :: r => uptoBulk d + uptoBulkAll r
def uptoBulkEntries {H : Type} : List (Lit × DataW H) → Nat
  | [] => 0
  | x :: r => uptoBulkEntry x + uptoBulkEntries r
def uptoBulkEntry {H : Type} : Lit × DataW H → Nat
  | (.string bytes, d) => bytes.length + uptoBulk d + 1
  | (_, d) => uptoBulk d + 1
 end
def uptoSmall : (H : Type) → List (DataW H) → Bool := fun _ ds => decide (uptoBulkAll ds ≤ 1048576)
def OpenSpec.upto (s : _root_.Go.ChangeSpec) : _root_.Go.OpenSpec := { _root_.Go.OpenSpec.ofChange s with cond := some uptoSmall }

/-- 'laws.FnExactBuildValid', WHERE WHAT IT READS IS OF BULK AT MOST 1048576: true; the input reads as it did. -/
def fnExactBuildValidUptoRow : OpenClaim := { program := "yteenmhgidpmnlaa", sum := "4a62e78f8748f9522ef627bf78a6b08a6b33c93369173ab794c837b4c51c280d", func := "loop.example/elevators/laws.FnExactBuildValid", spec := "fnExactBuildValid", apart := false, narrowed := true }
def FnExactBuildValidUptoSaid : Prop := fnExactBuildValidUptoRow.holds Try.pinned (OpenSpec.upto fnExactBuildValidSpec)

/-- 'laws.FnExactBuildQuiet', WHERE WHAT IT READS IS OF BULK AT MOST 1048576: true; the input reads as it did. -/
def fnExactBuildQuietUptoRow : OpenClaim := { program := "yteenmhgidpmnlaa", sum := "4a62e78f8748f9522ef627bf78a6b08a6b33c93369173ab794c837b4c51c280d", func := "loop.example/elevators/laws.FnExactBuildQuiet", spec := "fnExactBuildQuiet", apart := false, narrowed := true }
def FnExactBuildQuietUptoSaid : Prop := fnExactBuildQuietUptoRow.holds Try.pinned (OpenSpec.upto fnExactBuildQuietSpec)

/-- 'laws.FnBuildValid', WHERE WHAT IT READS IS OF BULK AT MOST 1048576: true; the input reads as it did. -/
def fnBuildValidUptoRow : OpenClaim := { program := "yteenmhgidpmnlaa", sum := "4a62e78f8748f9522ef627bf78a6b08a6b33c93369173ab794c837b4c51c280d", func := "loop.example/elevators/laws.FnBuildValid", spec := "fnBuildValid", recurses := true, apart := false, narrowed := true }
def FnBuildValidUptoSaid : Prop := fnBuildValidUptoRow.holds Try.pinned (OpenSpec.upto fnBuildValidSpec)

/-- 'laws.FnExactBuildCall', WHERE WHAT IT READS IS OF BULK AT MOST 1048576: true; the input reads as it did. -/
def fnExactBuildCallUptoRow : OpenClaim := { program := "yteenmhgidpmnlaa", sum := "4a62e78f8748f9522ef627bf78a6b08a6b33c93369173ab794c837b4c51c280d", func := "loop.example/elevators/laws.FnExactBuildCall", spec := "fnExactBuildCall", apart := false, narrowed := true }
def FnExactBuildCallUptoSaid : Prop := fnExactBuildCallUptoRow.holds Try.pinned (OpenSpec.upto fnExactBuildCallSpec)

/-- 'laws.FnBuildCall', WHERE WHAT IT READS IS OF BULK AT MOST 1048576: true; the input reads as it did. -/
def fnBuildCallUptoRow : OpenClaim := { program := "yteenmhgidpmnlaa", sum := "4a62e78f8748f9522ef627bf78a6b08a6b33c93369173ab794c837b4c51c280d", func := "loop.example/elevators/laws.FnBuildCall", spec := "fnBuildCall", recurses := true, apart := false, narrowed := true }
def FnBuildCallUptoSaid : Prop := fnBuildCallUptoRow.holds Try.pinned (OpenSpec.upto fnBuildCallSpec)

/-- 'laws.FnExactBuildTick', WHERE WHAT IT READS IS OF BULK AT MOST 1048576: true; the input reads as it did. -/
def fnExactBuildTickUptoRow : OpenClaim := { program := "yteenmhgidpmnlaa", sum := "4a62e78f8748f9522ef627bf78a6b08a6b33c93369173ab794c837b4c51c280d", func := "loop.example/elevators/laws.FnExactBuildTick", spec := "fnExactBuildTick", recurses := true, apart := false, narrowed := true }
def FnExactBuildTickUptoSaid : Prop := fnExactBuildTickUptoRow.holds Try.pinned (OpenSpec.upto fnExactBuildTickSpec)

/-- 'laws.FnBuildTick', WHERE WHAT IT READS IS OF BULK AT MOST 1048576: true; the input reads as it did. -/
def fnBuildTickUptoRow : OpenClaim := { program := "yteenmhgidpmnlaa", sum := "4a62e78f8748f9522ef627bf78a6b08a6b33c93369173ab794c837b4c51c280d", func := "loop.example/elevators/laws.FnBuildTick", spec := "fnBuildTick", recurses := true, apart := false, narrowed := true }
def FnBuildTickUptoSaid : Prop := fnBuildTickUptoRow.holds Try.pinned (OpenSpec.upto fnBuildTickSpec)

/-- 'laws.FnBuildQuiet', WHERE WHAT IT READS IS OF BULK AT MOST 1048576: true; the input reads as it did. -/
def fnBuildQuietUptoRow : OpenClaim := { program := "yteenmhgidpmnlaa", sum := "4a62e78f8748f9522ef627bf78a6b08a6b33c93369173ab794c837b4c51c280d", func := "loop.example/elevators/laws.FnBuildQuiet", spec := "fnBuildQuiet", recurses := true, apart := false, narrowed := true }
def FnBuildQuietUptoSaid : Prop := fnBuildQuietUptoRow.holds Try.pinned (OpenSpec.upto fnBuildQuietSpec)

end Rows
end Go.Proofs.Yteenmhgidpmnlaa
