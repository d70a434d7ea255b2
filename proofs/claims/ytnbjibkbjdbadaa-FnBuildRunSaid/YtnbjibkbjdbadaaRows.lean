/-
  No cell of these rows narrows 'for every input' (looked for: loops, veiled, ifaces, maps, wideKeys, modest, calm, conditions, laid).
  DERIVED. THE GIVEN ROWS OF THIS SEAT. 8 by the template 'for every input the law returns true; each argument reads behind the call as it read before'; 0 by the template 'total and deterministic' (their statements: YtnbjibkbjdbadaaTotals.lean).
  GIVEN WITH THE SEED: the statements are not yours to turn. If you find one false, say at which input.
  Laid BY PROGRAM, IN A SANDBOX (cutbox-rows.mjs): the forced cells as the released guide's own fill.sh prints them over the translation aa100b6ad5e7f3d3… (all of the seat's roots in one cut). By AI agents, Wed Nov 11 2026. No macro, syntax, notation, axiom, sorry.
-/
import Derived.Test.YtnbjibkbjdbadaaChecked
import GoSem.Claim
import GoSem.ClaimJoined
import GoSem.ClaimMapViews
import Derived.JoinedTies
import Derived.KernelRfl
namespace Go.Proofs.Ytnbjibkbjdbadaa
/- THE CELL 'sum', in the pinned program and in every row, IS THE sha256 OF THE DUMP (.gsa) THAT YtnbjibkbjdbadaaProg.lean LOADS. Nothing in Lean hashes anything: it is a label: what it is worth is what the hold of that sum in a sandbox is worth. -/
noncomputable def Try.pinned : Pinned := { name := "ytnbjibkbjdbadaa", sum := "aa100b6ad5e7f3d374b2989a48b9ce45a2f3a72395acdecdc83f3f8869dd506b", checked := Try.checked }
namespace Rows
def none {H : Type} : Left H := { results := [], args := [] }

/-- 'laws.FnBuildValid': WHATEVER THE INPUT: true; the input reads as it did. -/
def fnBuildValidSpec : ChangeSpec := { name := "fnBuildValid", fn := fun _ => fun
  | [d] => { results := [.lit (.bool true)], args := [d] }
  | _ => none }
def fnBuildValidRow : OpenClaim := { program := "ytnbjibkbjdbadaa", sum := "aa100b6ad5e7f3d374b2989a48b9ce45a2f3a72395acdecdc83f3f8869dd506b", func := "loop.example/elevators/laws.FnBuildValid", spec := "fnBuildValid", recurses := true, apart := false }
def FnBuildValidSaid : Prop := fnBuildValidRow.holds Try.pinned (OpenSpec.ofChange fnBuildValidSpec)

/-- ITS FALSE NEIGHBOUR: 'it returns false'. Refute it at one input. -/
def fnBuildValidWrong : ChangeSpec := { name := "fnBuildValid", fn := fun _ => fun
  | [d] => { results := [.lit (.bool false)], args := [d] }
  | _ => none }
def FnBuildValidWrongFalsely : Prop := fnBuildValidRow.holds Try.pinned (OpenSpec.ofChange fnBuildValidWrong)

/-- 'laws.FnBuildCall': WHATEVER THE INPUT: true; the input reads as it did. -/
def fnBuildCallSpec : ChangeSpec := { name := "fnBuildCall", fn := fun _ => fun
  | [d] => { results := [.lit (.bool true)], args := [d] }
  | _ => none }
def fnBuildCallRow : OpenClaim := { program := "ytnbjibkbjdbadaa", sum := "aa100b6ad5e7f3d374b2989a48b9ce45a2f3a72395acdecdc83f3f8869dd506b", func := "loop.example/elevators/laws.FnBuildCall", spec := "fnBuildCall", recurses := true, apart := false }
def FnBuildCallSaid : Prop := fnBuildCallRow.holds Try.pinned (OpenSpec.ofChange fnBuildCallSpec)

/-- ITS FALSE NEIGHBOUR: 'it returns false'. Refute it at one input. -/
def fnBuildCallWrong : ChangeSpec := { name := "fnBuildCall", fn := fun _ => fun
  | [d] => { results := [.lit (.bool false)], args := [d] }
  | _ => none }
def FnBuildCallWrongFalsely : Prop := fnBuildCallRow.holds Try.pinned (OpenSpec.ofChange fnBuildCallWrong)

/-- 'laws.FnBuildTick': WHATEVER THE INPUT: true; the input reads as it did. -/
def fnBuildTickSpec : ChangeSpec := { name := "fnBuildTick", fn := fun _ => fun
  | [d] => { results := [.lit (.bool true)], args := [d] }
  | _ => none }
def fnBuildTickRow : OpenClaim := { program := "ytnbjibkbjdbadaa", sum := "aa100b6ad5e7f3d374b2989a48b9ce45a2f3a72395acdecdc83f3f8869dd506b", func := "loop.example/elevators/laws.FnBuildTick", spec := "fnBuildTick", recurses := true, apart := false }
def FnBuildTickSaid : Prop := fnBuildTickRow.holds Try.pinned (OpenSpec.ofChange fnBuildTickSpec)

/-- ITS FALSE NEIGHBOUR: 'it returns false'. Refute it at one input. -/
def fnBuildTickWrong : ChangeSpec := { name := "fnBuildTick", fn := fun _ => fun
  | [d] => { results := [.lit (.bool false)], args := [d] }
  | _ => none }
def FnBuildTickWrongFalsely : Prop := fnBuildTickRow.holds Try.pinned (OpenSpec.ofChange fnBuildTickWrong)

/-- 'laws.FnBuildQuiet': WHATEVER THE INPUT: true; the input reads as it did. -/
def fnBuildQuietSpec : ChangeSpec := { name := "fnBuildQuiet", fn := fun _ => fun
  | [d] => { results := [.lit (.bool true)], args := [d] }
  | _ => none }
def fnBuildQuietRow : OpenClaim := { program := "ytnbjibkbjdbadaa", sum := "aa100b6ad5e7f3d374b2989a48b9ce45a2f3a72395acdecdc83f3f8869dd506b", func := "loop.example/elevators/laws.FnBuildQuiet", spec := "fnBuildQuiet", recurses := true, apart := false }
def FnBuildQuietSaid : Prop := fnBuildQuietRow.holds Try.pinned (OpenSpec.ofChange fnBuildQuietSpec)

/-- ITS FALSE NEIGHBOUR: 'it returns false'. Refute it at one input. -/
def fnBuildQuietWrong : ChangeSpec := { name := "fnBuildQuiet", fn := fun _ => fun
  | [d] => { results := [.lit (.bool false)], args := [d] }
  | _ => none }
def FnBuildQuietWrongFalsely : Prop := fnBuildQuietRow.holds Try.pinned (OpenSpec.ofChange fnBuildQuietWrong)

/-- 'laws.FnRestTicks': WHATEVER THE INPUT: true; the input reads as it did. -/
def fnRestTicksSpec : ChangeSpec := { name := "fnRestTicks", fn := fun _ => fun
  | [d] => { results := [.lit (.bool true)], args := [d] }
  | _ => none }
def fnRestTicksRow : OpenClaim := { program := "ytnbjibkbjdbadaa", sum := "aa100b6ad5e7f3d374b2989a48b9ce45a2f3a72395acdecdc83f3f8869dd506b", func := "loop.example/elevators/laws.FnRestTicks", spec := "fnRestTicks", recurses := true, apart := false }
def FnRestTicksSaid : Prop := fnRestTicksRow.holds Try.pinned (OpenSpec.ofChange fnRestTicksSpec)

/-- ITS FALSE NEIGHBOUR: 'it returns false'. Refute it at one input. -/
def fnRestTicksWrong : ChangeSpec := { name := "fnRestTicks", fn := fun _ => fun
  | [d] => { results := [.lit (.bool false)], args := [d] }
  | _ => none }
def FnRestTicksWrongFalsely : Prop := fnRestTicksRow.holds Try.pinned (OpenSpec.ofChange fnRestTicksWrong)

/-- 'laws.FnBuildRun': WHATEVER THE INPUT: true; the input reads as it did. -/
def fnBuildRunSpec : ChangeSpec := { name := "fnBuildRun", fn := fun _ => fun
  | [d] => { results := [.lit (.bool true)], args := [d] }
  | _ => none }
def fnBuildRunRow : OpenClaim := { program := "ytnbjibkbjdbadaa", sum := "aa100b6ad5e7f3d374b2989a48b9ce45a2f3a72395acdecdc83f3f8869dd506b", func := "loop.example/elevators/laws.FnBuildRun", spec := "fnBuildRun", recurses := true, apart := false }
def FnBuildRunSaid : Prop := fnBuildRunRow.holds Try.pinned (OpenSpec.ofChange fnBuildRunSpec)

/-- ITS FALSE NEIGHBOUR: 'it returns false'. Refute it at one input. -/
def fnBuildRunWrong : ChangeSpec := { name := "fnBuildRun", fn := fun _ => fun
  | [d] => { results := [.lit (.bool false)], args := [d] }
  | _ => none }
def FnBuildRunWrongFalsely : Prop := fnBuildRunRow.holds Try.pinned (OpenSpec.ofChange fnBuildRunWrong)

/-- 'laws.FnRestVisits': WHATEVER THE INPUT: true; the input reads as it did. -/
def fnRestVisitsSpec : ChangeSpec := { name := "fnRestVisits", fn := fun _ => fun
  | [d] => { results := [.lit (.bool true)], args := [d] }
  | _ => none }
def fnRestVisitsRow : OpenClaim := { program := "ytnbjibkbjdbadaa", sum := "aa100b6ad5e7f3d374b2989a48b9ce45a2f3a72395acdecdc83f3f8869dd506b", func := "loop.example/elevators/laws.FnRestVisits", spec := "fnRestVisits", recurses := true, apart := false }
def FnRestVisitsSaid : Prop := fnRestVisitsRow.holds Try.pinned (OpenSpec.ofChange fnRestVisitsSpec)

/-- ITS FALSE NEIGHBOUR: 'it returns false'. Refute it at one input. -/
def fnRestVisitsWrong : ChangeSpec := { name := "fnRestVisits", fn := fun _ => fun
  | [d] => { results := [.lit (.bool false)], args := [d] }
  | _ => none }
def FnRestVisitsWrongFalsely : Prop := fnRestVisitsRow.holds Try.pinned (OpenSpec.ofChange fnRestVisitsWrong)

/-- 'laws.FnRestEnd': WHATEVER THE INPUT: true; the input reads as it did. -/
def fnRestEndSpec : ChangeSpec := { name := "fnRestEnd", fn := fun _ => fun
  | [d] => { results := [.lit (.bool true)], args := [d] }
  | _ => none }
def fnRestEndRow : OpenClaim := { program := "ytnbjibkbjdbadaa", sum := "aa100b6ad5e7f3d374b2989a48b9ce45a2f3a72395acdecdc83f3f8869dd506b", func := "loop.example/elevators/laws.FnRestEnd", spec := "fnRestEnd", recurses := true, apart := false }
def FnRestEndSaid : Prop := fnRestEndRow.holds Try.pinned (OpenSpec.ofChange fnRestEndSpec)

/-- ITS FALSE NEIGHBOUR: 'it returns false'. Refute it at one input. -/
def fnRestEndWrong : ChangeSpec := { name := "fnRestEnd", fn := fun _ => fun
  | [d] => { results := [.lit (.bool false)], args := [d] }
  | _ => none }
def FnRestEndWrongFalsely : Prop := fnRestEndRow.holds Try.pinned (OpenSpec.ofChange fnRestEndWrong)

/- THE SECOND FORM. 'bulk': how many values and letters a reading holds, each counted each time it is reached (what is shared counts as often as it is met; a slice's spare places count too). A statement '..UptoSaid' is the law's where the arguments, and the package variables that the reading takes, are together of bulk at most 1048576: NARROWER than '..Said'. Prove '..Said' where nothing that the law and all that it calls make is longer than what came in: it says more and counts as full. Else prove '..UptoSaid'. A law counts once. -/
mutual
def uptoBulk {H : Type} : DataW H → Nat
  | .lit (.string bytes) => bytes.length + 1
  | .lit _ => 1
  | .nil => 1
  | .ptr d => uptoBulk d + 1
  | .slice elems spare => uptoBulkAll elems + uptoBulkAll spare + 1
  | .agg parts => uptoBulkAll parts + 1
  | .iface _ d => uptoBulk d + 1
  | .map entries => uptoBulkEntries entries + 1
  | .held _ => 1
def uptoBulkAll {H : Type} : List (DataW H) → Nat
  | [] => 0
  | d :: r => uptoBulk d + uptoBulkAll r
def uptoBulkEntries {H : Type} : List (Lit × DataW H) → Nat
  | [] => 0
  | x :: r => uptoBulkEntry x + uptoBulkEntries r
def uptoBulkEntry {H : Type} : Lit × DataW H → Nat
  | (.string bytes, d) => bytes.length + uptoBulk d + 1
  | (_, d) => uptoBulk d + 1
 end
def uptoSmall : (H : Type) → List (DataW H) → Bool := fun _ ds => decide (uptoBulkAll ds ≤ 1048576)
def OpenSpec.upto (s : _root_.Go.ChangeSpec) : _root_.Go.OpenSpec := { _root_.Go.OpenSpec.ofChange s with cond := some uptoSmall }

/-- 'laws.FnBuildValid', WHERE WHAT IT READS IS OF BULK AT MOST 1048576: true; the input reads as it did. -/
def fnBuildValidUptoRow : OpenClaim := { program := "ytnbjibkbjdbadaa", sum := "aa100b6ad5e7f3d374b2989a48b9ce45a2f3a72395acdecdc83f3f8869dd506b", func := "loop.example/elevators/laws.FnBuildValid", spec := "fnBuildValid", recurses := true, apart := false, narrowed := true }
def FnBuildValidUptoSaid : Prop := fnBuildValidUptoRow.holds Try.pinned (OpenSpec.upto fnBuildValidSpec)

/-- 'laws.FnBuildCall', WHERE WHAT IT READS IS OF BULK AT MOST 1048576: true; the input reads as it did. -/
def fnBuildCallUptoRow : OpenClaim := { program := "ytnbjibkbjdbadaa", sum := "aa100b6ad5e7f3d374b2989a48b9ce45a2f3a72395acdecdc83f3f8869dd506b", func := "loop.example/elevators/laws.FnBuildCall", spec := "fnBuildCall", recurses := true, apart := false, narrowed := true }
def FnBuildCallUptoSaid : Prop := fnBuildCallUptoRow.holds Try.pinned (OpenSpec.upto fnBuildCallSpec)

/-- 'laws.FnBuildTick', WHERE WHAT IT READS IS OF BULK AT MOST 1048576: true; the input reads as it did. -/
def fnBuildTickUptoRow : OpenClaim := { program := "ytnbjibkbjdbadaa", sum := "aa100b6ad5e7f3d374b2989a48b9ce45a2f3a72395acdecdc83f3f8869dd506b", func := "loop.example/elevators/laws.FnBuildTick", spec := "fnBuildTick", recurses := true, apart := false, narrowed := true }
def FnBuildTickUptoSaid : Prop := fnBuildTickUptoRow.holds Try.pinned (OpenSpec.upto fnBuildTickSpec)

/-- 'laws.FnBuildQuiet', WHERE WHAT IT READS IS OF BULK AT MOST 1048576: true; the input reads as it did. -/
def fnBuildQuietUptoRow : OpenClaim := { program := "ytnbjibkbjdbadaa", sum := "aa100b6ad5e7f3d374b2989a48b9ce45a2f3a72395acdecdc83f3f8869dd506b", func := "loop.example/elevators/laws.FnBuildQuiet", spec := "fnBuildQuiet", recurses := true, apart := false, narrowed := true }
def FnBuildQuietUptoSaid : Prop := fnBuildQuietUptoRow.holds Try.pinned (OpenSpec.upto fnBuildQuietSpec)

/-- 'laws.FnRestTicks', WHERE WHAT IT READS IS OF BULK AT MOST 1048576: true; the input reads as it did. -/
def fnRestTicksUptoRow : OpenClaim := { program := "ytnbjibkbjdbadaa", sum := "aa100b6ad5e7f3d374b2989a48b9ce45a2f3a72395acdecdc83f3f8869dd506b", func := "loop.example/elevators/laws.FnRestTicks", spec := "fnRestTicks", recurses := true, apart := false, narrowed := true }
def FnRestTicksUptoSaid : Prop := fnRestTicksUptoRow.holds Try.pinned (OpenSpec.upto fnRestTicksSpec)

/-- 'laws.FnBuildRun', WHERE WHAT IT READS IS OF BULK AT MOST 1048576: true; the input reads as it did. -/
def fnBuildRunUptoRow : OpenClaim := { program := "ytnbjibkbjdbadaa", sum := "aa100b6ad5e7f3d374b2989a48b9ce45a2f3a72395acdecdc83f3f8869dd506b", func := "loop.example/elevators/laws.FnBuildRun", spec := "fnBuildRun", recurses := true, apart := false, narrowed := true }
def FnBuildRunUptoSaid : Prop := fnBuildRunUptoRow.holds Try.pinned (OpenSpec.upto fnBuildRunSpec)

/-- 'laws.FnRestVisits', WHERE WHAT IT READS IS OF BULK AT MOST 1048576: true; the input reads as it did. -/
def fnRestVisitsUptoRow : OpenClaim := { program := "ytnbjibkbjdbadaa", sum := "aa100b6ad5e7f3d374b2989a48b9ce45a2f3a72395acdecdc83f3f8869dd506b", func := "loop.example/elevators/laws.FnRestVisits", spec := "fnRestVisits", recurses := true, apart := false, narrowed := true }
def FnRestVisitsUptoSaid : Prop := fnRestVisitsUptoRow.holds Try.pinned (OpenSpec.upto fnRestVisitsSpec)

/-- 'laws.FnRestEnd', WHERE WHAT IT READS IS OF BULK AT MOST 1048576: true; the input reads as it did. -/
def fnRestEndUptoRow : OpenClaim := { program := "ytnbjibkbjdbadaa", sum := "aa100b6ad5e7f3d374b2989a48b9ce45a2f3a72395acdecdc83f3f8869dd506b", func := "loop.example/elevators/laws.FnRestEnd", spec := "fnRestEnd", recurses := true, apart := false, narrowed := true }
def FnRestEndUptoSaid : Prop := fnRestEndUptoRow.holds Try.pinned (OpenSpec.upto fnRestEndSpec)

end Rows
end Go.Proofs.Ytnbjibkbjdbadaa
