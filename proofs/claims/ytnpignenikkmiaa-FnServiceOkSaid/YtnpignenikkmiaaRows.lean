/-
  No cell of these rows narrows 'for every input' (looked for: loops, veiled, ifaces, maps, wideKeys, modest, calm, conditions, laid).
  DERIVED. THE GIVEN ROWS OF THIS SEAT. 10 by the template 'for every input the law returns true; each argument reads behind the call as it read before'; 0 by the template 'total and deterministic' (their statements: YtnpignenikkmiaaTotals.lean).
  GIVEN WITH THE SEED: the statements are not yours to turn. If you find one false, say at which input.
  Laid BY PROGRAM, IN A SANDBOX (cutbox-rows.mjs): the forced cells as the released guide's own fill.sh prints them over the translation 43c7150866973486… (all of the seat's roots in one cut). By AI agents, Wed Nov 11 2026. No macro, syntax, notation, axiom, sorry.
-/
import Derived.Test.YtnpignenikkmiaaChecked
import GoSem.Claim
import GoSem.ClaimJoined
import GoSem.ClaimMapViews
import Derived.JoinedTies
import Derived.KernelRfl
namespace Go.Proofs.Ytnpignenikkmiaa
/- THE CELL 'sum', in the pinned program and in every row, IS THE sha256 OF THE DUMP (.gsa) THAT YtnpignenikkmiaaProg.lean LOADS. Nothing in Lean hashes anything: it is a label: what it is worth is what the hold of that sum in a sandbox is worth. -/
noncomputable def Try.pinned : Pinned := { name := "ytnpignenikkmiaa", sum := "43c71508669734864e652e4f0bcc45225ec24abab23cbd54b4bdec7ebeee5dcf", checked := Try.checked }
namespace Rows
def none {H : Type} : Left H := { results := [], args := [] }

/-- 'laws.FnExactStopsValid': WHATEVER THE INPUT: true; the input reads as it did. -/
def fnExactStopsValidSpec : ChangeSpec := { name := "fnExactStopsValid", fn := fun _ => fun
  | [d] => { results := [.lit (.bool true)], args := [d] }
  | _ => none }
def fnExactStopsValidRow : OpenClaim := { program := "ytnpignenikkmiaa", sum := "43c71508669734864e652e4f0bcc45225ec24abab23cbd54b4bdec7ebeee5dcf", func := "loop.example/elevators/laws.FnExactStopsValid", spec := "fnExactStopsValid", apart := false }
def FnExactStopsValidSaid : Prop := fnExactStopsValidRow.holds Try.pinned (OpenSpec.ofChange fnExactStopsValidSpec)

/-- ITS FALSE NEIGHBOUR: 'it returns false'. Refute it at one input. -/
def fnExactStopsValidWrong : ChangeSpec := { name := "fnExactStopsValid", fn := fun _ => fun
  | [d] => { results := [.lit (.bool false)], args := [d] }
  | _ => none }
def FnExactStopsValidWrongFalsely : Prop := fnExactStopsValidRow.holds Try.pinned (OpenSpec.ofChange fnExactStopsValidWrong)

/-- 'laws.FnExactPartsValid': WHATEVER THE INPUT: true; the input reads as it did. -/
def fnExactPartsValidSpec : ChangeSpec := { name := "fnExactPartsValid", fn := fun _ => fun
  | [d] => { results := [.lit (.bool true)], args := [d] }
  | _ => none }
def fnExactPartsValidRow : OpenClaim := { program := "ytnpignenikkmiaa", sum := "43c71508669734864e652e4f0bcc45225ec24abab23cbd54b4bdec7ebeee5dcf", func := "loop.example/elevators/laws.FnExactPartsValid", spec := "fnExactPartsValid", apart := false }
def FnExactPartsValidSaid : Prop := fnExactPartsValidRow.holds Try.pinned (OpenSpec.ofChange fnExactPartsValidSpec)

/-- ITS FALSE NEIGHBOUR: 'it returns false'. Refute it at one input. -/
def fnExactPartsValidWrong : ChangeSpec := { name := "fnExactPartsValid", fn := fun _ => fun
  | [d] => { results := [.lit (.bool false)], args := [d] }
  | _ => none }
def FnExactPartsValidWrongFalsely : Prop := fnExactPartsValidRow.holds Try.pinned (OpenSpec.ofChange fnExactPartsValidWrong)

/-- 'laws.FnExactLongestGap': WHATEVER THE INPUT: true; the input reads as it did. -/
def fnExactLongestGapSpec : ChangeSpec := { name := "fnExactLongestGap", fn := fun _ => fun
  | [d1, d2] => { results := [.lit (.bool true)], args := [d1, d2] }
  | _ => none }
def fnExactLongestGapRow : OpenClaim := { program := "ytnpignenikkmiaa", sum := "43c71508669734864e652e4f0bcc45225ec24abab23cbd54b4bdec7ebeee5dcf", func := "loop.example/elevators/laws.FnExactLongestGap", spec := "fnExactLongestGap", apart := false }
def FnExactLongestGapSaid : Prop := fnExactLongestGapRow.holds Try.pinned (OpenSpec.ofChange fnExactLongestGapSpec)

/-- ITS FALSE NEIGHBOUR: 'it returns false'. Refute it at one input. -/
def fnExactLongestGapWrong : ChangeSpec := { name := "fnExactLongestGap", fn := fun _ => fun
  | [d1, d2] => { results := [.lit (.bool false)], args := [d1, d2] }
  | _ => none }
def FnExactLongestGapWrongFalsely : Prop := fnExactLongestGapRow.holds Try.pinned (OpenSpec.ofChange fnExactLongestGapWrong)

/-- 'laws.FnStopsValid': WHATEVER THE INPUT: true; the input reads as it did. -/
def fnStopsValidSpec : ChangeSpec := { name := "fnStopsValid", fn := fun _ => fun
  | [d] => { results := [.lit (.bool true)], args := [d] }
  | _ => none }
def fnStopsValidRow : OpenClaim := { program := "ytnpignenikkmiaa", sum := "43c71508669734864e652e4f0bcc45225ec24abab23cbd54b4bdec7ebeee5dcf", func := "loop.example/elevators/laws.FnStopsValid", spec := "fnStopsValid", apart := false }
def FnStopsValidSaid : Prop := fnStopsValidRow.holds Try.pinned (OpenSpec.ofChange fnStopsValidSpec)

/-- ITS FALSE NEIGHBOUR: 'it returns false'. Refute it at one input. -/
def fnStopsValidWrong : ChangeSpec := { name := "fnStopsValid", fn := fun _ => fun
  | [d] => { results := [.lit (.bool false)], args := [d] }
  | _ => none }
def FnStopsValidWrongFalsely : Prop := fnStopsValidRow.holds Try.pinned (OpenSpec.ofChange fnStopsValidWrong)

/-- 'laws.FnPartsValid': WHATEVER THE INPUT: true; the input reads as it did. -/
def fnPartsValidSpec : ChangeSpec := { name := "fnPartsValid", fn := fun _ => fun
  | [d] => { results := [.lit (.bool true)], args := [d] }
  | _ => none }
def fnPartsValidRow : OpenClaim := { program := "ytnpignenikkmiaa", sum := "43c71508669734864e652e4f0bcc45225ec24abab23cbd54b4bdec7ebeee5dcf", func := "loop.example/elevators/laws.FnPartsValid", spec := "fnPartsValid", apart := false }
def FnPartsValidSaid : Prop := fnPartsValidRow.holds Try.pinned (OpenSpec.ofChange fnPartsValidSpec)

/-- ITS FALSE NEIGHBOUR: 'it returns false'. Refute it at one input. -/
def fnPartsValidWrong : ChangeSpec := { name := "fnPartsValid", fn := fun _ => fun
  | [d] => { results := [.lit (.bool false)], args := [d] }
  | _ => none }
def FnPartsValidWrongFalsely : Prop := fnPartsValidRow.holds Try.pinned (OpenSpec.ofChange fnPartsValidWrong)

/-- 'laws.FnExactFewestStops': WHATEVER THE INPUT: true; the input reads as it did. -/
def fnExactFewestStopsSpec : ChangeSpec := { name := "fnExactFewestStops", fn := fun _ => fun
  | [d1, d2] => { results := [.lit (.bool true)], args := [d1, d2] }
  | _ => none }
def fnExactFewestStopsRow : OpenClaim := { program := "ytnpignenikkmiaa", sum := "43c71508669734864e652e4f0bcc45225ec24abab23cbd54b4bdec7ebeee5dcf", func := "loop.example/elevators/laws.FnExactFewestStops", spec := "fnExactFewestStops", apart := false }
def FnExactFewestStopsSaid : Prop := fnExactFewestStopsRow.holds Try.pinned (OpenSpec.ofChange fnExactFewestStopsSpec)

/-- ITS FALSE NEIGHBOUR: 'it returns false'. Refute it at one input. -/
def fnExactFewestStopsWrong : ChangeSpec := { name := "fnExactFewestStops", fn := fun _ => fun
  | [d1, d2] => { results := [.lit (.bool false)], args := [d1, d2] }
  | _ => none }
def FnExactFewestStopsWrongFalsely : Prop := fnExactFewestStopsRow.holds Try.pinned (OpenSpec.ofChange fnExactFewestStopsWrong)

/-- 'laws.FnExactServiceOk': WHATEVER THE INPUT: true; the input reads as it did. -/
def fnExactServiceOkSpec : ChangeSpec := { name := "fnExactServiceOk", fn := fun _ => fun
  | [d1, d2, d3] => { results := [.lit (.bool true)], args := [d1, d2, d3] }
  | _ => none }
def fnExactServiceOkRow : OpenClaim := { program := "ytnpignenikkmiaa", sum := "43c71508669734864e652e4f0bcc45225ec24abab23cbd54b4bdec7ebeee5dcf", func := "loop.example/elevators/laws.FnExactServiceOk", spec := "fnExactServiceOk", apart := false }
def FnExactServiceOkSaid : Prop := fnExactServiceOkRow.holds Try.pinned (OpenSpec.ofChange fnExactServiceOkSpec)

/-- ITS FALSE NEIGHBOUR: 'it returns false'. Refute it at one input. -/
def fnExactServiceOkWrong : ChangeSpec := { name := "fnExactServiceOk", fn := fun _ => fun
  | [d1, d2, d3] => { results := [.lit (.bool false)], args := [d1, d2, d3] }
  | _ => none }
def FnExactServiceOkWrongFalsely : Prop := fnExactServiceOkRow.holds Try.pinned (OpenSpec.ofChange fnExactServiceOkWrong)

/-- 'laws.FnLongestGap': WHATEVER THE INPUT: true; the input reads as it did. -/
def fnLongestGapSpec : ChangeSpec := { name := "fnLongestGap", fn := fun _ => fun
  | [d] => { results := [.lit (.bool true)], args := [d] }
  | _ => none }
def fnLongestGapRow : OpenClaim := { program := "ytnpignenikkmiaa", sum := "43c71508669734864e652e4f0bcc45225ec24abab23cbd54b4bdec7ebeee5dcf", func := "loop.example/elevators/laws.FnLongestGap", spec := "fnLongestGap", apart := false }
def FnLongestGapSaid : Prop := fnLongestGapRow.holds Try.pinned (OpenSpec.ofChange fnLongestGapSpec)

/-- ITS FALSE NEIGHBOUR: 'it returns false'. Refute it at one input. -/
def fnLongestGapWrong : ChangeSpec := { name := "fnLongestGap", fn := fun _ => fun
  | [d] => { results := [.lit (.bool false)], args := [d] }
  | _ => none }
def FnLongestGapWrongFalsely : Prop := fnLongestGapRow.holds Try.pinned (OpenSpec.ofChange fnLongestGapWrong)

/-- 'laws.FnFewestStops': WHATEVER THE INPUT: true; the input reads as it did. -/
def fnFewestStopsSpec : ChangeSpec := { name := "fnFewestStops", fn := fun _ => fun
  | [d] => { results := [.lit (.bool true)], args := [d] }
  | _ => none }
def fnFewestStopsRow : OpenClaim := { program := "ytnpignenikkmiaa", sum := "43c71508669734864e652e4f0bcc45225ec24abab23cbd54b4bdec7ebeee5dcf", func := "loop.example/elevators/laws.FnFewestStops", spec := "fnFewestStops", apart := false }
def FnFewestStopsSaid : Prop := fnFewestStopsRow.holds Try.pinned (OpenSpec.ofChange fnFewestStopsSpec)

/-- ITS FALSE NEIGHBOUR: 'it returns false'. Refute it at one input. -/
def fnFewestStopsWrong : ChangeSpec := { name := "fnFewestStops", fn := fun _ => fun
  | [d] => { results := [.lit (.bool false)], args := [d] }
  | _ => none }
def FnFewestStopsWrongFalsely : Prop := fnFewestStopsRow.holds Try.pinned (OpenSpec.ofChange fnFewestStopsWrong)

/-- 'laws.FnServiceOk': WHATEVER THE INPUT: true; the input reads as it did. -/
def fnServiceOkSpec : ChangeSpec := { name := "fnServiceOk", fn := fun _ => fun
  | [d] => { results := [.lit (.bool true)], args := [d] }
  | _ => none }
def fnServiceOkRow : OpenClaim := { program := "ytnpignenikkmiaa", sum := "43c71508669734864e652e4f0bcc45225ec24abab23cbd54b4bdec7ebeee5dcf", func := "loop.example/elevators/laws.FnServiceOk", spec := "fnServiceOk", apart := false }
def FnServiceOkSaid : Prop := fnServiceOkRow.holds Try.pinned (OpenSpec.ofChange fnServiceOkSpec)

/-- ITS FALSE NEIGHBOUR: 'it returns false'. Refute it at one input. -/
def fnServiceOkWrong : ChangeSpec := { name := "fnServiceOk", fn := fun _ => fun
  | [d] => { results := [.lit (.bool false)], args := [d] }
  | _ => none }
def FnServiceOkWrongFalsely : Prop := fnServiceOkRow.holds Try.pinned (OpenSpec.ofChange fnServiceOkWrong)

/- THE SECOND FORM. 'bulk': how many values and letters a reading holds, each counted each time it is reached (what is shared counts as often as it is met; a slice's spare places count too). A statement '..UptoSaid' is the law's where the arguments, and the package variables that the reading takes, are together of bulk at most 1048576: NARROWER than '..Said'. Prove '..Said' where nothing that the law and all that it calls make is longer than what came in: it says more and counts as full. Else prove '..UptoSaid'. A law counts once. -/
mutual
def uptoBulk {H : Type} : DataW H → Nat
  | .lit (.string bytes) => bytes.length + 1
  | .lit _ => 1
  | .nil => 1
  | .ptr d => uptoBulk d + 1
  | .slice elems spare => uptoBulkAll elems + uptoBulkAll spare + 1
  | .agg parts => uptoBulkAll parts + 1
  | .iface _ d => uptoBulk d + 1
  | .map entries => uptoBulkEntries entries + 1
  | .held _ => 1
def uptoBulkAll {H : Type} : List (DataW H) → Nat
  | [] => 0
  | d :: r => uptoBulk d + uptoBulkAll r
def uptoBulkEntries {H : Type} : List (Lit × DataW H) → Nat
  | [] => 0
  | x :: r => uptoBulkEntry x + uptoBulkEntries r
def uptoBulkEntry {H : Type} : Lit × DataW H → Nat
  | (.string bytes, d) => bytes.length + uptoBulk d + 1
  | (_, d) => uptoBulk d + 1
 end
def uptoSmall : (H : Type) → List (DataW H) → Bool := fun _ ds => decide (uptoBulkAll ds ≤ 1048576)
def OpenSpec.upto (s : _root_.Go.ChangeSpec) : _root_.Go.OpenSpec := { _root_.Go.OpenSpec.ofChange s with cond := some uptoSmall }

/-- 'laws.FnExactStopsValid', WHERE WHAT IT READS IS OF BULK AT MOST 1048576: true; the input reads as it did. -/
def fnExactStopsValidUptoRow : OpenClaim := { program := "ytnpignenikkmiaa", sum := "43c71508669734864e652e4f0bcc45225ec24abab23cbd54b4bdec7ebeee5dcf", func := "loop.example/elevators/laws.FnExactStopsValid", spec := "fnExactStopsValid", apart := false, narrowed := true }
def FnExactStopsValidUptoSaid : Prop := fnExactStopsValidUptoRow.holds Try.pinned (OpenSpec.upto fnExactStopsValidSpec)

/-- 'laws.FnExactPartsValid', WHERE WHAT IT READS IS OF BULK AT MOST 1048576: true; the input reads as it did. -/
def fnExactPartsValidUptoRow : OpenClaim := { program := "ytnpignenikkmiaa", sum := "43c71508669734864e652e4f0bcc45225ec24abab23cbd54b4bdec7ebeee5dcf", func := "loop.example/elevators/laws.FnExactPartsValid", spec := "fnExactPartsValid", apart := false, narrowed := true }
def FnExactPartsValidUptoSaid : Prop := fnExactPartsValidUptoRow.holds Try.pinned (OpenSpec.upto fnExactPartsValidSpec)

/-- 'laws.FnExactLongestGap', WHERE WHAT IT READS IS OF BULK AT MOST 1048576: true; the input reads as it did. -/
def fnExactLongestGapUptoRow : OpenClaim := { program := "ytnpignenikkmiaa", sum := "43c71508669734864e652e4f0bcc45225ec24abab23cbd54b4bdec7ebeee5dcf", func := "loop.example/elevators/laws.FnExactLongestGap", spec := "fnExactLongestGap", apart := false, narrowed := true }
def FnExactLongestGapUptoSaid : Prop := fnExactLongestGapUptoRow.holds Try.pinned (OpenSpec.upto fnExactLongestGapSpec)

/-- 'laws.FnStopsValid', WHERE WHAT IT READS IS OF BULK AT MOST 1048576: true; the input reads as it did. -/
def fnStopsValidUptoRow : OpenClaim := { program := "ytnpignenikkmiaa", sum := "43c71508669734864e652e4f0bcc45225ec24abab23cbd54b4bdec7ebeee5dcf", func := "loop.example/elevators/laws.FnStopsValid", spec := "fnStopsValid", apart := false, narrowed := true }
def FnStopsValidUptoSaid : Prop := fnStopsValidUptoRow.holds Try.pinned (OpenSpec.upto fnStopsValidSpec)

/-- 'laws.FnPartsValid', WHERE WHAT IT READS IS OF BULK AT MOST 1048576: true; the input reads as it did. -/
def fnPartsValidUptoRow : OpenClaim := { program := "ytnpignenikkmiaa", sum := "43c71508669734864e652e4f0bcc45225ec24abab23cbd54b4bdec7ebeee5dcf", func := "loop.example/elevators/laws.FnPartsValid", spec := "fnPartsValid", apart := false, narrowed := true }
def FnPartsValidUptoSaid : Prop := fnPartsValidUptoRow.holds Try.pinned (OpenSpec.upto fnPartsValidSpec)

/-- 'laws.FnExactFewestStops', WHERE WHAT IT READS IS OF BULK AT MOST 1048576: true; the input reads as it did. -/
def fnExactFewestStopsUptoRow : OpenClaim := { program := "ytnpignenikkmiaa", sum := "43c71508669734864e652e4f0bcc45225ec24abab23cbd54b4bdec7ebeee5dcf", func := "loop.example/elevators/laws.FnExactFewestStops", spec := "fnExactFewestStops", apart := false, narrowed := true }
def FnExactFewestStopsUptoSaid : Prop := fnExactFewestStopsUptoRow.holds Try.pinned (OpenSpec.upto fnExactFewestStopsSpec)

/-- 'laws.FnExactServiceOk', WHERE WHAT IT READS IS OF BULK AT MOST 1048576: true; the input reads as it did. -/
def fnExactServiceOkUptoRow : OpenClaim := { program := "ytnpignenikkmiaa", sum := "43c71508669734864e652e4f0bcc45225ec24abab23cbd54b4bdec7ebeee5dcf", func := "loop.example/elevators/laws.FnExactServiceOk", spec := "fnExactServiceOk", apart := false, narrowed := true }
def FnExactServiceOkUptoSaid : Prop := fnExactServiceOkUptoRow.holds Try.pinned (OpenSpec.upto fnExactServiceOkSpec)

/-- 'laws.FnLongestGap', WHERE WHAT IT READS IS OF BULK AT MOST 1048576: true; the input reads as it did. -/
def fnLongestGapUptoRow : OpenClaim := { program := "ytnpignenikkmiaa", sum := "43c71508669734864e652e4f0bcc45225ec24abab23cbd54b4bdec7ebeee5dcf", func := "loop.example/elevators/laws.FnLongestGap", spec := "fnLongestGap", apart := false, narrowed := true }
def FnLongestGapUptoSaid : Prop := fnLongestGapUptoRow.holds Try.pinned (OpenSpec.upto fnLongestGapSpec)

/-- 'laws.FnFewestStops', WHERE WHAT IT READS IS OF BULK AT MOST 1048576: true; the input reads as it did. -/
def fnFewestStopsUptoRow : OpenClaim := { program := "ytnpignenikkmiaa", sum := "43c71508669734864e652e4f0bcc45225ec24abab23cbd54b4bdec7ebeee5dcf", func := "loop.example/elevators/laws.FnFewestStops", spec := "fnFewestStops", apart := false, narrowed := true }
def FnFewestStopsUptoSaid : Prop := fnFewestStopsUptoRow.holds Try.pinned (OpenSpec.upto fnFewestStopsSpec)

/-- 'laws.FnServiceOk', WHERE WHAT IT READS IS OF BULK AT MOST 1048576: true; the input reads as it did. -/
def fnServiceOkUptoRow : OpenClaim := { program := "ytnpignenikkmiaa", sum := "43c71508669734864e652e4f0bcc45225ec24abab23cbd54b4bdec7ebeee5dcf", func := "loop.example/elevators/laws.FnServiceOk", spec := "fnServiceOk", apart := false, narrowed := true }
def FnServiceOkUptoSaid : Prop := fnServiceOkUptoRow.holds Try.pinned (OpenSpec.upto fnServiceOkSpec)

end Rows
end Go.Proofs.Ytnpignenikkmiaa
