/-
  DERIVED. GIVEN WITH THE SEED: THE CARDS: each row of YthkpikkjgggimaaGreatDoorRows.lean that lists a variable, with what it lists TIED to the program's text (the seventh form; the later family's looks); each row that meets fmt, with fmt's text TOLD by the authors' own Lean function (tested against real Go, not proved from fmt's source: count such statements apart). THE CARD IS WHAT COUNTS. Prove the row's statement (the work); the ties are given (YthkpikkjgggimaaGreatDoorTie.lean); close each card by the builder's one call (the guide's Derived/Test/ToyasCard.lean, 'card_holds'). Laid BY PROGRAM, IN A SANDBOX (cutbox-door.mjs). By AI agents, Wed Nov 11 2026. No macro, syntax, notation, axiom, sorry.
-/
import Derived.Test.YthkpikkjgggimaaGreatDoorRows
import GoSem.ClaimSeven
namespace Go.Proofs.YthkpikkjgggimaaGreatDoor
namespace Rows

/-- THE TIED CARD OF 'laws.FnBuildLines'. -/
def fnBuildLinesCard : Claim7 := { stood := { row := fnBuildLinesRow, standIns := [], harness := (true, "a7cac83f41c0d56a6f58d87017ad99e4f8efddd4b05fcbe01ab02f7d0fe4ec3c"), looks := false }, kinds := [], alts := [], laidByText := true, laidKinds := [.data, .data, .data], laidTests := true, laidLooks := .later }
def FnBuildLinesCardSaid : Prop := Claim7.holds Tryz.pinned (.plain (OpenSpec.ofChange fnBuildLinesSpec)) fnBuildLinesCard

/-- THE TIED CARD OF 'laws.FnExactBuildLine'. -/
def fnExactBuildLineCard : Claim7 := { stood := { row := fnExactBuildLineRow, standIns := [], harness := (true, "a7cac83f41c0d56a6f58d87017ad99e4f8efddd4b05fcbe01ab02f7d0fe4ec3c"), looks := false }, kinds := [], alts := [], laidByText := true, laidKinds := [.data, .data, .data], laidTests := true, laidLooks := .later }
def FnExactBuildLineCardSaid : Prop := Claim7.holds Tryz.pinned (.plain (OpenSpec.ofChange fnExactBuildLineSpec)) fnExactBuildLineCard

/-- THE TIED CARD OF 'laws.FnExactBuildLines'. -/
def fnExactBuildLinesCard : Claim7 := { stood := { row := fnExactBuildLinesRow, standIns := [], harness := (true, "a7cac83f41c0d56a6f58d87017ad99e4f8efddd4b05fcbe01ab02f7d0fe4ec3c"), looks := false }, kinds := [], alts := [], laidByText := true, laidKinds := [.data, .data, .data], laidTests := true, laidLooks := .later }
def FnExactBuildLinesCardSaid : Prop := Claim7.holds Tryz.pinned (.plain (OpenSpec.ofChange fnExactBuildLinesSpec)) fnExactBuildLinesCard

/-- THE TIED CARD OF 'laws.FnBuildLine'. -/
def fnBuildLineCard : Claim7 := { stood := { row := fnBuildLineRow, standIns := [], harness := (true, "a7cac83f41c0d56a6f58d87017ad99e4f8efddd4b05fcbe01ab02f7d0fe4ec3c"), looks := false }, kinds := [], alts := [], laidByText := true, laidKinds := [.data, .data, .data], laidTests := true, laidLooks := .later }
def FnBuildLineCardSaid : Prop := Claim7.holds Tryz.pinned (.plain (OpenSpec.ofChange fnBuildLineSpec)) fnBuildLineCard

/-- THE SECOND FORM's CARD OF 'laws.FnBuildLines'. -/
def fnBuildLinesUptoCard : Claim7 := { stood := { row := fnBuildLinesUptoRow, standIns := [], harness := (true, "a7cac83f41c0d56a6f58d87017ad99e4f8efddd4b05fcbe01ab02f7d0fe4ec3c"), looks := false }, kinds := [], alts := [], laidByText := true, laidKinds := [.data, .data, .data], laidTests := true, laidLooks := .later }
def FnBuildLinesUptoCardSaid : Prop := Claim7.holds Tryz.pinned (.plain (OpenSpec.upto fnBuildLinesSpec)) fnBuildLinesUptoCard

/-- THE SECOND FORM's CARD OF 'laws.FnExactBuildLine'. -/
def fnExactBuildLineUptoCard : Claim7 := { stood := { row := fnExactBuildLineUptoRow, standIns := [], harness := (true, "a7cac83f41c0d56a6f58d87017ad99e4f8efddd4b05fcbe01ab02f7d0fe4ec3c"), looks := false }, kinds := [], alts := [], laidByText := true, laidKinds := [.data, .data, .data], laidTests := true, laidLooks := .later }
def FnExactBuildLineUptoCardSaid : Prop := Claim7.holds Tryz.pinned (.plain (OpenSpec.upto fnExactBuildLineSpec)) fnExactBuildLineUptoCard

/-- THE SECOND FORM's CARD OF 'laws.FnExactBuildLines'. -/
def fnExactBuildLinesUptoCard : Claim7 := { stood := { row := fnExactBuildLinesUptoRow, standIns := [], harness := (true, "a7cac83f41c0d56a6f58d87017ad99e4f8efddd4b05fcbe01ab02f7d0fe4ec3c"), looks := false }, kinds := [], alts := [], laidByText := true, laidKinds := [.data, .data, .data], laidTests := true, laidLooks := .later }
def FnExactBuildLinesUptoCardSaid : Prop := Claim7.holds Tryz.pinned (.plain (OpenSpec.upto fnExactBuildLinesSpec)) fnExactBuildLinesUptoCard

/-- THE SECOND FORM's CARD OF 'laws.FnBuildLine'. -/
def fnBuildLineUptoCard : Claim7 := { stood := { row := fnBuildLineUptoRow, standIns := [], harness := (true, "a7cac83f41c0d56a6f58d87017ad99e4f8efddd4b05fcbe01ab02f7d0fe4ec3c"), looks := false }, kinds := [], alts := [], laidByText := true, laidKinds := [.data, .data, .data], laidTests := true, laidLooks := .later }
def FnBuildLineUptoCardSaid : Prop := Claim7.holds Tryz.pinned (.plain (OpenSpec.upto fnBuildLineSpec)) fnBuildLineUptoCard
end Rows
end Go.Proofs.YthkpikkjgggimaaGreatDoor
