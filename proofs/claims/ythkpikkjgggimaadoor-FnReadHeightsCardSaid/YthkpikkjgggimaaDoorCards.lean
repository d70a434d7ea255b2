/-
  DERIVED. GIVEN WITH THE SEED: THE CARDS: each row of YthkpikkjgggimaaDoorRows.lean that lists a variable, with what it lists TIED to the program's text (the seventh form; the later family's looks); each row that meets fmt, with fmt's text TOLD by the authors' own Lean function (tested against real Go, not proved from fmt's source: count such statements apart). THE CARD IS WHAT COUNTS. Prove the row's statement (the work); the ties are given (YthkpikkjgggimaaDoorTie.lean); close each card by the builder's one call (the guide's Derived/Test/ToyasCard.lean, 'card_holds'). Laid BY PROGRAM, IN A SANDBOX (cutbox-door.mjs). By AI agents, Wed Nov 11 2026. No macro, syntax, notation, axiom, sorry.
-/
import Derived.Test.YthkpikkjgggimaaDoorRows
import GoSem.ClaimSeven
namespace Go.Proofs.YthkpikkjgggimaaDoor
namespace Rows

/-- THE TIED CARD OF 'laws.FnExactHeightsText'. -/
def fnExactHeightsTextCard : Claim7 := { stood := { row := fnExactHeightsTextRow, standIns := [], harness := (true, "327b6ba13f934da222084a38f62c094cc74e5e323f54f2bae710f3a40a874640"), looks := false }, kinds := [], alts := [], laidByText := true, laidKinds := [.data, .data, .data], laidTests := true, laidLooks := .later }
def FnExactHeightsTextCardSaid : Prop := Claim7.holds Tryd.pinned (.plain (OpenSpec.ofChange fnExactHeightsTextSpec)) fnExactHeightsTextCard

/-- THE TIED CARD OF 'laws.FnExactReadHeights'. -/
def fnExactReadHeightsCard : Claim7 := { stood := { row := fnExactReadHeightsRow, standIns := [], harness := (true, "327b6ba13f934da222084a38f62c094cc74e5e323f54f2bae710f3a40a874640"), looks := false }, kinds := [], alts := [], laidByText := true, laidKinds := [.data, .pinned], laidTests := true, laidLooks := .later }
def FnExactReadHeightsCardSaid : Prop := Claim7.holds Tryd.pinned (.plain (OpenSpec.ofChange fnExactReadHeightsSpec)) fnExactReadHeightsCard

/-- THE TIED CARD OF 'laws.FnHeightsText'. -/
def fnHeightsTextCard : Claim7 := { stood := { row := fnHeightsTextRow, standIns := [], harness := (true, "327b6ba13f934da222084a38f62c094cc74e5e323f54f2bae710f3a40a874640"), looks := false }, kinds := [], alts := [], laidByText := true, laidKinds := [.data, .data, .data, .data, .pinned], laidTests := true, laidLooks := .later }
def FnHeightsTextCardSaid : Prop := Claim7.holds Tryd.pinned (.plain (OpenSpec.ofChange fnHeightsTextSpec)) fnHeightsTextCard

/-- THE TIED CARD OF 'laws.FnReadHeights'. -/
def fnReadHeightsCard : Claim7 := { stood := { row := fnReadHeightsRow, standIns := [], harness := (true, "327b6ba13f934da222084a38f62c094cc74e5e323f54f2bae710f3a40a874640"), looks := false }, kinds := [], alts := [], laidByText := true, laidKinds := [.data, .data, .data, .data, .pinned], laidTests := true, laidLooks := .later }
def FnReadHeightsCardSaid : Prop := Claim7.holds Tryd.pinned (.plain (OpenSpec.ofChange fnReadHeightsSpec)) fnReadHeightsCard

/-- THE SECOND FORM's CARD OF 'laws.FnExactHeightsText'. -/
def fnExactHeightsTextUptoCard : Claim7 := { stood := { row := fnExactHeightsTextUptoRow, standIns := [], harness := (true, "327b6ba13f934da222084a38f62c094cc74e5e323f54f2bae710f3a40a874640"), looks := false }, kinds := [], alts := [], laidByText := true, laidKinds := [.data, .data, .data], laidTests := true, laidLooks := .later }
def FnExactHeightsTextUptoCardSaid : Prop := Claim7.holds Tryd.pinned (.plain (OpenSpec.upto fnExactHeightsTextSpec)) fnExactHeightsTextUptoCard

/-- THE SECOND FORM's CARD OF 'laws.FnExactReadHeights'. -/
def fnExactReadHeightsUptoCard : Claim7 := { stood := { row := fnExactReadHeightsUptoRow, standIns := [], harness := (true, "327b6ba13f934da222084a38f62c094cc74e5e323f54f2bae710f3a40a874640"), looks := false }, kinds := [], alts := [], laidByText := true, laidKinds := [.data, .pinned], laidTests := true, laidLooks := .later }
def FnExactReadHeightsUptoCardSaid : Prop := Claim7.holds Tryd.pinned (.plain (OpenSpec.upto fnExactReadHeightsSpec)) fnExactReadHeightsUptoCard

/-- THE SECOND FORM's CARD OF 'laws.FnHeightsText'. -/
def fnHeightsTextUptoCard : Claim7 := { stood := { row := fnHeightsTextUptoRow, standIns := [], harness := (true, "327b6ba13f934da222084a38f62c094cc74e5e323f54f2bae710f3a40a874640"), looks := false }, kinds := [], alts := [], laidByText := true, laidKinds := [.data, .data, .data, .data, .pinned], laidTests := true, laidLooks := .later }
def FnHeightsTextUptoCardSaid : Prop := Claim7.holds Tryd.pinned (.plain (OpenSpec.upto fnHeightsTextSpec)) fnHeightsTextUptoCard

/-- THE SECOND FORM's CARD OF 'laws.FnReadHeights'. -/
def fnReadHeightsUptoCard : Claim7 := { stood := { row := fnReadHeightsUptoRow, standIns := [], harness := (true, "327b6ba13f934da222084a38f62c094cc74e5e323f54f2bae710f3a40a874640"), looks := false }, kinds := [], alts := [], laidByText := true, laidKinds := [.data, .data, .data, .data, .pinned], laidTests := true, laidLooks := .later }
def FnReadHeightsUptoCardSaid : Prop := Claim7.holds Tryd.pinned (.plain (OpenSpec.upto fnReadHeightsSpec)) fnReadHeightsUptoCard
end Rows
end Go.Proofs.YthkpikkjgggimaaDoor
