/-
  DERIVED. GIVEN WITH THE SEED: THE CARDS: each row of YtnaenhekjdmlaaaGreatDoorRows.lean that lists a variable, with what it lists TIED to the program's text (the seventh form; the later family's looks); each row that meets fmt, with fmt's text TOLD by the authors' own Lean function (tested against real Go, not proved from fmt's source: count such statements apart). THE CARD IS WHAT COUNTS. Prove the row's statement (the work); the ties are given (YtnaenhekjdmlaaaGreatDoorTie.lean); close each card by the builder's one call (the guide's Derived/Test/ToyasCard.lean, 'card_holds'). Laid BY PROGRAM, IN A SANDBOX (cutbox-door.mjs). By AI agents, Wed Nov 11 2026. No macro, syntax, notation, axiom, sorry.
-/
import Derived.Test.YtnaenhekjdmlaaaGreatDoorRows
import GoSem.ClaimSeven
namespace Go.Proofs.YtnaenhekjdmlaaaGreatDoor
namespace Rows

/-- THE TIED CARD OF 'seabaglaw22.FilterCuts'. -/
def filterCutsCard : Claim7 := { stood := { row := filterCutsRow, standIns := [], harness := (true, "a2734db5f795d42e65bf92663f6bd8d8fdc73f3f4a2db0dedb2d0ddaf93dd687"), looks := true }, kinds := [], alts := [], laidByText := true, laidKinds := [.data, .data, .data, .data, .sentinel, .sentinel, .listed, .data, .pinned, .pinned], laidTests := true, laidLooks := .later }
def FilterCutsCardSaid : Prop := Claim7.holds Tryz.pinned (.plain (OpenSpec.ofChange filterCutsSpec)) filterCutsCard

/-- THE TIED CARD OF 'seabaglaw22.FilterJoins'. -/
def filterJoinsCard : Claim7 := { stood := { row := filterJoinsRow, standIns := [], harness := (true, "a2734db5f795d42e65bf92663f6bd8d8fdc73f3f4a2db0dedb2d0ddaf93dd687"), looks := true }, kinds := [], alts := [], laidByText := true, laidKinds := [.data, .data, .data, .data, .sentinel, .sentinel, .listed, .data, .pinned, .pinned], laidTests := true, laidLooks := .later }
def FilterJoinsCardSaid : Prop := Claim7.holds Tryz.pinned (.plain (OpenSpec.ofChange filterJoinsSpec)) filterJoinsCard

/-- THE TIED CARD OF 'seabaglaw22.FilterNames'. -/
def filterNamesCard : Claim7 := { stood := { row := filterNamesRow, standIns := [], harness := (true, "a2734db5f795d42e65bf92663f6bd8d8fdc73f3f4a2db0dedb2d0ddaf93dd687"), looks := true }, kinds := [], alts := [], laidByText := true, laidKinds := [.data, .data, .data, .data, .sentinel, .sentinel, .listed, .data, .pinned, .pinned], laidTests := true, laidLooks := .later }
def FilterNamesCardSaid : Prop := Claim7.holds Tryz.pinned (.plain (OpenSpec.ofChange filterNamesSpec)) filterNamesCard

/-- THE TIED CARD OF 'seabaglaw23.ToolCopies'. -/
def toolCopiesCard : Claim7 := { stood := { row := toolCopiesRow, standIns := [], harness := (true, "a2734db5f795d42e65bf92663f6bd8d8fdc73f3f4a2db0dedb2d0ddaf93dd687"), looks := true }, kinds := [], alts := [], laidByText := true, laidKinds := [.data, .data, .data, .data, .sentinel, .sentinel, .pinned], laidTests := true, laidLooks := .later }
def ToolCopiesCardSaid : Prop := Claim7.holds Tryz.pinned (.plain (OpenSpec.ofChange toolCopiesSpec)) toolCopiesCard

/-- THE TIED CARD OF 'seabaglaw23.ToolModes'. -/
def toolModesCard : Claim7 := { stood := { row := toolModesRow, standIns := [], harness := (true, "a2734db5f795d42e65bf92663f6bd8d8fdc73f3f4a2db0dedb2d0ddaf93dd687"), looks := true }, kinds := [], alts := [], laidByText := true, laidKinds := [.data, .data, .data, .data, .sentinel, .sentinel, .pinned], laidTests := true, laidLooks := .later }
def ToolModesCardSaid : Prop := Claim7.holds Tryz.pinned (.plain (OpenSpec.ofChange toolModesSpec)) toolModesCard

/-- THE TIED CARD OF 'seabaglaw23.ToolNames'. -/
def toolNamesCard : Claim7 := { stood := { row := toolNamesRow, standIns := [], harness := (true, "a2734db5f795d42e65bf92663f6bd8d8fdc73f3f4a2db0dedb2d0ddaf93dd687"), looks := true }, kinds := [], alts := [], laidByText := true, laidKinds := [.data, .data, .data, .data, .sentinel, .sentinel, .pinned], laidTests := true, laidLooks := .later }
def ToolNamesCardSaid : Prop := Claim7.holds Tryz.pinned (.plain (OpenSpec.ofChange toolNamesSpec)) toolNamesCard

/-- THE SECOND FORM's CARD OF 'seabaglaw22.FilterCuts'. -/
def filterCutsUptoCard : Claim7 := { stood := { row := filterCutsUptoRow, standIns := [], harness := (true, "a2734db5f795d42e65bf92663f6bd8d8fdc73f3f4a2db0dedb2d0ddaf93dd687"), looks := true }, kinds := [], alts := [], laidByText := true, laidKinds := [.data, .data, .data, .data, .sentinel, .sentinel, .listed, .data, .pinned, .pinned], laidTests := true, laidLooks := .later }
def FilterCutsUptoCardSaid : Prop := Claim7.holds Tryz.pinned (.plain (OpenSpec.upto filterCutsSpec)) filterCutsUptoCard

/-- THE SECOND FORM's CARD OF 'seabaglaw22.FilterJoins'. -/
def filterJoinsUptoCard : Claim7 := { stood := { row := filterJoinsUptoRow, standIns := [], harness := (true, "a2734db5f795d42e65bf92663f6bd8d8fdc73f3f4a2db0dedb2d0ddaf93dd687"), looks := true }, kinds := [], alts := [], laidByText := true, laidKinds := [.data, .data, .data, .data, .sentinel, .sentinel, .listed, .data, .pinned, .pinned], laidTests := true, laidLooks := .later }
def FilterJoinsUptoCardSaid : Prop := Claim7.holds Tryz.pinned (.plain (OpenSpec.upto filterJoinsSpec)) filterJoinsUptoCard

/-- THE SECOND FORM's CARD OF 'seabaglaw22.FilterNames'. -/
def filterNamesUptoCard : Claim7 := { stood := { row := filterNamesUptoRow, standIns := [], harness := (true, "a2734db5f795d42e65bf92663f6bd8d8fdc73f3f4a2db0dedb2d0ddaf93dd687"), looks := true }, kinds := [], alts := [], laidByText := true, laidKinds := [.data, .data, .data, .data, .sentinel, .sentinel, .listed, .data, .pinned, .pinned], laidTests := true, laidLooks := .later }
def FilterNamesUptoCardSaid : Prop := Claim7.holds Tryz.pinned (.plain (OpenSpec.upto filterNamesSpec)) filterNamesUptoCard

/-- THE SECOND FORM's CARD OF 'seabaglaw23.ToolCopies'. -/
def toolCopiesUptoCard : Claim7 := { stood := { row := toolCopiesUptoRow, standIns := [], harness := (true, "a2734db5f795d42e65bf92663f6bd8d8fdc73f3f4a2db0dedb2d0ddaf93dd687"), looks := true }, kinds := [], alts := [], laidByText := true, laidKinds := [.data, .data, .data, .data, .sentinel, .sentinel, .pinned], laidTests := true, laidLooks := .later }
def ToolCopiesUptoCardSaid : Prop := Claim7.holds Tryz.pinned (.plain (OpenSpec.upto toolCopiesSpec)) toolCopiesUptoCard

/-- THE SECOND FORM's CARD OF 'seabaglaw23.ToolModes'. -/
def toolModesUptoCard : Claim7 := { stood := { row := toolModesUptoRow, standIns := [], harness := (true, "a2734db5f795d42e65bf92663f6bd8d8fdc73f3f4a2db0dedb2d0ddaf93dd687"), looks := true }, kinds := [], alts := [], laidByText := true, laidKinds := [.data, .data, .data, .data, .sentinel, .sentinel, .pinned], laidTests := true, laidLooks := .later }
def ToolModesUptoCardSaid : Prop := Claim7.holds Tryz.pinned (.plain (OpenSpec.upto toolModesSpec)) toolModesUptoCard

/-- THE SECOND FORM's CARD OF 'seabaglaw23.ToolNames'. -/
def toolNamesUptoCard : Claim7 := { stood := { row := toolNamesUptoRow, standIns := [], harness := (true, "a2734db5f795d42e65bf92663f6bd8d8fdc73f3f4a2db0dedb2d0ddaf93dd687"), looks := true }, kinds := [], alts := [], laidByText := true, laidKinds := [.data, .data, .data, .data, .sentinel, .sentinel, .pinned], laidTests := true, laidLooks := .later }
def ToolNamesUptoCardSaid : Prop := Claim7.holds Tryz.pinned (.plain (OpenSpec.upto toolNamesSpec)) toolNamesUptoCard
end Rows
end Go.Proofs.YtnaenhekjdmlaaaGreatDoor
