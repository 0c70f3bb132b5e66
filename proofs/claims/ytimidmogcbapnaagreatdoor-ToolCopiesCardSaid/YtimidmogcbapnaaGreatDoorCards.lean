/-
  DERIVED. GIVEN WITH THE SEED: THE CARDS: each row of YtimidmogcbapnaaGreatDoorRows.lean that lists a variable, with what it lists TIED to the program's text (the seventh form; the later family's looks); each row that meets fmt, with fmt's text TOLD by the authors' own Lean function (tested against real Go, not proved from fmt's source: count such statements apart). THE CARD IS WHAT COUNTS. Prove the row's statement (the work); the ties are given (YtimidmogcbapnaaGreatDoorTie.lean); close each card by the builder's one call (the guide's Derived/Test/ToyasCard.lean, 'card_holds'). Laid BY PROGRAM, IN A SANDBOX (cutbox-door.mjs). By AI agents, Wed Nov 11 2026. No macro, syntax, notation, axiom, sorry.
-/
import Derived.Test.YtimidmogcbapnaaGreatDoorRows
import GoSem.ClaimSeven
namespace Go.Proofs.YtimidmogcbapnaaGreatDoor
namespace Rows

/-- THE TIED CARD OF 'seabaglaw23.ToolCopies'. -/
def toolCopiesCard : Claim7 := { stood := { row := toolCopiesRow, standIns := [], harness := (true, "73d40f07ae44054b7230760fb98c41351e683fb8b01032a95cf2bbf92f865190"), looks := true }, kinds := [], alts := [], laidByText := true, laidKinds := [.data, .data, .data, .data, .sentinel, .sentinel, .pinned], laidTests := true, laidLooks := .later }
def ToolCopiesCardSaid : Prop := Claim7.holds Tryz.pinned (.plain (OpenSpec.ofChange toolCopiesSpec)) toolCopiesCard

/-- THE TIED CARD OF 'seabaglaw23.ToolModes'. -/
def toolModesCard : Claim7 := { stood := { row := toolModesRow, standIns := [], harness := (true, "73d40f07ae44054b7230760fb98c41351e683fb8b01032a95cf2bbf92f865190"), looks := true }, kinds := [], alts := [], laidByText := true, laidKinds := [.data, .data, .data, .data, .sentinel, .sentinel, .pinned], laidTests := true, laidLooks := .later }
def ToolModesCardSaid : Prop := Claim7.holds Tryz.pinned (.plain (OpenSpec.ofChange toolModesSpec)) toolModesCard

/-- THE SECOND FORM's CARD OF 'seabaglaw23.ToolCopies'. -/
def toolCopiesUptoCard : Claim7 := { stood := { row := toolCopiesUptoRow, standIns := [], harness := (true, "73d40f07ae44054b7230760fb98c41351e683fb8b01032a95cf2bbf92f865190"), looks := true }, kinds := [], alts := [], laidByText := true, laidKinds := [.data, .data, .data, .data, .sentinel, .sentinel, .pinned], laidTests := true, laidLooks := .later }
def ToolCopiesUptoCardSaid : Prop := Claim7.holds Tryz.pinned (.plain (OpenSpec.upto toolCopiesSpec)) toolCopiesUptoCard

/-- THE SECOND FORM's CARD OF 'seabaglaw23.ToolModes'. -/
def toolModesUptoCard : Claim7 := { stood := { row := toolModesUptoRow, standIns := [], harness := (true, "73d40f07ae44054b7230760fb98c41351e683fb8b01032a95cf2bbf92f865190"), looks := true }, kinds := [], alts := [], laidByText := true, laidKinds := [.data, .data, .data, .data, .sentinel, .sentinel, .pinned], laidTests := true, laidLooks := .later }
def ToolModesUptoCardSaid : Prop := Claim7.holds Tryz.pinned (.plain (OpenSpec.upto toolModesSpec)) toolModesUptoCard
end Rows
end Go.Proofs.YtimidmogcbapnaaGreatDoor
