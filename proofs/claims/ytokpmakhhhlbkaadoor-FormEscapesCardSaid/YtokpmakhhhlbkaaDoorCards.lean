/-
  DERIVED. GIVEN WITH THE SEED: THE CARDS: each row of YtokpmakhhhlbkaaDoorRows.lean that lists a variable, with what it lists TIED to the program's text (the seventh form; the later family's looks); each row that meets fmt, with fmt's text TOLD by the authors' own Lean function (tested against real Go, not proved from fmt's source: count such statements apart). THE CARD IS WHAT COUNTS. Prove the row's statement (the work); the ties are given (YtokpmakhhhlbkaaDoorTie.lean); close each card by the builder's one call (the guide's Derived/Test/ToyasCard.lean, 'card_holds'). Laid BY PROGRAM, IN A SANDBOX (cutbox-door.mjs). By AI agents, Wed Nov 11 2026. No macro, syntax, notation, axiom, sorry.
-/
import Derived.Test.YtokpmakhhhlbkaaDoorRows
import GoSem.ClaimSeven
namespace Go.Proofs.YtokpmakhhhlbkaaDoor
namespace Rows

/-- THE TIED CARD OF 'seabaglaw10.FormWidths'. -/
def formWidthsCard : Claim7 := { stood := { row := formWidthsRow, standIns := [], harness := (true, "cbf0abb0074f82cd15cc09b528b9fb422ec6f19333a6c0d32522b20393b025f6"), looks := true }, kinds := [], alts := [], laidByText := true, laidKinds := [.data, .data, .data, .data, .sentinel, .sentinel, .pinned, .pinned], laidTests := true, laidLooks := .later }
def FormWidthsCardSaid : Prop := Claim7.holds Tryd.pinned (.plain (OpenSpec.ofChange formWidthsSpec)) formWidthsCard

/-- THE TIED CARD OF 'seabaglaw10.FormTexts'. -/
def formTextsCard : Claim7 := { stood := { row := formTextsRow, standIns := [], harness := (true, "cbf0abb0074f82cd15cc09b528b9fb422ec6f19333a6c0d32522b20393b025f6"), looks := true }, kinds := [], alts := [], laidByText := true, laidKinds := [.data, .data, .data, .data, .sentinel, .sentinel, .pinned, .pinned], laidTests := true, laidLooks := .later }
def FormTextsCardSaid : Prop := Claim7.holds Tryd.pinned (.plain (OpenSpec.ofChange formTextsSpec)) formTextsCard

/-- THE TIED CARD OF 'seabaglaw10.FormEscapes'. -/
def formEscapesCard : Claim7 := { stood := { row := formEscapesRow, standIns := [], harness := (true, "cbf0abb0074f82cd15cc09b528b9fb422ec6f19333a6c0d32522b20393b025f6"), looks := true }, kinds := [], alts := [], laidByText := true, laidKinds := [.data, .data, .data, .data, .sentinel, .sentinel, .pinned, .pinned], laidTests := true, laidLooks := .later }
def FormEscapesCardSaid : Prop := Claim7.holds Tryd.pinned (.plain (OpenSpec.ofChange formEscapesSpec)) formEscapesCard

/-- THE SECOND FORM's CARD OF 'seabaglaw10.FormWidths'. -/
def formWidthsUptoCard : Claim7 := { stood := { row := formWidthsUptoRow, standIns := [], harness := (true, "cbf0abb0074f82cd15cc09b528b9fb422ec6f19333a6c0d32522b20393b025f6"), looks := true }, kinds := [], alts := [], laidByText := true, laidKinds := [.data, .data, .data, .data, .sentinel, .sentinel, .pinned, .pinned], laidTests := true, laidLooks := .later }
def FormWidthsUptoCardSaid : Prop := Claim7.holds Tryd.pinned (.plain (OpenSpec.upto formWidthsSpec)) formWidthsUptoCard

/-- THE SECOND FORM's CARD OF 'seabaglaw10.FormTexts'. -/
def formTextsUptoCard : Claim7 := { stood := { row := formTextsUptoRow, standIns := [], harness := (true, "cbf0abb0074f82cd15cc09b528b9fb422ec6f19333a6c0d32522b20393b025f6"), looks := true }, kinds := [], alts := [], laidByText := true, laidKinds := [.data, .data, .data, .data, .sentinel, .sentinel, .pinned, .pinned], laidTests := true, laidLooks := .later }
def FormTextsUptoCardSaid : Prop := Claim7.holds Tryd.pinned (.plain (OpenSpec.upto formTextsSpec)) formTextsUptoCard

/-- THE SECOND FORM's CARD OF 'seabaglaw10.FormEscapes'. -/
def formEscapesUptoCard : Claim7 := { stood := { row := formEscapesUptoRow, standIns := [], harness := (true, "cbf0abb0074f82cd15cc09b528b9fb422ec6f19333a6c0d32522b20393b025f6"), looks := true }, kinds := [], alts := [], laidByText := true, laidKinds := [.data, .data, .data, .data, .sentinel, .sentinel, .pinned, .pinned], laidTests := true, laidLooks := .later }
def FormEscapesUptoCardSaid : Prop := Claim7.holds Tryd.pinned (.plain (OpenSpec.upto formEscapesSpec)) formEscapesUptoCard
end Rows
end Go.Proofs.YtokpmakhhhlbkaaDoor
