/-
  DERIVED. GIVEN WITH THE SEED: THE CARDS: each row of YtnanhmfpikddkaaGreatDoorRows.lean that lists a variable, with what it lists TIED to the program's text (the seventh form; the later family's looks); each row that meets fmt, with fmt's text TOLD by the authors' own Lean function (tested against real Go, not proved from fmt's source: count such statements apart). THE CARD IS WHAT COUNTS. Prove the row's statement (the work); the ties are given (YtnanhmfpikddkaaGreatDoorTie.lean); close each card by the builder's one call (the guide's Derived/Test/ToyasCard.lean, 'card_holds'). Laid BY PROGRAM, IN A SANDBOX (cutbox-door.mjs). By AI agents, Wed Nov 11 2026. No macro, syntax, notation, axiom, sorry.
-/
import Derived.Test.YtnanhmfpikddkaaGreatDoorRows
import GoSem.ClaimSeven
namespace Go.Proofs.YtnanhmfpikddkaaGreatDoor
namespace Rows

/-- THE TIED CARD OF 'seabaglaw06.FilesPlay'. -/
def filesPlayCard : Claim7 := { stood := { row := filesPlayRow, standIns := [], harness := (true, "dfdfaf8897ad3071f78814b379ead503304721f0040dde86f2298e10cbab3403"), looks := false }, kinds := [], alts := [], laidByText := true, laidKinds := [.data, .pinned], laidTests := true, laidLooks := .later }
def FilesPlayCardSaid : Prop := Claim7.holds Tryz.pinned (.plain (OpenSpec.ofChange filesPlaySpec)) filesPlayCard

/-- THE TIED CARD OF 'seabaglaw06.FilesAsk'. -/
def filesAskCard : Claim7 := { stood := { row := filesAskRow, standIns := [], harness := (true, "dfdfaf8897ad3071f78814b379ead503304721f0040dde86f2298e10cbab3403"), looks := false }, kinds := [], alts := [], laidByText := true, laidKinds := [.data, .pinned], laidTests := true, laidLooks := .later }
def FilesAskCardSaid : Prop := Claim7.holds Tryz.pinned (.plain (OpenSpec.ofChange filesAskSpec)) filesAskCard

/-- THE SECOND FORM's CARD OF 'seabaglaw06.FilesPlay'. -/
def filesPlayUptoCard : Claim7 := { stood := { row := filesPlayUptoRow, standIns := [], harness := (true, "dfdfaf8897ad3071f78814b379ead503304721f0040dde86f2298e10cbab3403"), looks := false }, kinds := [], alts := [], laidByText := true, laidKinds := [.data, .pinned], laidTests := true, laidLooks := .later }
def FilesPlayUptoCardSaid : Prop := Claim7.holds Tryz.pinned (.plain (OpenSpec.upto filesPlaySpec)) filesPlayUptoCard

/-- THE SECOND FORM's CARD OF 'seabaglaw06.FilesAsk'. -/
def filesAskUptoCard : Claim7 := { stood := { row := filesAskUptoRow, standIns := [], harness := (true, "dfdfaf8897ad3071f78814b379ead503304721f0040dde86f2298e10cbab3403"), looks := false }, kinds := [], alts := [], laidByText := true, laidKinds := [.data, .pinned], laidTests := true, laidLooks := .later }
def FilesAskUptoCardSaid : Prop := Claim7.holds Tryz.pinned (.plain (OpenSpec.upto filesAskSpec)) filesAskUptoCard
end Rows
end Go.Proofs.YtnanhmfpikddkaaGreatDoor
