/-
  DERIVED. GIVEN WITH THE SEED: THE CARDS: each row of YtkdfgkbojbdelaaGreatDoorRows.lean that lists a variable, with what it lists TIED to the program's text (the seventh form; the later family's looks); each row that meets fmt, with fmt's text TOLD by the authors' own Lean function (tested against real Go, not proved from fmt's source: count such statements apart). THE CARD IS WHAT COUNTS. Prove the row's statement (the work); the ties are given (YtkdfgkbojbdelaaGreatDoorTie.lean); close each card by the builder's one call (the guide's Derived/Test/ToyasCard.lean, 'card_holds'). Laid BY PROGRAM, IN A SANDBOX (cutbox-door.mjs). By AI agents, Wed Nov 11 2026. No macro, syntax, notation, axiom, sorry.
-/
import Derived.Test.YtkdfgkbojbdelaaGreatDoorRows
import GoSem.ClaimSeven
namespace Go.Proofs.YtkdfgkbojbdelaaGreatDoor
namespace Rows

/-- THE TIED CARD OF 'seabaglaw22.FilterCuts'. -/
def filterCutsCard : Claim7 := { stood := { row := filterCutsRow, standIns := [], harness := (true, "3020372a6f4b3ea22705fdd5902b3632aa12aaa54db39c93efa46396ab05d709"), looks := true }, kinds := [], alts := [], laidByText := true, laidKinds := [.data, .data, .data, .data, .sentinel, .sentinel, .listed, .data, .pinned, .pinned], laidTests := true, laidLooks := .later }
def FilterCutsCardSaid : Prop := Claim7.holds Tryz.pinned (.plain (OpenSpec.ofChange filterCutsSpec)) filterCutsCard

/-- THE TIED CARD OF 'seabaglaw22.FilterJoins'. -/
def filterJoinsCard : Claim7 := { stood := { row := filterJoinsRow, standIns := [], harness := (true, "3020372a6f4b3ea22705fdd5902b3632aa12aaa54db39c93efa46396ab05d709"), looks := true }, kinds := [], alts := [], laidByText := true, laidKinds := [.data, .data, .data, .data, .sentinel, .sentinel, .listed, .data, .pinned, .pinned], laidTests := true, laidLooks := .later }
def FilterJoinsCardSaid : Prop := Claim7.holds Tryz.pinned (.plain (OpenSpec.ofChange filterJoinsSpec)) filterJoinsCard

/-- THE SECOND FORM's CARD OF 'seabaglaw22.FilterCuts'. -/
def filterCutsUptoCard : Claim7 := { stood := { row := filterCutsUptoRow, standIns := [], harness := (true, "3020372a6f4b3ea22705fdd5902b3632aa12aaa54db39c93efa46396ab05d709"), looks := true }, kinds := [], alts := [], laidByText := true, laidKinds := [.data, .data, .data, .data, .sentinel, .sentinel, .listed, .data, .pinned, .pinned], laidTests := true, laidLooks := .later }
def FilterCutsUptoCardSaid : Prop := Claim7.holds Tryz.pinned (.plain (OpenSpec.upto filterCutsSpec)) filterCutsUptoCard

/-- THE SECOND FORM's CARD OF 'seabaglaw22.FilterJoins'. -/
def filterJoinsUptoCard : Claim7 := { stood := { row := filterJoinsUptoRow, standIns := [], harness := (true, "3020372a6f4b3ea22705fdd5902b3632aa12aaa54db39c93efa46396ab05d709"), looks := true }, kinds := [], alts := [], laidByText := true, laidKinds := [.data, .data, .data, .data, .sentinel, .sentinel, .listed, .data, .pinned, .pinned], laidTests := true, laidLooks := .later }
def FilterJoinsUptoCardSaid : Prop := Claim7.holds Tryz.pinned (.plain (OpenSpec.upto filterJoinsSpec)) filterJoinsUptoCard
end Rows
end Go.Proofs.YtkdfgkbojbdelaaGreatDoor
