/-
  DERIVED. GIVEN WITH THE SEED: THE CARDS: each row of YtdecbpgojlhemaaGreatDoorRows.lean that lists a variable, with what it lists TIED to the program's text (the seventh form; the later family's looks); each row that meets fmt, with fmt's text TOLD by the authors' own Lean function (tested against real Go, not proved from fmt's source: count such statements apart). THE CARD IS WHAT COUNTS. Prove the row's statement (the work); the ties are given (YtdecbpgojlhemaaGreatDoorTie.lean); close each card by the builder's one call (the guide's Derived/Test/ToyasCard.lean, 'card_holds'). Laid BY PROGRAM, IN A SANDBOX (cutbox-door.mjs). By AI agents, Wed Nov 11 2026. No macro, syntax, notation, axiom, sorry.
-/
import Derived.Test.YtdecbpgojlhemaaGreatDoorRows
import GoSem.ClaimSeven
namespace Go.Proofs.YtdecbpgojlhemaaGreatDoor
namespace Rows

/-- THE TIED CARD OF 'seabaglaw22.FilterCuts'. -/
def filterCutsCard : Claim7 := { stood := { row := filterCutsRow, standIns := [], harness := (true, "b0f8de53d68a92c6db7582e97183c09e30811833842a989654f938375f66bb12"), looks := true }, kinds := [], alts := [], laidByText := true, laidKinds := [.data, .data, .data, .data, .sentinel, .sentinel, .listed, .data, .pinned, .pinned], laidTests := true, laidLooks := .later }
def FilterCutsCardSaid : Prop := Claim7.holds Tryz.pinned (.plain (OpenSpec.ofChange filterCutsSpec)) filterCutsCard

/-- THE TIED CARD OF 'seabaglaw22.FilterNames'. -/
def filterNamesCard : Claim7 := { stood := { row := filterNamesRow, standIns := [], harness := (true, "b0f8de53d68a92c6db7582e97183c09e30811833842a989654f938375f66bb12"), looks := true }, kinds := [], alts := [], laidByText := true, laidKinds := [.data, .data, .data, .data, .sentinel, .sentinel, .listed, .data, .pinned, .pinned], laidTests := true, laidLooks := .later }
def FilterNamesCardSaid : Prop := Claim7.holds Tryz.pinned (.plain (OpenSpec.ofChange filterNamesSpec)) filterNamesCard

/-- THE SECOND FORM's CARD OF 'seabaglaw22.FilterCuts'. -/
def filterCutsUptoCard : Claim7 := { stood := { row := filterCutsUptoRow, standIns := [], harness := (true, "b0f8de53d68a92c6db7582e97183c09e30811833842a989654f938375f66bb12"), looks := true }, kinds := [], alts := [], laidByText := true, laidKinds := [.data, .data, .data, .data, .sentinel, .sentinel, .listed, .data, .pinned, .pinned], laidTests := true, laidLooks := .later }
def FilterCutsUptoCardSaid : Prop := Claim7.holds Tryz.pinned (.plain (OpenSpec.upto filterCutsSpec)) filterCutsUptoCard

/-- THE SECOND FORM's CARD OF 'seabaglaw22.FilterNames'. -/
def filterNamesUptoCard : Claim7 := { stood := { row := filterNamesUptoRow, standIns := [], harness := (true, "b0f8de53d68a92c6db7582e97183c09e30811833842a989654f938375f66bb12"), looks := true }, kinds := [], alts := [], laidByText := true, laidKinds := [.data, .data, .data, .data, .sentinel, .sentinel, .listed, .data, .pinned, .pinned], laidTests := true, laidLooks := .later }
def FilterNamesUptoCardSaid : Prop := Claim7.holds Tryz.pinned (.plain (OpenSpec.upto filterNamesSpec)) filterNamesUptoCard
end Rows
end Go.Proofs.YtdecbpgojlhemaaGreatDoor
