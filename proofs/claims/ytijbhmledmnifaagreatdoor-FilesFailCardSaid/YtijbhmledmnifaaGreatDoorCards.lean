/-
  DERIVED. GIVEN WITH THE SEED: THE CARDS: each row of YtijbhmledmnifaaGreatDoorRows.lean that lists a variable, with what it lists TIED to the program's text (the seventh form; the later family's looks); each row that meets fmt, with fmt's text TOLD by the authors' own Lean function (tested against real Go, not proved from fmt's source: count such statements apart). THE CARD IS WHAT COUNTS. Prove the row's statement (the work); the ties are given (YtijbhmledmnifaaGreatDoorTie.lean); close each card by the builder's one call (the guide's Derived/Test/ToyasCard.lean, 'card_holds'). Laid BY PROGRAM, IN A SANDBOX (cutbox-door.mjs). By AI agents, Wed Nov 11 2026. No macro, syntax, notation, axiom, sorry.
-/
import Derived.Test.YtijbhmledmnifaaGreatDoorRows
import GoSem.ClaimSeven
namespace Go.Proofs.YtijbhmledmnifaaGreatDoor
namespace Rows

/-- THE TIED CARD OF 'seabaglaw21.GlobFiles'. -/
def globFilesCard : Claim7 := { stood := { row := globFilesRow, standIns := [], harness := (true, "20045644142372bf373002311dd22bfd6122434c30e2f7127b131ea3c1b41539"), looks := false }, kinds := [], alts := [], laidByText := true, laidKinds := [.data, .pinned], laidTests := true, laidLooks := .later }
def GlobFilesCardSaid : Prop := Claim7.holds Tryz.pinned (.plain (OpenSpec.ofChange globFilesSpec)) globFilesCard

/-- THE TIED CARD OF 'seabaglaw06.FilesFail'. -/
def filesFailCard : Claim7 := { stood := { row := filesFailRow, standIns := [], harness := (true, "20045644142372bf373002311dd22bfd6122434c30e2f7127b131ea3c1b41539"), looks := false }, kinds := [], alts := [], laidByText := true, laidKinds := [.data, .pinned], laidTests := true, laidLooks := .later }
def FilesFailCardSaid : Prop := Claim7.holds Tryz.pinned (.plain (OpenSpec.ofChange filesFailSpec)) filesFailCard

/-- THE TIED CARD OF 'seabaglaw06.FilesPlay'. -/
def filesPlayCard : Claim7 := { stood := { row := filesPlayRow, standIns := [], harness := (true, "20045644142372bf373002311dd22bfd6122434c30e2f7127b131ea3c1b41539"), looks := false }, kinds := [], alts := [], laidByText := true, laidKinds := [.data, .pinned], laidTests := true, laidLooks := .later }
def FilesPlayCardSaid : Prop := Claim7.holds Tryz.pinned (.plain (OpenSpec.ofChange filesPlaySpec)) filesPlayCard

/-- THE TIED CARD OF 'seabaglaw06.FilesAsk'. -/
def filesAskCard : Claim7 := { stood := { row := filesAskRow, standIns := [], harness := (true, "20045644142372bf373002311dd22bfd6122434c30e2f7127b131ea3c1b41539"), looks := false }, kinds := [], alts := [], laidByText := true, laidKinds := [.data, .pinned], laidTests := true, laidLooks := .later }
def FilesAskCardSaid : Prop := Claim7.holds Tryz.pinned (.plain (OpenSpec.ofChange filesAskSpec)) filesAskCard

/-- THE TIED CARD OF 'seabaglaw07.FdPlays'. -/
def fdPlaysCard : Claim7 := { stood := { row := fdPlaysRow, standIns := [], harness := (true, "20045644142372bf373002311dd22bfd6122434c30e2f7127b131ea3c1b41539"), looks := false }, kinds := [], alts := [], laidByText := true, laidKinds := [.data, .pinned], laidTests := true, laidLooks := .later }
def FdPlaysCardSaid : Prop := Claim7.holds Tryz.pinned (.plain (OpenSpec.ofChange fdPlaysSpec)) fdPlaysCard

/-- THE TIED CARD OF 'seabaglaw07.FdShuts'. -/
def fdShutsCard : Claim7 := { stood := { row := fdShutsRow, standIns := [], harness := (true, "20045644142372bf373002311dd22bfd6122434c30e2f7127b131ea3c1b41539"), looks := false }, kinds := [], alts := [], laidByText := true, laidKinds := [.data, .pinned], laidTests := true, laidLooks := .later }
def FdShutsCardSaid : Prop := Claim7.holds Tryz.pinned (.plain (OpenSpec.ofChange fdShutsSpec)) fdShutsCard

/-- THE SECOND FORM's CARD OF 'seabaglaw21.GlobFiles'. -/
def globFilesUptoCard : Claim7 := { stood := { row := globFilesUptoRow, standIns := [], harness := (true, "20045644142372bf373002311dd22bfd6122434c30e2f7127b131ea3c1b41539"), looks := false }, kinds := [], alts := [], laidByText := true, laidKinds := [.data, .pinned], laidTests := true, laidLooks := .later }
def GlobFilesUptoCardSaid : Prop := Claim7.holds Tryz.pinned (.plain (OpenSpec.upto globFilesSpec)) globFilesUptoCard

/-- THE SECOND FORM's CARD OF 'seabaglaw06.FilesFail'. -/
def filesFailUptoCard : Claim7 := { stood := { row := filesFailUptoRow, standIns := [], harness := (true, "20045644142372bf373002311dd22bfd6122434c30e2f7127b131ea3c1b41539"), looks := false }, kinds := [], alts := [], laidByText := true, laidKinds := [.data, .pinned], laidTests := true, laidLooks := .later }
def FilesFailUptoCardSaid : Prop := Claim7.holds Tryz.pinned (.plain (OpenSpec.upto filesFailSpec)) filesFailUptoCard

/-- THE SECOND FORM's CARD OF 'seabaglaw06.FilesPlay'. -/
def filesPlayUptoCard : Claim7 := { stood := { row := filesPlayUptoRow, standIns := [], harness := (true, "20045644142372bf373002311dd22bfd6122434c30e2f7127b131ea3c1b41539"), looks := false }, kinds := [], alts := [], laidByText := true, laidKinds := [.data, .pinned], laidTests := true, laidLooks := .later }
def FilesPlayUptoCardSaid : Prop := Claim7.holds Tryz.pinned (.plain (OpenSpec.upto filesPlaySpec)) filesPlayUptoCard

/-- THE SECOND FORM's CARD OF 'seabaglaw06.FilesAsk'. -/
def filesAskUptoCard : Claim7 := { stood := { row := filesAskUptoRow, standIns := [], harness := (true, "20045644142372bf373002311dd22bfd6122434c30e2f7127b131ea3c1b41539"), looks := false }, kinds := [], alts := [], laidByText := true, laidKinds := [.data, .pinned], laidTests := true, laidLooks := .later }
def FilesAskUptoCardSaid : Prop := Claim7.holds Tryz.pinned (.plain (OpenSpec.upto filesAskSpec)) filesAskUptoCard

/-- THE SECOND FORM's CARD OF 'seabaglaw07.FdPlays'. -/
def fdPlaysUptoCard : Claim7 := { stood := { row := fdPlaysUptoRow, standIns := [], harness := (true, "20045644142372bf373002311dd22bfd6122434c30e2f7127b131ea3c1b41539"), looks := false }, kinds := [], alts := [], laidByText := true, laidKinds := [.data, .pinned], laidTests := true, laidLooks := .later }
def FdPlaysUptoCardSaid : Prop := Claim7.holds Tryz.pinned (.plain (OpenSpec.upto fdPlaysSpec)) fdPlaysUptoCard

/-- THE SECOND FORM's CARD OF 'seabaglaw07.FdShuts'. -/
def fdShutsUptoCard : Claim7 := { stood := { row := fdShutsUptoRow, standIns := [], harness := (true, "20045644142372bf373002311dd22bfd6122434c30e2f7127b131ea3c1b41539"), looks := false }, kinds := [], alts := [], laidByText := true, laidKinds := [.data, .pinned], laidTests := true, laidLooks := .later }
def FdShutsUptoCardSaid : Prop := Claim7.holds Tryz.pinned (.plain (OpenSpec.upto fdShutsSpec)) fdShutsUptoCard
end Rows
end Go.Proofs.YtijbhmledmnifaaGreatDoor
