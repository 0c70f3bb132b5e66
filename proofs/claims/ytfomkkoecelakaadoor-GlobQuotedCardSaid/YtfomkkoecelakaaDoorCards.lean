/-
  DERIVED. GIVEN WITH THE SEED: THE CARDS: each row of YtfomkkoecelakaaDoorRows.lean that lists a variable, with what it lists TIED to the program's text (the seventh form; the later family's looks); each row that meets fmt, with fmt's text TOLD by the authors' own Lean function (tested against real Go, not proved from fmt's source: count such statements apart). THE CARD IS WHAT COUNTS. Prove the row's statement (the work); the ties are given (YtfomkkoecelakaaDoorTie.lean); close each card by the builder's one call (the guide's Derived/Test/ToyasCard.lean, 'card_holds'). Laid BY PROGRAM, IN A SANDBOX (cutbox-door.mjs). By AI agents, Wed Nov 11 2026. No macro, syntax, notation, axiom, sorry.
-/
import Derived.Test.YtfomkkoecelakaaDoorRows
import GoSem.ClaimSeven
namespace Go.Proofs.YtfomkkoecelakaaDoor
namespace Rows

/-- THE TIED CARD OF 'seabaglaw21.GlobAll'. -/
def globAllCard : Claim7 := { stood := { row := globAllRow, standIns := [], harness := (true, "0f127a36fa65d777016a96bfa91417de051f90f73658cd852b1e730aa2f1f324"), looks := false }, kinds := [], alts := [], laidByText := true, laidKinds := [.data, .pinned], laidTests := true, laidLooks := .later }
def GlobAllCardSaid : Prop := Claim7.holds Tryd.pinned (.plain (OpenSpec.ofChange globAllSpec)) globAllCard

/-- THE TIED CARD OF 'seabaglaw21.GlobQuoted'. -/
def globQuotedCard : Claim7 := { stood := { row := globQuotedRow, standIns := [], harness := (true, "0f127a36fa65d777016a96bfa91417de051f90f73658cd852b1e730aa2f1f324"), looks := false }, kinds := [], alts := [], laidByText := true, laidKinds := [.data, .pinned], laidTests := true, laidLooks := .later }
def GlobQuotedCardSaid : Prop := Claim7.holds Tryd.pinned (.plain (OpenSpec.ofChange globQuotedSpec)) globQuotedCard

/-- THE SECOND FORM's CARD OF 'seabaglaw21.GlobAll'. -/
def globAllUptoCard : Claim7 := { stood := { row := globAllUptoRow, standIns := [], harness := (true, "0f127a36fa65d777016a96bfa91417de051f90f73658cd852b1e730aa2f1f324"), looks := false }, kinds := [], alts := [], laidByText := true, laidKinds := [.data, .pinned], laidTests := true, laidLooks := .later }
def GlobAllUptoCardSaid : Prop := Claim7.holds Tryd.pinned (.plain (OpenSpec.upto globAllSpec)) globAllUptoCard

/-- THE SECOND FORM's CARD OF 'seabaglaw21.GlobQuoted'. -/
def globQuotedUptoCard : Claim7 := { stood := { row := globQuotedUptoRow, standIns := [], harness := (true, "0f127a36fa65d777016a96bfa91417de051f90f73658cd852b1e730aa2f1f324"), looks := false }, kinds := [], alts := [], laidByText := true, laidKinds := [.data, .pinned], laidTests := true, laidLooks := .later }
def GlobQuotedUptoCardSaid : Prop := Claim7.holds Tryd.pinned (.plain (OpenSpec.upto globQuotedSpec)) globQuotedUptoCard
end Rows
end Go.Proofs.YtfomkkoecelakaaDoor
