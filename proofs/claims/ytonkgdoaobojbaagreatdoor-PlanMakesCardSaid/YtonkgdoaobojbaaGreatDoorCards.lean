/-
  DERIVED. GIVEN WITH THE SEED: THE CARDS: each row of YtonkgdoaobojbaaGreatDoorRows.lean that lists a variable, with what it lists TIED to the program's text (the seventh form; the later family's looks); each row that meets fmt, with fmt's text TOLD by the authors' own Lean function (tested against real Go, not proved from fmt's source: count such statements apart). THE CARD IS WHAT COUNTS. Prove the row's statement (the work); the ties are given (YtonkgdoaobojbaaGreatDoorTie.lean); close each card by the builder's one call (the guide's Derived/Test/ToyasCard.lean, 'card_holds'). Laid BY PROGRAM, IN A SANDBOX (cutbox-door.mjs). By AI agents, Wed Nov 11 2026. No macro, syntax, notation, axiom, sorry.
-/
import Derived.Test.YtonkgdoaobojbaaGreatDoorRows
import GoSem.ClaimSeven
namespace Go.Proofs.YtonkgdoaobojbaaGreatDoor
namespace Rows

/-- THE TIED CARD OF 'seabaglaw26.PlanMakes'. -/
def planMakesCard : Claim7 := { stood := { row := planMakesRow, standIns := [], harness := (true, "607ccdf3e1cc753ad859ba6904353396ff84cd4d99a229788ffcf7c87e358bdf"), looks := true }, kinds := [], alts := [], laidByText := true, laidKinds := [.data, .pinned], laidTests := true, laidLooks := .later }
def PlanMakesCardSaid : Prop := Claim7.holds Tryz.pinned (.plain (OpenSpec.ofChange planMakesSpec)) planMakesCard

/-- THE TIED CARD OF 'seabaglaw26.PlanWays'. -/
def planWaysCard : Claim7 := { stood := { row := planWaysRow, standIns := [], harness := (true, "607ccdf3e1cc753ad859ba6904353396ff84cd4d99a229788ffcf7c87e358bdf"), looks := true }, kinds := [], alts := [], laidByText := true, laidKinds := [.data, .data, .data, .data, .sentinel, .sentinel, .pinned, .pinned], laidTests := true, laidLooks := .later }
def PlanWaysCardSaid : Prop := Claim7.holds Tryz.pinned (.plain (OpenSpec.ofChange planWaysSpec)) planWaysCard

/-- THE TIED CARD OF 'seabaglaw26.PlanSmall'. -/
def planSmallCard : Claim7 := { stood := { row := planSmallRow, standIns := [], harness := (true, "607ccdf3e1cc753ad859ba6904353396ff84cd4d99a229788ffcf7c87e358bdf"), looks := true }, kinds := [], alts := [], laidByText := true, laidKinds := [.data, .data, .data, .data, .sentinel, .sentinel, .pinned, .pinned], laidTests := true, laidLooks := .later }
def PlanSmallCardSaid : Prop := Claim7.holds Tryz.pinned (.plain (OpenSpec.ofChange planSmallSpec)) planSmallCard

/-- THE TIED CARD OF 'seabaglaw26.PlanTells'. -/
def planTellsCard : Claim7 := { stood := { row := planTellsRow, standIns := [], harness := (true, "607ccdf3e1cc753ad859ba6904353396ff84cd4d99a229788ffcf7c87e358bdf"), looks := true }, kinds := [], alts := [], laidByText := true, laidKinds := [.data, .data, .data, .data, .sentinel, .sentinel, .pinned, .pinned], laidTests := true, laidLooks := .later }
def PlanTellsCardSaid : Prop := Claim7.holds Tryz.pinned (.plain (OpenSpec.ofChange planTellsSpec)) planTellsCard

/-- THE SECOND FORM's CARD OF 'seabaglaw26.PlanMakes'. -/
def planMakesUptoCard : Claim7 := { stood := { row := planMakesUptoRow, standIns := [], harness := (true, "607ccdf3e1cc753ad859ba6904353396ff84cd4d99a229788ffcf7c87e358bdf"), looks := true }, kinds := [], alts := [], laidByText := true, laidKinds := [.data, .pinned], laidTests := true, laidLooks := .later }
def PlanMakesUptoCardSaid : Prop := Claim7.holds Tryz.pinned (.plain (OpenSpec.upto planMakesSpec)) planMakesUptoCard

/-- THE SECOND FORM's CARD OF 'seabaglaw26.PlanWays'. -/
def planWaysUptoCard : Claim7 := { stood := { row := planWaysUptoRow, standIns := [], harness := (true, "607ccdf3e1cc753ad859ba6904353396ff84cd4d99a229788ffcf7c87e358bdf"), looks := true }, kinds := [], alts := [], laidByText := true, laidKinds := [.data, .data, .data, .data, .sentinel, .sentinel, .pinned, .pinned], laidTests := true, laidLooks := .later }
def PlanWaysUptoCardSaid : Prop := Claim7.holds Tryz.pinned (.plain (OpenSpec.upto planWaysSpec)) planWaysUptoCard

/-- THE SECOND FORM's CARD OF 'seabaglaw26.PlanSmall'. -/
def planSmallUptoCard : Claim7 := { stood := { row := planSmallUptoRow, standIns := [], harness := (true, "607ccdf3e1cc753ad859ba6904353396ff84cd4d99a229788ffcf7c87e358bdf"), looks := true }, kinds := [], alts := [], laidByText := true, laidKinds := [.data, .data, .data, .data, .sentinel, .sentinel, .pinned, .pinned], laidTests := true, laidLooks := .later }
def PlanSmallUptoCardSaid : Prop := Claim7.holds Tryz.pinned (.plain (OpenSpec.upto planSmallSpec)) planSmallUptoCard

/-- THE SECOND FORM's CARD OF 'seabaglaw26.PlanTells'. -/
def planTellsUptoCard : Claim7 := { stood := { row := planTellsUptoRow, standIns := [], harness := (true, "607ccdf3e1cc753ad859ba6904353396ff84cd4d99a229788ffcf7c87e358bdf"), looks := true }, kinds := [], alts := [], laidByText := true, laidKinds := [.data, .data, .data, .data, .sentinel, .sentinel, .pinned, .pinned], laidTests := true, laidLooks := .later }
def PlanTellsUptoCardSaid : Prop := Claim7.holds Tryz.pinned (.plain (OpenSpec.upto planTellsSpec)) planTellsUptoCard
end Rows
end Go.Proofs.YtonkgdoaobojbaaGreatDoor
