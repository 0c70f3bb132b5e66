/-
  DERIVED. GIVEN WITH THE SEED: THE CARDS: each row of YtbcejodnjeklpaaDoorRows.lean that lists a variable, with what it lists TIED to the program's text (the seventh form; the later family's looks); each row that meets fmt, with fmt's text TOLD by the authors' own Lean function (tested against real Go, not proved from fmt's source: count such statements apart). THE CARD IS WHAT COUNTS. Prove the row's statement (the work); the ties are given (YtbcejodnjeklpaaDoorTie.lean); close each card by the builder's one call (the guide's Derived/Test/ToyasCard.lean, 'card_holds'). Laid BY PROGRAM, IN A SANDBOX (cutbox-door.mjs). By AI agents, Wed Nov 11 2026. No macro, syntax, notation, axiom, sorry.
-/
import Derived.Test.YtbcejodnjeklpaaDoorRows
import GoSem.ClaimSeven
namespace Go.Proofs.YtbcejodnjeklpaaDoor
namespace Rows

/-- THE TIED CARD OF 'seabaglaw05.WalkDots'. -/
def walkDotsCard : Claim7 := { stood := { row := walkDotsRow, standIns := [], harness := (true, "d195da135f428aa53b07075d780b2016d26d4eb8b22d32e5dff440e6145a3994"), looks := false }, kinds := [], alts := [], laidByText := true, laidKinds := [.data, .pinned], laidTests := true, laidLooks := .later }
def WalkDotsCardSaid : Prop := Claim7.holds Tryd.pinned (.plain (OpenSpec.ofChange walkDotsSpec)) walkDotsCard

/-- THE TIED CARD OF 'seabaglaw05.WalkLoops'. -/
def walkLoopsCard : Claim7 := { stood := { row := walkLoopsRow, standIns := [], harness := (true, "d195da135f428aa53b07075d780b2016d26d4eb8b22d32e5dff440e6145a3994"), looks := false }, kinds := [], alts := [], laidByText := true, laidKinds := [.data, .pinned], laidTests := true, laidLooks := .later }
def WalkLoopsCardSaid : Prop := Claim7.holds Tryd.pinned (.plain (OpenSpec.ofChange walkLoopsSpec)) walkLoopsCard

/-- THE TIED CARD OF 'seabaglaw05.WalkFinds'. -/
def walkFindsCard : Claim7 := { stood := { row := walkFindsRow, standIns := [], harness := (true, "d195da135f428aa53b07075d780b2016d26d4eb8b22d32e5dff440e6145a3994"), looks := false }, kinds := [], alts := [], laidByText := true, laidKinds := [.data, .pinned], laidTests := true, laidLooks := .later }
def WalkFindsCardSaid : Prop := Claim7.holds Tryd.pinned (.plain (OpenSpec.ofChange walkFindsSpec)) walkFindsCard

/-- THE TIED CARD OF 'seabaglaw05.WalkWhole'. -/
def walkWholeCard : Claim7 := { stood := { row := walkWholeRow, standIns := [], harness := (true, "d195da135f428aa53b07075d780b2016d26d4eb8b22d32e5dff440e6145a3994"), looks := false }, kinds := [], alts := [], laidByText := true, laidKinds := [.data, .pinned], laidTests := true, laidLooks := .later }
def WalkWholeCardSaid : Prop := Claim7.holds Tryd.pinned (.plain (OpenSpec.ofChange walkWholeSpec)) walkWholeCard

/-- THE SECOND FORM's CARD OF 'seabaglaw05.WalkDots'. -/
def walkDotsUptoCard : Claim7 := { stood := { row := walkDotsUptoRow, standIns := [], harness := (true, "d195da135f428aa53b07075d780b2016d26d4eb8b22d32e5dff440e6145a3994"), looks := false }, kinds := [], alts := [], laidByText := true, laidKinds := [.data, .pinned], laidTests := true, laidLooks := .later }
def WalkDotsUptoCardSaid : Prop := Claim7.holds Tryd.pinned (.plain (OpenSpec.upto walkDotsSpec)) walkDotsUptoCard

/-- THE SECOND FORM's CARD OF 'seabaglaw05.WalkLoops'. -/
def walkLoopsUptoCard : Claim7 := { stood := { row := walkLoopsUptoRow, standIns := [], harness := (true, "d195da135f428aa53b07075d780b2016d26d4eb8b22d32e5dff440e6145a3994"), looks := false }, kinds := [], alts := [], laidByText := true, laidKinds := [.data, .pinned], laidTests := true, laidLooks := .later }
def WalkLoopsUptoCardSaid : Prop := Claim7.holds Tryd.pinned (.plain (OpenSpec.upto walkLoopsSpec)) walkLoopsUptoCard

/-- THE SECOND FORM's CARD OF 'seabaglaw05.WalkFinds'. -/
def walkFindsUptoCard : Claim7 := { stood := { row := walkFindsUptoRow, standIns := [], harness := (true, "d195da135f428aa53b07075d780b2016d26d4eb8b22d32e5dff440e6145a3994"), looks := false }, kinds := [], alts := [], laidByText := true, laidKinds := [.data, .pinned], laidTests := true, laidLooks := .later }
def WalkFindsUptoCardSaid : Prop := Claim7.holds Tryd.pinned (.plain (OpenSpec.upto walkFindsSpec)) walkFindsUptoCard

/-- THE SECOND FORM's CARD OF 'seabaglaw05.WalkWhole'. -/
def walkWholeUptoCard : Claim7 := { stood := { row := walkWholeUptoRow, standIns := [], harness := (true, "d195da135f428aa53b07075d780b2016d26d4eb8b22d32e5dff440e6145a3994"), looks := false }, kinds := [], alts := [], laidByText := true, laidKinds := [.data, .pinned], laidTests := true, laidLooks := .later }
def WalkWholeUptoCardSaid : Prop := Claim7.holds Tryd.pinned (.plain (OpenSpec.upto walkWholeSpec)) walkWholeUptoCard
end Rows
end Go.Proofs.YtbcejodnjeklpaaDoor
