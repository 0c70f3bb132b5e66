/-
 Contracts of the reference for layer 6: create.
-/
import Derived.Test.YtijbhmledmnifaaGreatDoorG09
import Derived.Test.YtijbhmledmnifaaGreatDoorG11
import Derived.Test.YtijbhmledmnifaaGreatDoorG15
import Derived.Test.YtijbhmledmnifaaGreatDoorG38
import Derived.Deep.RegionHeld3

set_option linter.unusedSimpArgs false
set_option linter.unusedVariables false
set_option maxRecDepth 100000
set_option maxHeartbeats 8000000
namespace Go.Proofs.YtijbhmledmnifaaGreatDoor
open Go Go.RowKit
theorem cellK {w w' : World} {g j : Nat} {v : Value} (k : Keeps NoB w w') (h : w.cell? ⟨g, j, none⟩ = some v) : w'.cell? ⟨g, j, none⟩ = some v := (k.cell (p := ⟨g, j, none⟩) (lt_of_cell h) (fun h => h)).trans h
section
variable {w wx wy : World} {v v' : Value} {room room' calls calls' fail fail' : Int} {u q r : List Value}
end
section
variable {S : Nat -> Prop} {w : World} {p : Option Addr} {c : Nat} {d : Nds} {room calls fail : Int}
end
end Go.Proofs.YtijbhmledmnifaaGreatDoor
