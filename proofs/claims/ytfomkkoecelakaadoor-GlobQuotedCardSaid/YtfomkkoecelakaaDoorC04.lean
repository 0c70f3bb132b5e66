/-
  Layer 6: contracts of files: gone. (Printed by genfiles.py.)
-/
import Derived.Test.YtfomkkoecelakaaDoorC03
import Derived.Test.YtfomkkoecelakaaDoorC01
import Derived.Deep.RegionHeld3

set_option linter.unusedSimpArgs false
set_option linter.unusedVariables false

set_option maxRecDepth 100000
set_option maxHeartbeats 4000000
namespace Go.Proofs.YtfomkkoecelakaaDoor
open Go Go.RowKit

section
variable {N : Nat → Prop} {w w' : World} {F a : Nat} {d d' : Nds} {room calls fail : Int}


end
end Go.Proofs.YtfomkkoecelakaaDoor
