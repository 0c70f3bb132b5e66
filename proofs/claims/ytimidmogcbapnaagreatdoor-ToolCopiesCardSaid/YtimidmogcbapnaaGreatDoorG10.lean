/-
  Layer 5, plain: dots and slashes ahead of a path. No program in sight.
-/
import Derived.Test.YtimidmogcbapnaaGreatDoorG06

set_option linter.unusedSimpArgs false
set_option linter.unusedVariables false
set_option maxRecDepth 100000
namespace Go.Proofs.YtimidmogcbapnaaGreatDoor
theorem scan_p {d : Nds} {up : Int -> Int} {slash follow : Bool} {l : List ByteArray} {at' : Int} {n : Nat} (hl : l ≠ []) (p q : Plc) : scan d up slash follow l at' n p = scan d up slash follow l at' n q := by
 cases l with
 | nil => exact absurd rfl hl
 | cons x r => rfl
end Go.Proofs.YtimidmogcbapnaaGreatDoor
