/-
 Contracts of the reference for layer 6: Rename. Printed by wip/genref6.py.
-/
import Derived.Test.YtijbhmledmnifaaGreatDoorG31
import Derived.Test.YtijbhmledmnifaaGreatDoorG32
import Derived.Test.YtijbhmledmnifaaGreatDoorG33

set_option linter.unusedSimpArgs false
set_option linter.unusedVariables false
set_option maxRecDepth 100000
set_option maxHeartbeats 8000000
namespace Go.Proofs.YtijbhmledmnifaaGreatDoor
open Go Go.RowKit
section
variable {S : Nat -> Prop} {w : World} {p : Option Addr} {c : Nat} {d : Nds} {room calls fail : Int}
theorem r6rename_any (H : R6 S w p c d calls) (at' mask : Int) (a b : ByteArray) (hsa : a.size <= 4294967280) (hsb : b.size <= 4294967280) :
  Calls Tryz.prog 65 #[fV p c d.length room calls fail, .agg #[.int .i64 at', .int .i64 mask], .string a, .string b] w (F6To S w (orFail calls fail d (renR d room at' a b)) room (calls + 1) fail) := by
 by_cases h1 : (fndR d at' b false).1.node = 0
 ·cases h2 : endS b with
  | false => exact r6rename_2 H at' mask a b hsa hsb ⟨h1, h2⟩
  | true => exact r6rename_3 H at' mask a b hsa hsb ⟨h1, h2⟩
 ·exact r6rename_1 H at' mask a b hsa hsb h1
end
end Go.Proofs.YtijbhmledmnifaaGreatDoor
