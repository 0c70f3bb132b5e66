/-
  Contracts of the reference for layer 6: Rename. Printed by wip/genref6.py.
-/
import Derived.Test.YtnanhmfpikddkaaGreatDoorG33
import Derived.Test.YtnanhmfpikddkaaGreatDoorG34
import Derived.Test.YtnanhmfpikddkaaGreatDoorG35

set_option linter.unusedSimpArgs false
set_option linter.unusedVariables false
set_option maxRecDepth 100000
set_option maxHeartbeats 8000000
namespace Go.Proofs.YtnanhmfpikddkaaGreatDoor
open Go Go.RowKit
section
variable{S:Nat->Prop} {w:World} {p:Option Addr} {c:Nat} {d:ag} {room calls fail:Int}
theorem RW (H:R6 S w p c d calls) (at' mask:Int) (a b:ByteArray) (hsa:a.size<=4294967280) (hsb:b.size<=4294967280) :
 Calls Tryz.prog 55 #[fV p c d.length room calls fail,.agg #[.int .i64 at',.int .i64 mask],.string a,.string b] w (l8 S w (bz calls fail d (jr d room at' a b)) room (calls+1) fail):=by
 by_cases h1:(aQ d at' b false).1.node=0
 ·cases h2:cg b with
  | false=>exact UN H at' mask a b hsa hsb ⟨h1,h2⟩
  | true=>exact UO H at' mask a b hsa hsb ⟨h1,h2⟩
 ·exact UQ H at' mask a b hsa hsb h1
end
end Go.Proofs.YtnanhmfpikddkaaGreatDoor
