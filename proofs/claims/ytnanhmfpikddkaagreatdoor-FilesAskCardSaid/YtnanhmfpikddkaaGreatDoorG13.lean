/-
  Contracts of the reference for layer 5: way,at an absolute path.
-/
import Derived.Test.YtnanhmfpikddkaaGreatDoorG12

set_option linter.unusedSimpArgs false
set_option linter.unusedVariables false
set_option maxRecDepth 100000
set_option maxHeartbeats 40000000
namespace Go.Proofs.YtnanhmfpikddkaaGreatDoor
open Go Go.RowKit
section
variable{S:Nat->Prop} {w:World} {p:Option Addr} {c:Nat} {d:ag} {room:Int}
theorem Vc (hI:aG d) (hs:aP d) {up:Int->Int} (cA:∀i u,aO d i=0->kY d i u->up i=u) (follow:Bool) (fuel:Nat) (ih:xM d up room follow fuel):∀(S:Nat->Prop) (w:World) (p:Option Addr) (c:Nat),aI S w p c d->∀(from':Int) (s:ByteArray) (n:Nat),s.size<=4294967280->n<=40->41<=n+(fuel+1)->fj s=true ->
 Calls Tryz.prog 104 #[aE p c d room,.int .i64 from',.string s,.bool follow,.int .i64 n] w fun e w' =>
  e=.returned (.tuple #[aF (lR d up follow (fuel+1) from' s n).1,.int .i64 (lR d up follow (fuel+1) from' s n).2])∧aa af w w':=L7
end
end Go.Proofs.YtnanhmfpikddkaaGreatDoor
