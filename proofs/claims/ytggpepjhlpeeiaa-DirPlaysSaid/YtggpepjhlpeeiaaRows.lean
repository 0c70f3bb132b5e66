/-
  No cell of these rows narrows 'for every input' (looked for: loops, veiled, ifaces, maps, wideKeys, modest, calm, conditions, laid).
  DERIVED. THE GIVEN ROWS OF THIS SEAT. 3 by the template 'for every input the law returns true; each argument reads behind the call as it read before'; 0 by the template 'total and deterministic' (their statements: YtggpepjhlpeeiaaTotals.lean).
  GIVEN WITH THE SEED: the statements are not yours to turn. If you find one false, say at which input.
  Laid BY PROGRAM, IN A SANDBOX (cutbox-rows.mjs): the forced cells as the released guide's own fill.sh prints them over the translation e7fc29fcfcba46d5… (all of the seat's roots in one cut). By AI agents, Wed Nov 11 2026. No macro, syntax, notation, axiom, sorry.
-/
import Derived.Test.YtggpepjhlpeeiaaChecked
import GoSem.Claim
import GoSem.ClaimJoined
import GoSem.ClaimMapViews
import Derived.JoinedTies
import Derived.KernelRfl
namespace Go.Proofs.Ytggpepjhlpeeiaa
/- THE CELL 'sum', in the pinned program and in every row, IS THE sha256 OF THE DUMP (.gsa) THAT YtggpepjhlpeeiaaProg.lean LOADS. Nothing in Lean hashes anything: it is a label: what it is worth is what the hold of that sum in a sandbox is worth. -/
noncomputable def Try.pinned : Pinned := { name := "ytggpepjhlpeeiaa", sum := "e7fc29fcfcba46d5f9849e19e06f4e75fe25e9d71e8c9ae6b27298f4a47b4a17", checked := Try.checked }
namespace Rows
def none {H : Type} : Left H := { results := [], args := [] }

/-- 'seabaglaw03.DirOrders': WHATEVER THE INPUT: true; the input reads as it did. -/
def dirOrdersSpec : ChangeSpec := { name := "dirOrders", fn := fun _ => fun
  | [d1, d2] => { results := [.lit (.bool true)], args := [d1, d2] }
  | _ => none }
def dirOrdersRow : OpenClaim := { program := "ytggpepjhlpeeiaa", sum := "e7fc29fcfcba46d5f9849e19e06f4e75fe25e9d71e8c9ae6b27298f4a47b4a17", func := "seabag/seabaglaw03.DirOrders", spec := "dirOrders", inPlace := ["internal/bytealg.abigen_runtime_cmpstring", "internal/bytealg.IndexByteString", "slices.overlaps[seabag/dir.Entry]"], unfollowed := true, recurses := true, apart := false }
def DirOrdersSaid : Prop := dirOrdersRow.holds Try.pinned (OpenSpec.ofChange dirOrdersSpec)

/-- ITS FALSE NEIGHBOUR: 'it returns false'. Refute it at one input. -/
def dirOrdersWrong : ChangeSpec := { name := "dirOrders", fn := fun _ => fun
  | [d1, d2] => { results := [.lit (.bool false)], args := [d1, d2] }
  | _ => none }
def DirOrdersWrongFalsely : Prop := dirOrdersRow.holds Try.pinned (OpenSpec.ofChange dirOrdersWrong)

/-- 'seabaglaw03.DirBack': WHATEVER THE INPUT: true; the input reads as it did. -/
def dirBackSpec : ChangeSpec := { name := "dirBack", fn := fun _ => fun
  | [d1, d2, d3] => { results := [.lit (.bool true)], args := [d1, d2, d3] }
  | _ => none }
def dirBackRow : OpenClaim := { program := "ytggpepjhlpeeiaa", sum := "e7fc29fcfcba46d5f9849e19e06f4e75fe25e9d71e8c9ae6b27298f4a47b4a17", func := "seabag/seabaglaw03.DirBack", spec := "dirBack", inPlace := ["internal/bytealg.abigen_runtime_cmpstring", "internal/bytealg.IndexByteString", "slices.overlaps[seabag/dir.Entry]"], unfollowed := true, recurses := true, apart := false }
def DirBackSaid : Prop := dirBackRow.holds Try.pinned (OpenSpec.ofChange dirBackSpec)

/-- ITS FALSE NEIGHBOUR: 'it returns false'. Refute it at one input. -/
def dirBackWrong : ChangeSpec := { name := "dirBack", fn := fun _ => fun
  | [d1, d2, d3] => { results := [.lit (.bool false)], args := [d1, d2, d3] }
  | _ => none }
def DirBackWrongFalsely : Prop := dirBackRow.holds Try.pinned (OpenSpec.ofChange dirBackWrong)

/-- 'seabaglaw03.DirPlays': WHATEVER THE INPUT: true; the input reads as it did. -/
def dirPlaysSpec : ChangeSpec := { name := "dirPlays", fn := fun _ => fun
  | [d1, d2, d3] => { results := [.lit (.bool true)], args := [d1, d2, d3] }
  | _ => none }
def dirPlaysRow : OpenClaim := { program := "ytggpepjhlpeeiaa", sum := "e7fc29fcfcba46d5f9849e19e06f4e75fe25e9d71e8c9ae6b27298f4a47b4a17", func := "seabag/seabaglaw03.DirPlays", spec := "dirPlays", inPlace := ["internal/bytealg.abigen_runtime_cmpstring", "internal/bytealg.IndexByteString", "slices.overlaps[seabag/dir.Entry]"], unfollowed := true, recurses := true, apart := false }
def DirPlaysSaid : Prop := dirPlaysRow.holds Try.pinned (OpenSpec.ofChange dirPlaysSpec)

/-- ITS FALSE NEIGHBOUR: 'it returns false'. Refute it at one input. -/
def dirPlaysWrong : ChangeSpec := { name := "dirPlays", fn := fun _ => fun
  | [d1, d2, d3] => { results := [.lit (.bool false)], args := [d1, d2, d3] }
  | _ => none }
def DirPlaysWrongFalsely : Prop := dirPlaysRow.holds Try.pinned (OpenSpec.ofChange dirPlaysWrong)

/- THE SECOND FORM. 'bulk': how many values and letters a reading holds, each counted each time it is reached (what is shared counts as often as it is met; a slice's spare places count too). A statement '..UptoSaid' is the law's where the arguments, and the package variables that the reading takes, are together of bulk at most 1048576: NARROWER than '..Said'. Prove '..Said' where nothing that the law and all that it calls make is longer than what came in: it says more and counts as full. Else prove '..UptoSaid'. A law counts once. -/
mutual
def uptoBulk {H : Type} : DataW H → Nat
  | .lit (.string bytes) => bytes.length + 1
  | .lit _ => 1
  | .nil => 1
  | .ptr d => uptoBulk d + 1
  | .slice elems spare => uptoBulkAll elems + uptoBulkAll spare + 1
  | .agg parts => uptoBulkAll parts + 1
  | .iface _ d => uptoBulk d + 1
  | .map entries => uptoBulkEntries entries + 1
  | .held _ => 1
def uptoBulkAll {H : Type} : List (DataW H) → Nat
  | [] => 0
  | d :: r => uptoBulk d + uptoBulkAll r
def uptoBulkEntries {H : Type} : List (Lit × DataW H) → Nat
  | [] => 0
  | x :: r => uptoBulkEntry x + uptoBulkEntries r
def uptoBulkEntry {H : Type} : Lit × DataW H → Nat
  | (.string bytes, d) => bytes.length + uptoBulk d + 1
  | (_, d) => uptoBulk d + 1
 end
def uptoSmall : (H : Type) → List (DataW H) → Bool := fun _ ds => decide (uptoBulkAll ds ≤ 1048576)
def OpenSpec.upto (s : _root_.Go.ChangeSpec) : _root_.Go.OpenSpec := { _root_.Go.OpenSpec.ofChange s with cond := some uptoSmall }

/-- 'seabaglaw03.DirOrders', WHERE WHAT IT READS IS OF BULK AT MOST 1048576: true; the input reads as it did. -/
def dirOrdersUptoRow : OpenClaim := { program := "ytggpepjhlpeeiaa", sum := "e7fc29fcfcba46d5f9849e19e06f4e75fe25e9d71e8c9ae6b27298f4a47b4a17", func := "seabag/seabaglaw03.DirOrders", spec := "dirOrders", inPlace := ["internal/bytealg.abigen_runtime_cmpstring", "internal/bytealg.IndexByteString", "slices.overlaps[seabag/dir.Entry]"], unfollowed := true, recurses := true, apart := false, narrowed := true }
def DirOrdersUptoSaid : Prop := dirOrdersUptoRow.holds Try.pinned (OpenSpec.upto dirOrdersSpec)

/-- 'seabaglaw03.DirBack', WHERE WHAT IT READS IS OF BULK AT MOST 1048576: true; the input reads as it did. -/
def dirBackUptoRow : OpenClaim := { program := "ytggpepjhlpeeiaa", sum := "e7fc29fcfcba46d5f9849e19e06f4e75fe25e9d71e8c9ae6b27298f4a47b4a17", func := "seabag/seabaglaw03.DirBack", spec := "dirBack", inPlace := ["internal/bytealg.abigen_runtime_cmpstring", "internal/bytealg.IndexByteString", "slices.overlaps[seabag/dir.Entry]"], unfollowed := true, recurses := true, apart := false, narrowed := true }
def DirBackUptoSaid : Prop := dirBackUptoRow.holds Try.pinned (OpenSpec.upto dirBackSpec)

/-- 'seabaglaw03.DirPlays', WHERE WHAT IT READS IS OF BULK AT MOST 1048576: true; the input reads as it did. -/
def dirPlaysUptoRow : OpenClaim := { program := "ytggpepjhlpeeiaa", sum := "e7fc29fcfcba46d5f9849e19e06f4e75fe25e9d71e8c9ae6b27298f4a47b4a17", func := "seabag/seabaglaw03.DirPlays", spec := "dirPlays", inPlace := ["internal/bytealg.abigen_runtime_cmpstring", "internal/bytealg.IndexByteString", "slices.overlaps[seabag/dir.Entry]"], unfollowed := true, recurses := true, apart := false, narrowed := true }
def DirPlaysUptoSaid : Prop := dirPlaysUptoRow.holds Try.pinned (OpenSpec.upto dirPlaysSpec)

end Rows
end Go.Proofs.Ytggpepjhlpeeiaa
