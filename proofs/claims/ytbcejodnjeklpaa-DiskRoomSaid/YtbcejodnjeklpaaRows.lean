/-
  No cell of these rows narrows 'for every input' (looked for: loops, veiled, ifaces, maps, wideKeys, modest, calm, conditions, laid).
  DERIVED. THE GIVEN ROWS OF THIS SEAT. 5 by the template 'for every input the law returns true; each argument reads behind the call as it read before'; 0 by the template 'total and deterministic' (their statements: YtbcejodnjeklpaaTotals.lean).
  GIVEN WITH THE SEED: the statements are not yours to turn. If you find one false, say at which input.
  Laid BY PROGRAM, IN A SANDBOX (cutbox-rows.mjs): the forced cells as the released guide's own fill.sh prints them over the translation 9023c3e5056082d4… (all of the seat's roots in one cut). By AI agents, Wed Nov 11 2026. No macro, syntax, notation, axiom, sorry.
-/
import Derived.Test.YtbcejodnjeklpaaChecked
import GoSem.Claim
import GoSem.ClaimJoined
import GoSem.ClaimMapViews
import Derived.JoinedTies
import Derived.KernelRfl
namespace Go.Proofs.Ytbcejodnjeklpaa
/- THE CELL 'sum', in the pinned program and in every row, IS THE sha256 OF THE DUMP (.gsa) THAT YtbcejodnjeklpaaProg.lean LOADS. Nothing in Lean hashes anything: it is a label: what it is worth is what the hold of that sum in a sandbox is worth. -/
noncomputable def Try.pinned : Pinned := { name := "ytbcejodnjeklpaa", sum := "9023c3e5056082d48386391f5998c28f46c68ffe5da1f004349c4a34f94ec15b", checked := Try.checked }
namespace Rows
def none {H : Type} : Left H := { results := [], args := [] }

/-- 'seabaglaw04.DiskWrites': WHATEVER THE INPUT: true; the input reads as it did. -/
def diskWritesSpec : ChangeSpec := { name := "diskWrites", fn := fun _ => fun
  | [d] => { results := [.lit (.bool true)], args := [d] }
  | _ => none }
def diskWritesRow : OpenClaim := { program := "ytbcejodnjeklpaa", sum := "9023c3e5056082d48386391f5998c28f46c68ffe5da1f004349c4a34f94ec15b", func := "seabag/seabaglaw04.DiskWrites", spec := "diskWrites", inPlace := ["internal/bytealg.abigen_runtime_cmpstring", "internal/bytealg.IndexByteString", "slices.overlaps[seabag/dir.Entry]"], unfollowed := true, recurses := true, apart := false }
def DiskWritesSaid : Prop := diskWritesRow.holds Try.pinned (OpenSpec.ofChange diskWritesSpec)

/-- ITS FALSE NEIGHBOUR: 'it returns false'. Refute it at one input. -/
def diskWritesWrong : ChangeSpec := { name := "diskWrites", fn := fun _ => fun
  | [d] => { results := [.lit (.bool false)], args := [d] }
  | _ => none }
def DiskWritesWrongFalsely : Prop := diskWritesRow.holds Try.pinned (OpenSpec.ofChange diskWritesWrong)

/-- 'seabaglaw04.DiskRoom': WHATEVER THE INPUT: true; the input reads as it did. -/
def diskRoomSpec : ChangeSpec := { name := "diskRoom", fn := fun _ => fun
  | [d1, d2] => { results := [.lit (.bool true)], args := [d1, d2] }
  | _ => none }
def diskRoomRow : OpenClaim := { program := "ytbcejodnjeklpaa", sum := "9023c3e5056082d48386391f5998c28f46c68ffe5da1f004349c4a34f94ec15b", func := "seabag/seabaglaw04.DiskRoom", spec := "diskRoom", inPlace := ["internal/bytealg.abigen_runtime_cmpstring", "internal/bytealg.IndexByteString", "slices.overlaps[seabag/dir.Entry]"], unfollowed := true, recurses := true, apart := false }
def DiskRoomSaid : Prop := diskRoomRow.holds Try.pinned (OpenSpec.ofChange diskRoomSpec)

/-- ITS FALSE NEIGHBOUR: 'it returns false'. Refute it at one input. -/
def diskRoomWrong : ChangeSpec := { name := "diskRoom", fn := fun _ => fun
  | [d1, d2] => { results := [.lit (.bool false)], args := [d1, d2] }
  | _ => none }
def DiskRoomWrongFalsely : Prop := diskRoomRow.holds Try.pinned (OpenSpec.ofChange diskRoomWrong)

/-- 'seabaglaw04.DiskReads': WHATEVER THE INPUT: true; the input reads as it did. -/
def diskReadsSpec : ChangeSpec := { name := "diskReads", fn := fun _ => fun
  | [d1, d2, d3, d4, d5] => { results := [.lit (.bool true)], args := [d1, d2, d3, d4, d5] }
  | _ => none }
def diskReadsRow : OpenClaim := { program := "ytbcejodnjeklpaa", sum := "9023c3e5056082d48386391f5998c28f46c68ffe5da1f004349c4a34f94ec15b", func := "seabag/seabaglaw04.DiskReads", spec := "diskReads", inPlace := ["internal/bytealg.abigen_runtime_cmpstring", "internal/bytealg.IndexByteString", "slices.overlaps[seabag/dir.Entry]"], unfollowed := true, recurses := true, apart := false }
def DiskReadsSaid : Prop := diskReadsRow.holds Try.pinned (OpenSpec.ofChange diskReadsSpec)

/-- ITS FALSE NEIGHBOUR: 'it returns false'. Refute it at one input. -/
def diskReadsWrong : ChangeSpec := { name := "diskReads", fn := fun _ => fun
  | [d1, d2, d3, d4, d5] => { results := [.lit (.bool false)], args := [d1, d2, d3, d4, d5] }
  | _ => none }
def DiskReadsWrongFalsely : Prop := diskReadsRow.holds Try.pinned (OpenSpec.ofChange diskReadsWrong)

/-- 'seabaglaw04.DiskBack': WHATEVER THE INPUT: true; the input reads as it did. -/
def diskBackSpec : ChangeSpec := { name := "diskBack", fn := fun _ => fun
  | [d1, d2, d3, d4, d5] => { results := [.lit (.bool true)], args := [d1, d2, d3, d4, d5] }
  | _ => none }
def diskBackRow : OpenClaim := { program := "ytbcejodnjeklpaa", sum := "9023c3e5056082d48386391f5998c28f46c68ffe5da1f004349c4a34f94ec15b", func := "seabag/seabaglaw04.DiskBack", spec := "diskBack", inPlace := ["internal/bytealg.abigen_runtime_cmpstring", "internal/bytealg.IndexByteString", "slices.overlaps[seabag/dir.Entry]"], unfollowed := true, recurses := true, apart := false }
def DiskBackSaid : Prop := diskBackRow.holds Try.pinned (OpenSpec.ofChange diskBackSpec)

/-- ITS FALSE NEIGHBOUR: 'it returns false'. Refute it at one input. -/
def diskBackWrong : ChangeSpec := { name := "diskBack", fn := fun _ => fun
  | [d1, d2, d3, d4, d5] => { results := [.lit (.bool false)], args := [d1, d2, d3, d4, d5] }
  | _ => none }
def DiskBackWrongFalsely : Prop := diskBackRow.holds Try.pinned (OpenSpec.ofChange diskBackWrong)

/-- 'seabaglaw04.DiskPlays': WHATEVER THE INPUT: true; the input reads as it did. -/
def diskPlaysSpec : ChangeSpec := { name := "diskPlays", fn := fun _ => fun
  | [d1, d2] => { results := [.lit (.bool true)], args := [d1, d2] }
  | _ => none }
def diskPlaysRow : OpenClaim := { program := "ytbcejodnjeklpaa", sum := "9023c3e5056082d48386391f5998c28f46c68ffe5da1f004349c4a34f94ec15b", func := "seabag/seabaglaw04.DiskPlays", spec := "diskPlays", inPlace := ["internal/bytealg.abigen_runtime_cmpstring", "internal/bytealg.IndexByteString", "slices.overlaps[seabag/dir.Entry]"], unfollowed := true, recurses := true, apart := false }
def DiskPlaysSaid : Prop := diskPlaysRow.holds Try.pinned (OpenSpec.ofChange diskPlaysSpec)

/-- ITS FALSE NEIGHBOUR: 'it returns false'. Refute it at one input. -/
def diskPlaysWrong : ChangeSpec := { name := "diskPlays", fn := fun _ => fun
  | [d1, d2] => { results := [.lit (.bool false)], args := [d1, d2] }
  | _ => none }
def DiskPlaysWrongFalsely : Prop := diskPlaysRow.holds Try.pinned (OpenSpec.ofChange diskPlaysWrong)

/- THE SECOND FORM. 'bulk': how many values and letters a reading holds, each counted each time it is reached (what is shared counts as often as it is met; a slice's spare places count too). A statement '..UptoSaid' is the law's where the arguments, and the package variables that the reading takes, are together of bulk at most 1048576: NARROWER than '..Said'. Prove '..Said' where nothing that the law and all that it calls make is longer than what came in: it says more and counts as full. Else prove '..UptoSaid'. A law counts once. -/
mutual
def uptoBulk {H : Type} : DataW H → Nat
  | .lit (.string bytes) => bytes.length + 1
  | .lit _ => 1
  | .nil => 1
  | .ptr d => uptoBulk d + 1
  | .slice elems spare => uptoBulkAll elems + uptoBulkAll spare + 1
  | .agg parts => uptoBulkAll parts + 1
  | .iface _ d => uptoBulk d + 1
  | .map entries => uptoBulkEntries entries + 1
  | .held _ => 1
def uptoBulkAll {H : Type} : List (DataW H) → Nat
  | [] => 0
  | d :: r => uptoBulk d + uptoBulkAll r
def uptoBulkEntries {H : Type} : List (Lit × DataW H) → Nat
  | [] => 0
  | x :: r => uptoBulkEntry x + uptoBulkEntries r
def uptoBulkEntry {H : Type} : Lit × DataW H → Nat
  | (.string bytes, d) => bytes.length + uptoBulk d + 1
  | (_, d) => uptoBulk d + 1
 end
def uptoSmall : (H : Type) → List (DataW H) → Bool := fun _ ds => decide (uptoBulkAll ds ≤ 1048576)
def OpenSpec.upto (s : _root_.Go.ChangeSpec) : _root_.Go.OpenSpec := { _root_.Go.OpenSpec.ofChange s with cond := some uptoSmall }

/-- 'seabaglaw04.DiskWrites', WHERE WHAT IT READS IS OF BULK AT MOST 1048576: true; the input reads as it did. -/
def diskWritesUptoRow : OpenClaim := { program := "ytbcejodnjeklpaa", sum := "9023c3e5056082d48386391f5998c28f46c68ffe5da1f004349c4a34f94ec15b", func := "seabag/seabaglaw04.DiskWrites", spec := "diskWrites", inPlace := ["internal/bytealg.abigen_runtime_cmpstring", "internal/bytealg.IndexByteString", "slices.overlaps[seabag/dir.Entry]"], unfollowed := true, recurses := true, apart := false, narrowed := true }
def DiskWritesUptoSaid : Prop := diskWritesUptoRow.holds Try.pinned (OpenSpec.upto diskWritesSpec)

/-- 'seabaglaw04.DiskRoom', WHERE WHAT IT READS IS OF BULK AT MOST 1048576: true; the input reads as it did. -/
def diskRoomUptoRow : OpenClaim := { program := "ytbcejodnjeklpaa", sum := "9023c3e5056082d48386391f5998c28f46c68ffe5da1f004349c4a34f94ec15b", func := "seabag/seabaglaw04.DiskRoom", spec := "diskRoom", inPlace := ["internal/bytealg.abigen_runtime_cmpstring", "internal/bytealg.IndexByteString", "slices.overlaps[seabag/dir.Entry]"], unfollowed := true, recurses := true, apart := false, narrowed := true }
def DiskRoomUptoSaid : Prop := diskRoomUptoRow.holds Try.pinned (OpenSpec.upto diskRoomSpec)

/-- 'seabaglaw04.DiskReads', WHERE WHAT IT READS IS OF BULK AT MOST 1048576: true; the input reads as it did. -/
def diskReadsUptoRow : OpenClaim := { program := "ytbcejodnjeklpaa", sum := "9023c3e5056082d48386391f5998c28f46c68ffe5da1f004349c4a34f94ec15b", func := "seabag/seabaglaw04.DiskReads", spec := "diskReads", inPlace := ["internal/bytealg.abigen_runtime_cmpstring", "internal/bytealg.IndexByteString", "slices.overlaps[seabag/dir.Entry]"], unfollowed := true, recurses := true, apart := false, narrowed := true }
def DiskReadsUptoSaid : Prop := diskReadsUptoRow.holds Try.pinned (OpenSpec.upto diskReadsSpec)

/-- 'seabaglaw04.DiskBack', WHERE WHAT IT READS IS OF BULK AT MOST 1048576: true; the input reads as it did. -/
def diskBackUptoRow : OpenClaim := { program := "ytbcejodnjeklpaa", sum := "9023c3e5056082d48386391f5998c28f46c68ffe5da1f004349c4a34f94ec15b", func := "seabag/seabaglaw04.DiskBack", spec := "diskBack", inPlace := ["internal/bytealg.abigen_runtime_cmpstring", "internal/bytealg.IndexByteString", "slices.overlaps[seabag/dir.Entry]"], unfollowed := true, recurses := true, apart := false, narrowed := true }
def DiskBackUptoSaid : Prop := diskBackUptoRow.holds Try.pinned (OpenSpec.upto diskBackSpec)

/-- 'seabaglaw04.DiskPlays', WHERE WHAT IT READS IS OF BULK AT MOST 1048576: true; the input reads as it did. -/
def diskPlaysUptoRow : OpenClaim := { program := "ytbcejodnjeklpaa", sum := "9023c3e5056082d48386391f5998c28f46c68ffe5da1f004349c4a34f94ec15b", func := "seabag/seabaglaw04.DiskPlays", spec := "diskPlays", inPlace := ["internal/bytealg.abigen_runtime_cmpstring", "internal/bytealg.IndexByteString", "slices.overlaps[seabag/dir.Entry]"], unfollowed := true, recurses := true, apart := false, narrowed := true }
def DiskPlaysUptoSaid : Prop := diskPlaysUptoRow.holds Try.pinned (OpenSpec.upto diskPlaysSpec)

end Rows
end Go.Proofs.Ytbcejodnjeklpaa
