/-
  NARROWER THAN 'FOR EVERY INPUT', by the rows' own cells (each row's printed sentence says how): WalkDots: laid · WalkLoops: laid · WalkFinds: laid · WalkWhole: laid.
  DERIVED. THE GIVEN ROWS OF THIS SEAT. 4 by the template 'for every input the law returns true; each argument reads behind the call as it read before'; 0 by the template 'total and deterministic' (their statements: YtbcejodnjeklpaaDoorTotals.lean).
  GIVEN WITH THE SEED: the statements are not yours to turn. If you find one false, say at which input.
  Laid BY PROGRAM, IN A SANDBOX (cutbox-rows.mjs): the forced cells as the released guide's own fill.sh prints them over the translation e7bd1f95d0e7efcb… (all of the seat's roots in one cut). By AI agents, Wed Nov 11 2026. No macro, syntax, notation, axiom, sorry.
-/
import Derived.Test.YtbcejodnjeklpaaDoorChecked
import GoSem.PinnedTables
import GoSem.Claim
import GoSem.ClaimJoined
import GoSem.ClaimMapViews
import Derived.JoinedTies
import Derived.KernelRfl
namespace Go.Proofs.YtbcejodnjeklpaaDoor
/- THE CELL 'sum', in the pinned program and in every row, IS THE sha256 OF THE DUMP (.gsa) THAT YtbcejodnjeklpaaDoorProg.lean LOADS. Nothing in Lean hashes anything: it is a label: what it is worth is what the hold of that sum in a sandbox is worth. -/
noncomputable def Tryd.pinned : Pinned := { name := "ytbcejodnjeklpaadoor", sum := "e7bd1f95d0e7efcbfd6516d7231c9f21b6621caf5255b576b715626e24e91b6a", checked := Tryd.checked }
namespace Rows
def none {H : Type} : Left H := { results := [], args := [] }

/- WHAT THE LISTED PACKAGE-LEVEL VARIABLES READ AS WHEN THE CALL BEGINS. Each datum BY PROGRAM (the guide's laid-datum.mjs) off the statement by which the dump's own 'gosem.cut.vars' lays the variable. In a bare row this is a premise. The card (YtbcejodnjeklpaaDoorCards.lean) ties it to the program's text. -/
def laid_unicode_utf8_acceptRanges {H : Type} : DataW H := .agg [.agg [.lit (.int .u8 128), .lit (.int .u8 191)], .agg [.lit (.int .u8 160), .lit (.int .u8 191)], .agg [.lit (.int .u8 128), .lit (.int .u8 159)], .agg [.lit (.int .u8 144), .lit (.int .u8 191)], .agg [.lit (.int .u8 128), .lit (.int .u8 143)], .agg [.lit (.int .u8 0), .lit (.int .u8 0)], .agg [.lit (.int .u8 0), .lit (.int .u8 0)], .agg [.lit (.int .u8 0), .lit (.int .u8 0)], .agg [.lit (.int .u8 0), .lit (.int .u8 0)], .agg [.lit (.int .u8 0), .lit (.int .u8 0)], .agg [.lit (.int .u8 0), .lit (.int .u8 0)], .agg [.lit (.int .u8 0), .lit (.int .u8 0)], .agg [.lit (.int .u8 0), .lit (.int .u8 0)], .agg [.lit (.int .u8 0), .lit (.int .u8 0)], .agg [.lit (.int .u8 0), .lit (.int .u8 0)], .agg [.lit (.int .u8 0), .lit (.int .u8 0)]]
/-- One of Go's own tables, pinned by name: the form's constant. -/
def laid_unicode_utf8_first : DataW Unit := Go.Pinned.utf8First

/-- 'seabaglaw05.WalkDots': WHATEVER THE INPUT: true; the input reads as it did. -/
def walkDotsSpec : ChangeSpec := { name := "walkDots", fn := fun _ => fun
  | [d1, d2, d3] => { results := [.lit (.bool true)], args := [d1, d2, d3] }
  | _ => none }
def walkDotsRow : OpenClaim := { program := "ytbcejodnjeklpaadoor", sum := "e7bd1f95d0e7efcbfd6516d7231c9f21b6621caf5255b576b715626e24e91b6a", func := "seabag/seabaglaw05.WalkDots", spec := "walkDots", inPlace := ["internal/bytealg.abigen_runtime_cmpstring", "internal/bytealg.IndexByteString", "slices.overlaps[seabag/dir.Entry]", "internal/bytealg.CountString", "internal/bytealg.IndexString"], unfollowed := true, recurses := true, named := ["unicode/utf8.first", "unicode/utf8.acceptRanges", "internal/bytealg.MaxLen"], apart := false, laid := [("unicode/utf8.acceptRanges", laid_unicode_utf8_acceptRanges), ("unicode/utf8.first", laid_unicode_utf8_first)] }
def WalkDotsSaid : Prop := walkDotsRow.holds Tryd.pinned (OpenSpec.ofChange walkDotsSpec)

/-- ITS FALSE NEIGHBOUR: 'it returns false'. Refute it at one input. -/
def walkDotsWrong : ChangeSpec := { name := "walkDots", fn := fun _ => fun
  | [d1, d2, d3] => { results := [.lit (.bool false)], args := [d1, d2, d3] }
  | _ => none }
def WalkDotsWrongFalsely : Prop := walkDotsRow.holds Tryd.pinned (OpenSpec.ofChange walkDotsWrong)

/-- 'seabaglaw05.WalkLoops': WHATEVER THE INPUT: true; the input reads as it did. -/
def walkLoopsSpec : ChangeSpec := { name := "walkLoops", fn := fun _ => fun
  | [d1, d2] => { results := [.lit (.bool true)], args := [d1, d2] }
  | _ => none }
def walkLoopsRow : OpenClaim := { program := "ytbcejodnjeklpaadoor", sum := "e7bd1f95d0e7efcbfd6516d7231c9f21b6621caf5255b576b715626e24e91b6a", func := "seabag/seabaglaw05.WalkLoops", spec := "walkLoops", inPlace := ["internal/bytealg.abigen_runtime_cmpstring", "internal/bytealg.IndexByteString", "slices.overlaps[seabag/dir.Entry]", "internal/bytealg.CountString", "internal/bytealg.IndexString"], unfollowed := true, recurses := true, named := ["unicode/utf8.first", "unicode/utf8.acceptRanges", "internal/bytealg.MaxLen"], apart := false, laid := [("unicode/utf8.acceptRanges", laid_unicode_utf8_acceptRanges), ("unicode/utf8.first", laid_unicode_utf8_first)] }
def WalkLoopsSaid : Prop := walkLoopsRow.holds Tryd.pinned (OpenSpec.ofChange walkLoopsSpec)

/-- ITS FALSE NEIGHBOUR: 'it returns false'. Refute it at one input. -/
def walkLoopsWrong : ChangeSpec := { name := "walkLoops", fn := fun _ => fun
  | [d1, d2] => { results := [.lit (.bool false)], args := [d1, d2] }
  | _ => none }
def WalkLoopsWrongFalsely : Prop := walkLoopsRow.holds Tryd.pinned (OpenSpec.ofChange walkLoopsWrong)

/-- 'seabaglaw05.WalkFinds': WHATEVER THE INPUT: true; the input reads as it did. -/
def walkFindsSpec : ChangeSpec := { name := "walkFinds", fn := fun _ => fun
  | [d1, d2, d3, d4] => { results := [.lit (.bool true)], args := [d1, d2, d3, d4] }
  | _ => none }
def walkFindsRow : OpenClaim := { program := "ytbcejodnjeklpaadoor", sum := "e7bd1f95d0e7efcbfd6516d7231c9f21b6621caf5255b576b715626e24e91b6a", func := "seabag/seabaglaw05.WalkFinds", spec := "walkFinds", inPlace := ["internal/bytealg.abigen_runtime_cmpstring", "internal/bytealg.IndexByteString", "slices.overlaps[seabag/dir.Entry]", "internal/bytealg.CountString", "internal/bytealg.IndexString"], unfollowed := true, recurses := true, named := ["unicode/utf8.first", "unicode/utf8.acceptRanges", "internal/bytealg.MaxLen"], apart := false, laid := [("unicode/utf8.acceptRanges", laid_unicode_utf8_acceptRanges), ("unicode/utf8.first", laid_unicode_utf8_first)] }
def WalkFindsSaid : Prop := walkFindsRow.holds Tryd.pinned (OpenSpec.ofChange walkFindsSpec)

/-- ITS FALSE NEIGHBOUR: 'it returns false'. Refute it at one input. -/
def walkFindsWrong : ChangeSpec := { name := "walkFinds", fn := fun _ => fun
  | [d1, d2, d3, d4] => { results := [.lit (.bool false)], args := [d1, d2, d3, d4] }
  | _ => none }
def WalkFindsWrongFalsely : Prop := walkFindsRow.holds Tryd.pinned (OpenSpec.ofChange walkFindsWrong)

/-- 'seabaglaw05.WalkWhole': WHATEVER THE INPUT: true; the input reads as it did. -/
def walkWholeSpec : ChangeSpec := { name := "walkWhole", fn := fun _ => fun
  | [d1, d2] => { results := [.lit (.bool true)], args := [d1, d2] }
  | _ => none }
def walkWholeRow : OpenClaim := { program := "ytbcejodnjeklpaadoor", sum := "e7bd1f95d0e7efcbfd6516d7231c9f21b6621caf5255b576b715626e24e91b6a", func := "seabag/seabaglaw05.WalkWhole", spec := "walkWhole", inPlace := ["internal/bytealg.abigen_runtime_cmpstring", "internal/bytealg.IndexByteString", "slices.overlaps[seabag/dir.Entry]", "internal/bytealg.CountString", "internal/bytealg.IndexString"], unfollowed := true, recurses := true, named := ["unicode/utf8.first", "unicode/utf8.acceptRanges", "internal/bytealg.MaxLen"], apart := false, laid := [("unicode/utf8.acceptRanges", laid_unicode_utf8_acceptRanges), ("unicode/utf8.first", laid_unicode_utf8_first)] }
def WalkWholeSaid : Prop := walkWholeRow.holds Tryd.pinned (OpenSpec.ofChange walkWholeSpec)

/-- ITS FALSE NEIGHBOUR: 'it returns false'. Refute it at one input. -/
def walkWholeWrong : ChangeSpec := { name := "walkWhole", fn := fun _ => fun
  | [d1, d2] => { results := [.lit (.bool false)], args := [d1, d2] }
  | _ => none }
def WalkWholeWrongFalsely : Prop := walkWholeRow.holds Tryd.pinned (OpenSpec.ofChange walkWholeWrong)

/- THE SECOND FORM. 'bulk': how many values and letters a reading holds, each counted each time it is reached (what is shared counts as often as it is met; a slice's spare places count too). A statement '..UptoSaid' is the law's where the arguments, and the package variables that the reading takes, are together of bulk at most 1048576: NARROWER than '..Said'. Prove '..Said' where nothing that the law and all that it calls make is longer than what came in: it says more and counts as full. Else prove '..UptoSaid'. A law counts once. -/
mutual
def uptoBulk {H : Type} : DataW H → Nat
  | .lit (.string bytes) => bytes.length + 1
  | .lit _ => 1
  | .nil => 1
  | .ptr d => uptoBulk d + 1
  | .slice elems spare => uptoBulkAll elems + uptoBulkAll spare + 1
  | .agg parts => uptoBulkAll parts + 1
  | .iface _ d => uptoBulk d + 1
  | .map entries => uptoBulkEntries entries + 1
  | .held _ => 1
def uptoBulkAll {H : Type} : List (DataW H) → Nat
  | [] => 0
  | d :: r => uptoBulk d + uptoBulkAll r
def uptoBulkEntries {H : Type} : List (Lit × DataW H) → Nat
  | [] => 0
  | x :: r => uptoBulkEntry x + uptoBulkEntries r
def uptoBulkEntry {H : Type} : Lit × DataW H → Nat
  | (.string bytes, d) => bytes.length + uptoBulk d + 1
  | (_, d) => uptoBulk d + 1
 end
def uptoSmall : (H : Type) → List (DataW H) → Bool := fun _ ds => decide (uptoBulkAll ds ≤ 1048576)
def OpenSpec.upto (s : _root_.Go.ChangeSpec) : _root_.Go.OpenSpec := { _root_.Go.OpenSpec.ofChange s with cond := some uptoSmall }

/-- 'seabaglaw05.WalkDots', WHERE WHAT IT READS IS OF BULK AT MOST 1048576: true; the input reads as it did. -/
def walkDotsUptoRow : OpenClaim := { program := "ytbcejodnjeklpaadoor", sum := "e7bd1f95d0e7efcbfd6516d7231c9f21b6621caf5255b576b715626e24e91b6a", func := "seabag/seabaglaw05.WalkDots", spec := "walkDots", inPlace := ["internal/bytealg.abigen_runtime_cmpstring", "internal/bytealg.IndexByteString", "slices.overlaps[seabag/dir.Entry]", "internal/bytealg.CountString", "internal/bytealg.IndexString"], unfollowed := true, recurses := true, named := ["unicode/utf8.first", "unicode/utf8.acceptRanges", "internal/bytealg.MaxLen"], apart := false, laid := [("unicode/utf8.acceptRanges", laid_unicode_utf8_acceptRanges), ("unicode/utf8.first", laid_unicode_utf8_first)], narrowed := true }
def WalkDotsUptoSaid : Prop := walkDotsUptoRow.holds Tryd.pinned (OpenSpec.upto walkDotsSpec)

/-- 'seabaglaw05.WalkLoops', WHERE WHAT IT READS IS OF BULK AT MOST 1048576: true; the input reads as it did. -/
def walkLoopsUptoRow : OpenClaim := { program := "ytbcejodnjeklpaadoor", sum := "e7bd1f95d0e7efcbfd6516d7231c9f21b6621caf5255b576b715626e24e91b6a", func := "seabag/seabaglaw05.WalkLoops", spec := "walkLoops", inPlace := ["internal/bytealg.abigen_runtime_cmpstring", "internal/bytealg.IndexByteString", "slices.overlaps[seabag/dir.Entry]", "internal/bytealg.CountString", "internal/bytealg.IndexString"], unfollowed := true, recurses := true, named := ["unicode/utf8.first", "unicode/utf8.acceptRanges", "internal/bytealg.MaxLen"], apart := false, laid := [("unicode/utf8.acceptRanges", laid_unicode_utf8_acceptRanges), ("unicode/utf8.first", laid_unicode_utf8_first)], narrowed := true }
def WalkLoopsUptoSaid : Prop := walkLoopsUptoRow.holds Tryd.pinned (OpenSpec.upto walkLoopsSpec)

/-- 'seabaglaw05.WalkFinds', WHERE WHAT IT READS IS OF BULK AT MOST 1048576: true; the input reads as it did. -/
def walkFindsUptoRow : OpenClaim := { program := "ytbcejodnjeklpaadoor", sum := "e7bd1f95d0e7efcbfd6516d7231c9f21b6621caf5255b576b715626e24e91b6a", func := "seabag/seabaglaw05.WalkFinds", spec := "walkFinds", inPlace := ["internal/bytealg.abigen_runtime_cmpstring", "internal/bytealg.IndexByteString", "slices.overlaps[seabag/dir.Entry]", "internal/bytealg.CountString", "internal/bytealg.IndexString"], unfollowed := true, recurses := true, named := ["unicode/utf8.first", "unicode/utf8.acceptRanges", "internal/bytealg.MaxLen"], apart := false, laid := [("unicode/utf8.acceptRanges", laid_unicode_utf8_acceptRanges), ("unicode/utf8.first", laid_unicode_utf8_first)], narrowed := true }
def WalkFindsUptoSaid : Prop := walkFindsUptoRow.holds Tryd.pinned (OpenSpec.upto walkFindsSpec)

/-- 'seabaglaw05.WalkWhole', WHERE WHAT IT READS IS OF BULK AT MOST 1048576: true; the input reads as it did. -/
def walkWholeUptoRow : OpenClaim := { program := "ytbcejodnjeklpaadoor", sum := "e7bd1f95d0e7efcbfd6516d7231c9f21b6621caf5255b576b715626e24e91b6a", func := "seabag/seabaglaw05.WalkWhole", spec := "walkWhole", inPlace := ["internal/bytealg.abigen_runtime_cmpstring", "internal/bytealg.IndexByteString", "slices.overlaps[seabag/dir.Entry]", "internal/bytealg.CountString", "internal/bytealg.IndexString"], unfollowed := true, recurses := true, named := ["unicode/utf8.first", "unicode/utf8.acceptRanges", "internal/bytealg.MaxLen"], apart := false, laid := [("unicode/utf8.acceptRanges", laid_unicode_utf8_acceptRanges), ("unicode/utf8.first", laid_unicode_utf8_first)], narrowed := true }
def WalkWholeUptoSaid : Prop := walkWholeUptoRow.holds Tryd.pinned (OpenSpec.upto walkWholeSpec)

end Rows
end Go.Proofs.YtbcejodnjeklpaaDoor
