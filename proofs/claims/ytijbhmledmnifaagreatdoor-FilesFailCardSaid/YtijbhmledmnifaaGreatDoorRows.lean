/-
  NARROWER THAN 'FOR EVERY INPUT', by the rows' own cells (each row's printed sentence says how): GlobFiles: laid · FilesFail: laid · FilesPlay: laid · FilesAsk: laid · FdPlays: laid · FdShuts: laid.
  DERIVED. THE GIVEN ROWS OF THIS SEAT. 6 by the template 'for every input the law returns true; each argument reads behind the call as it read before'; 0 by the template 'total and deterministic' (their statements: YtijbhmledmnifaaGreatDoorTotals.lean).
  GIVEN WITH THE SEED: the statements are not yours to turn. If you find one false, say at which input.
  Laid BY PROGRAM, IN A SANDBOX (cutbox-rows.mjs): the forced cells as the released guide's own fill.sh prints them over the translation dc0b606985ec49d6… (all of the seat's roots in one cut). By AI agents, Wed Nov 11 2026. No macro, syntax, notation, axiom, sorry.
-/
import Derived.Test.YtijbhmledmnifaaGreatDoorChecked
import GoSem.PinnedTables
import GoSem.Claim
import GoSem.ClaimJoined
import GoSem.ClaimMapViews
import Derived.JoinedTies
import Derived.KernelRfl
namespace Go.Proofs.YtijbhmledmnifaaGreatDoor
/- THE CELL 'sum', in the pinned program and in every row, IS THE sha256 OF THE DUMP (.gsa) THAT YtijbhmledmnifaaGreatDoorProg.lean LOADS. Nothing in Lean hashes anything: it is a label: what it is worth is what the hold of that sum in a sandbox is worth. -/
noncomputable def Tryz.pinned : Pinned := { name := "ytijbhmledmnifaagreatdoor", sum := "dc0b606985ec49d654d1ea5fa6c4b5fb9eb189ad2e18e6dbd1a9882178653729", checked := Tryz.checked }
namespace Rows
def none {H : Type} : Left H := { results := [], args := [] }

/- WHAT THE LISTED PACKAGE-LEVEL VARIABLES READ AS WHEN THE CALL BEGINS. Each datum BY PROGRAM (the guide's laid-datum.mjs) off the statement by which the dump's own 'gosem.cut.vars' lays the variable. In a bare row this is a premise. The card (YtijbhmledmnifaaGreatDoorCards.lean) ties it to the program's text. -/
def laid_unicode_utf8_acceptRanges {H : Type} : DataW H := .agg [.agg [.lit (.int .u8 128), .lit (.int .u8 191)], .agg [.lit (.int .u8 160), .lit (.int .u8 191)], .agg [.lit (.int .u8 128), .lit (.int .u8 159)], .agg [.lit (.int .u8 144), .lit (.int .u8 191)], .agg [.lit (.int .u8 128), .lit (.int .u8 143)], .agg [.lit (.int .u8 0), .lit (.int .u8 0)], .agg [.lit (.int .u8 0), .lit (.int .u8 0)], .agg [.lit (.int .u8 0), .lit (.int .u8 0)], .agg [.lit (.int .u8 0), .lit (.int .u8 0)], .agg [.lit (.int .u8 0), .lit (.int .u8 0)], .agg [.lit (.int .u8 0), .lit (.int .u8 0)], .agg [.lit (.int .u8 0), .lit (.int .u8 0)], .agg [.lit (.int .u8 0), .lit (.int .u8 0)], .agg [.lit (.int .u8 0), .lit (.int .u8 0)], .agg [.lit (.int .u8 0), .lit (.int .u8 0)], .agg [.lit (.int .u8 0), .lit (.int .u8 0)]]
/-- One of Go's own tables, pinned by name: the form's constant. -/
def laid_unicode_utf8_first : DataW Unit := Go.Pinned.utf8First

/-- 'seabaglaw21.GlobFiles': WHATEVER THE INPUT: true; the input reads as it did. -/
def globFilesSpec : ChangeSpec := { name := "globFiles", fn := fun _ => fun
  | [d1, d2] => { results := [.lit (.bool true)], args := [d1, d2] }
  | _ => none }
def globFilesRow : OpenClaim := { program := "ytijbhmledmnifaagreatdoor", sum := "dc0b606985ec49d654d1ea5fa6c4b5fb9eb189ad2e18e6dbd1a9882178653729", func := "seabag/seabaglaw21.GlobFiles", spec := "globFiles", inPlace := ["internal/bytealg.IndexByteString", "internal/bytealg.CountString", "internal/bytealg.IndexString", "internal/bytealg.abigen_runtime_cmpstring", "slices.overlaps[seabag/dir.Entry]", "internal/abi.NoEscape"], unfollowed := true, recurses := true, named := ["unicode/utf8.first", "unicode/utf8.acceptRanges", "internal/bytealg.MaxLen"], apart := false, laid := [("unicode/utf8.acceptRanges", laid_unicode_utf8_acceptRanges), ("unicode/utf8.first", laid_unicode_utf8_first)] }
def GlobFilesSaid : Prop := globFilesRow.holds Tryz.pinned (OpenSpec.ofChange globFilesSpec)

/-- ITS FALSE NEIGHBOUR: 'it returns false'. Refute it at one input. -/
def globFilesWrong : ChangeSpec := { name := "globFiles", fn := fun _ => fun
  | [d1, d2] => { results := [.lit (.bool false)], args := [d1, d2] }
  | _ => none }
def GlobFilesWrongFalsely : Prop := globFilesRow.holds Tryz.pinned (OpenSpec.ofChange globFilesWrong)

/-- 'seabaglaw06.FilesFail': WHATEVER THE INPUT: true; the input reads as it did. -/
def filesFailSpec : ChangeSpec := { name := "filesFail", fn := fun _ => fun
  | [d1, d2] => { results := [.lit (.bool true)], args := [d1, d2] }
  | _ => none }
def filesFailRow : OpenClaim := { program := "ytijbhmledmnifaagreatdoor", sum := "dc0b606985ec49d654d1ea5fa6c4b5fb9eb189ad2e18e6dbd1a9882178653729", func := "seabag/seabaglaw06.FilesFail", spec := "filesFail", inPlace := ["internal/bytealg.IndexByteString", "internal/bytealg.CountString", "internal/bytealg.IndexString", "internal/bytealg.abigen_runtime_cmpstring", "slices.overlaps[seabag/dir.Entry]"], unfollowed := true, recurses := true, named := ["unicode/utf8.first", "unicode/utf8.acceptRanges", "internal/bytealg.MaxLen"], apart := false, laid := [("unicode/utf8.acceptRanges", laid_unicode_utf8_acceptRanges), ("unicode/utf8.first", laid_unicode_utf8_first)] }
def FilesFailSaid : Prop := filesFailRow.holds Tryz.pinned (OpenSpec.ofChange filesFailSpec)

/-- ITS FALSE NEIGHBOUR: 'it returns false'. Refute it at one input. -/
def filesFailWrong : ChangeSpec := { name := "filesFail", fn := fun _ => fun
  | [d1, d2] => { results := [.lit (.bool false)], args := [d1, d2] }
  | _ => none }
def FilesFailWrongFalsely : Prop := filesFailRow.holds Tryz.pinned (OpenSpec.ofChange filesFailWrong)

/-- 'seabaglaw06.FilesPlay': WHATEVER THE INPUT: true; the input reads as it did. -/
def filesPlaySpec : ChangeSpec := { name := "filesPlay", fn := fun _ => fun
  | [d1, d2, d3, d4] => { results := [.lit (.bool true)], args := [d1, d2, d3, d4] }
  | _ => none }
def filesPlayRow : OpenClaim := { program := "ytijbhmledmnifaagreatdoor", sum := "dc0b606985ec49d654d1ea5fa6c4b5fb9eb189ad2e18e6dbd1a9882178653729", func := "seabag/seabaglaw06.FilesPlay", spec := "filesPlay", inPlace := ["internal/bytealg.IndexByteString", "internal/bytealg.CountString", "internal/bytealg.IndexString", "internal/bytealg.abigen_runtime_cmpstring", "slices.overlaps[seabag/dir.Entry]"], unfollowed := true, recurses := true, named := ["unicode/utf8.first", "unicode/utf8.acceptRanges", "internal/bytealg.MaxLen"], apart := false, laid := [("unicode/utf8.acceptRanges", laid_unicode_utf8_acceptRanges), ("unicode/utf8.first", laid_unicode_utf8_first)] }
def FilesPlaySaid : Prop := filesPlayRow.holds Tryz.pinned (OpenSpec.ofChange filesPlaySpec)

/-- ITS FALSE NEIGHBOUR: 'it returns false'. Refute it at one input. -/
def filesPlayWrong : ChangeSpec := { name := "filesPlay", fn := fun _ => fun
  | [d1, d2, d3, d4] => { results := [.lit (.bool false)], args := [d1, d2, d3, d4] }
  | _ => none }
def FilesPlayWrongFalsely : Prop := filesPlayRow.holds Tryz.pinned (OpenSpec.ofChange filesPlayWrong)

/-- 'seabaglaw06.FilesAsk': WHATEVER THE INPUT: true; the input reads as it did. -/
def filesAskSpec : ChangeSpec := { name := "filesAsk", fn := fun _ => fun
  | [d1, d2, d3] => { results := [.lit (.bool true)], args := [d1, d2, d3] }
  | _ => none }
def filesAskRow : OpenClaim := { program := "ytijbhmledmnifaagreatdoor", sum := "dc0b606985ec49d654d1ea5fa6c4b5fb9eb189ad2e18e6dbd1a9882178653729", func := "seabag/seabaglaw06.FilesAsk", spec := "filesAsk", inPlace := ["internal/bytealg.IndexByteString", "internal/bytealg.CountString", "internal/bytealg.IndexString", "internal/bytealg.abigen_runtime_cmpstring", "slices.overlaps[seabag/dir.Entry]"], unfollowed := true, recurses := true, named := ["unicode/utf8.first", "unicode/utf8.acceptRanges", "internal/bytealg.MaxLen"], apart := false, laid := [("unicode/utf8.acceptRanges", laid_unicode_utf8_acceptRanges), ("unicode/utf8.first", laid_unicode_utf8_first)] }
def FilesAskSaid : Prop := filesAskRow.holds Tryz.pinned (OpenSpec.ofChange filesAskSpec)

/-- ITS FALSE NEIGHBOUR: 'it returns false'. Refute it at one input. -/
def filesAskWrong : ChangeSpec := { name := "filesAsk", fn := fun _ => fun
  | [d1, d2, d3] => { results := [.lit (.bool false)], args := [d1, d2, d3] }
  | _ => none }
def FilesAskWrongFalsely : Prop := filesAskRow.holds Tryz.pinned (OpenSpec.ofChange filesAskWrong)

/-- 'seabaglaw07.FdPlays': WHATEVER THE INPUT: true; the input reads as it did. -/
def fdPlaysSpec : ChangeSpec := { name := "fdPlays", fn := fun _ => fun
  | [d1, d2, d3, d4, d5] => { results := [.lit (.bool true)], args := [d1, d2, d3, d4, d5] }
  | _ => none }
def fdPlaysRow : OpenClaim := { program := "ytijbhmledmnifaagreatdoor", sum := "dc0b606985ec49d654d1ea5fa6c4b5fb9eb189ad2e18e6dbd1a9882178653729", func := "seabag/seabaglaw07.FdPlays", spec := "fdPlays", inPlace := ["internal/bytealg.IndexByteString", "internal/bytealg.CountString", "internal/bytealg.IndexString", "internal/bytealg.abigen_runtime_cmpstring", "slices.overlaps[seabag/dir.Entry]"], unfollowed := true, recurses := true, named := ["unicode/utf8.first", "unicode/utf8.acceptRanges", "internal/bytealg.MaxLen"], apart := false, laid := [("unicode/utf8.acceptRanges", laid_unicode_utf8_acceptRanges), ("unicode/utf8.first", laid_unicode_utf8_first)] }
def FdPlaysSaid : Prop := fdPlaysRow.holds Tryz.pinned (OpenSpec.ofChange fdPlaysSpec)

/-- ITS FALSE NEIGHBOUR: 'it returns false'. Refute it at one input. -/
def fdPlaysWrong : ChangeSpec := { name := "fdPlays", fn := fun _ => fun
  | [d1, d2, d3, d4, d5] => { results := [.lit (.bool false)], args := [d1, d2, d3, d4, d5] }
  | _ => none }
def FdPlaysWrongFalsely : Prop := fdPlaysRow.holds Tryz.pinned (OpenSpec.ofChange fdPlaysWrong)

/-- 'seabaglaw07.FdShuts': WHATEVER THE INPUT: true; the input reads as it did. -/
def fdShutsSpec : ChangeSpec := { name := "fdShuts", fn := fun _ => fun
  | [d] => { results := [.lit (.bool true)], args := [d] }
  | _ => none }
def fdShutsRow : OpenClaim := { program := "ytijbhmledmnifaagreatdoor", sum := "dc0b606985ec49d654d1ea5fa6c4b5fb9eb189ad2e18e6dbd1a9882178653729", func := "seabag/seabaglaw07.FdShuts", spec := "fdShuts", inPlace := ["internal/bytealg.IndexByteString", "internal/bytealg.CountString", "internal/bytealg.IndexString", "internal/bytealg.abigen_runtime_cmpstring", "slices.overlaps[seabag/dir.Entry]"], unfollowed := true, recurses := true, named := ["unicode/utf8.first", "unicode/utf8.acceptRanges", "internal/bytealg.MaxLen"], apart := false, laid := [("unicode/utf8.acceptRanges", laid_unicode_utf8_acceptRanges), ("unicode/utf8.first", laid_unicode_utf8_first)] }
def FdShutsSaid : Prop := fdShutsRow.holds Tryz.pinned (OpenSpec.ofChange fdShutsSpec)

/-- ITS FALSE NEIGHBOUR: 'it returns false'. Refute it at one input. -/
def fdShutsWrong : ChangeSpec := { name := "fdShuts", fn := fun _ => fun
  | [d] => { results := [.lit (.bool false)], args := [d] }
  | _ => none }
def FdShutsWrongFalsely : Prop := fdShutsRow.holds Tryz.pinned (OpenSpec.ofChange fdShutsWrong)

/- THE SECOND FORM. 'bulk': how many values and letters a reading holds, each counted each time it is reached (what is shared counts as often as it is met; a slice's spare places count too). A statement '..UptoSaid' is the law's where the arguments, and the package variables that the reading takes, are together of bulk at most 1048576: NARROWER than '..Said'. Prove '..Said' where nothing that the law and all that it calls make is longer than what came in: it says more and counts as full. Else prove '..UptoSaid'. A law counts once. -/
mutual
def uptoBulk {H : Type} : DataW H → Nat
  | .lit (.string bytes) => bytes.length + 1
  | .lit _ => 1
  | .nil => 1
  | .ptr d => uptoBulk d + 1
  | .slice elems spare => uptoBulkAll elems + uptoBulkAll spare + 1
  | .agg parts => uptoBulkAll parts + 1
  | .iface _ d => uptoBulk d + 1
  | .map entries => uptoBulkEntries entries + 1
  | .held _ => 1
def uptoBulkAll {H : Type} : List (DataW H) → Nat
  | [] => 0
  | d :: r => uptoBulk d + uptoBulkAll r
def uptoBulkEntries {H : Type} : List (Lit × DataW H) → Nat
  | [] => 0
  | x :: r => uptoBulkEntry x + uptoBulkEntries r
def uptoBulkEntry {H : Type} : Lit × DataW H → Nat
  | (.string bytes, d) => bytes.length + uptoBulk d + 1
  | (_, d) => uptoBulk d + 1
 end
def uptoSmall : (H : Type) → List (DataW H) → Bool := fun _ ds => decide (uptoBulkAll ds ≤ 1048576)
def OpenSpec.upto (s : _root_.Go.ChangeSpec) : _root_.Go.OpenSpec := { _root_.Go.OpenSpec.ofChange s with cond := some uptoSmall }

/-- 'seabaglaw21.GlobFiles', WHERE WHAT IT READS IS OF BULK AT MOST 1048576: true; the input reads as it did. -/
def globFilesUptoRow : OpenClaim := { program := "ytijbhmledmnifaagreatdoor", sum := "dc0b606985ec49d654d1ea5fa6c4b5fb9eb189ad2e18e6dbd1a9882178653729", func := "seabag/seabaglaw21.GlobFiles", spec := "globFiles", inPlace := ["internal/bytealg.IndexByteString", "internal/bytealg.CountString", "internal/bytealg.IndexString", "internal/bytealg.abigen_runtime_cmpstring", "slices.overlaps[seabag/dir.Entry]", "internal/abi.NoEscape"], unfollowed := true, recurses := true, named := ["unicode/utf8.first", "unicode/utf8.acceptRanges", "internal/bytealg.MaxLen"], apart := false, laid := [("unicode/utf8.acceptRanges", laid_unicode_utf8_acceptRanges), ("unicode/utf8.first", laid_unicode_utf8_first)], narrowed := true }
def GlobFilesUptoSaid : Prop := globFilesUptoRow.holds Tryz.pinned (OpenSpec.upto globFilesSpec)

/-- 'seabaglaw06.FilesFail', WHERE WHAT IT READS IS OF BULK AT MOST 1048576: true; the input reads as it did. -/
def filesFailUptoRow : OpenClaim := { program := "ytijbhmledmnifaagreatdoor", sum := "dc0b606985ec49d654d1ea5fa6c4b5fb9eb189ad2e18e6dbd1a9882178653729", func := "seabag/seabaglaw06.FilesFail", spec := "filesFail", inPlace := ["internal/bytealg.IndexByteString", "internal/bytealg.CountString", "internal/bytealg.IndexString", "internal/bytealg.abigen_runtime_cmpstring", "slices.overlaps[seabag/dir.Entry]"], unfollowed := true, recurses := true, named := ["unicode/utf8.first", "unicode/utf8.acceptRanges", "internal/bytealg.MaxLen"], apart := false, laid := [("unicode/utf8.acceptRanges", laid_unicode_utf8_acceptRanges), ("unicode/utf8.first", laid_unicode_utf8_first)], narrowed := true }
def FilesFailUptoSaid : Prop := filesFailUptoRow.holds Tryz.pinned (OpenSpec.upto filesFailSpec)

/-- 'seabaglaw06.FilesPlay', WHERE WHAT IT READS IS OF BULK AT MOST 1048576: true; the input reads as it did. -/
def filesPlayUptoRow : OpenClaim := { program := "ytijbhmledmnifaagreatdoor", sum := "dc0b606985ec49d654d1ea5fa6c4b5fb9eb189ad2e18e6dbd1a9882178653729", func := "seabag/seabaglaw06.FilesPlay", spec := "filesPlay", inPlace := ["internal/bytealg.IndexByteString", "internal/bytealg.CountString", "internal/bytealg.IndexString", "internal/bytealg.abigen_runtime_cmpstring", "slices.overlaps[seabag/dir.Entry]"], unfollowed := true, recurses := true, named := ["unicode/utf8.first", "unicode/utf8.acceptRanges", "internal/bytealg.MaxLen"], apart := false, laid := [("unicode/utf8.acceptRanges", laid_unicode_utf8_acceptRanges), ("unicode/utf8.first", laid_unicode_utf8_first)], narrowed := true }
def FilesPlayUptoSaid : Prop := filesPlayUptoRow.holds Tryz.pinned (OpenSpec.upto filesPlaySpec)

/-- 'seabaglaw06.FilesAsk', WHERE WHAT IT READS IS OF BULK AT MOST 1048576: true; the input reads as it did. -/
def filesAskUptoRow : OpenClaim := { program := "ytijbhmledmnifaagreatdoor", sum := "dc0b606985ec49d654d1ea5fa6c4b5fb9eb189ad2e18e6dbd1a9882178653729", func := "seabag/seabaglaw06.FilesAsk", spec := "filesAsk", inPlace := ["internal/bytealg.IndexByteString", "internal/bytealg.CountString", "internal/bytealg.IndexString", "internal/bytealg.abigen_runtime_cmpstring", "slices.overlaps[seabag/dir.Entry]"], unfollowed := true, recurses := true, named := ["unicode/utf8.first", "unicode/utf8.acceptRanges", "internal/bytealg.MaxLen"], apart := false, laid := [("unicode/utf8.acceptRanges", laid_unicode_utf8_acceptRanges), ("unicode/utf8.first", laid_unicode_utf8_first)], narrowed := true }
def FilesAskUptoSaid : Prop := filesAskUptoRow.holds Tryz.pinned (OpenSpec.upto filesAskSpec)

/-- 'seabaglaw07.FdPlays', WHERE WHAT IT READS IS OF BULK AT MOST 1048576: true; the input reads as it did. -/
def fdPlaysUptoRow : OpenClaim := { program := "ytijbhmledmnifaagreatdoor", sum := "dc0b606985ec49d654d1ea5fa6c4b5fb9eb189ad2e18e6dbd1a9882178653729", func := "seabag/seabaglaw07.FdPlays", spec := "fdPlays", inPlace := ["internal/bytealg.IndexByteString", "internal/bytealg.CountString", "internal/bytealg.IndexString", "internal/bytealg.abigen_runtime_cmpstring", "slices.overlaps[seabag/dir.Entry]"], unfollowed := true, recurses := true, named := ["unicode/utf8.first", "unicode/utf8.acceptRanges", "internal/bytealg.MaxLen"], apart := false, laid := [("unicode/utf8.acceptRanges", laid_unicode_utf8_acceptRanges), ("unicode/utf8.first", laid_unicode_utf8_first)], narrowed := true }
def FdPlaysUptoSaid : Prop := fdPlaysUptoRow.holds Tryz.pinned (OpenSpec.upto fdPlaysSpec)

/-- 'seabaglaw07.FdShuts', WHERE WHAT IT READS IS OF BULK AT MOST 1048576: true; the input reads as it did. -/
def fdShutsUptoRow : OpenClaim := { program := "ytijbhmledmnifaagreatdoor", sum := "dc0b606985ec49d654d1ea5fa6c4b5fb9eb189ad2e18e6dbd1a9882178653729", func := "seabag/seabaglaw07.FdShuts", spec := "fdShuts", inPlace := ["internal/bytealg.IndexByteString", "internal/bytealg.CountString", "internal/bytealg.IndexString", "internal/bytealg.abigen_runtime_cmpstring", "slices.overlaps[seabag/dir.Entry]"], unfollowed := true, recurses := true, named := ["unicode/utf8.first", "unicode/utf8.acceptRanges", "internal/bytealg.MaxLen"], apart := false, laid := [("unicode/utf8.acceptRanges", laid_unicode_utf8_acceptRanges), ("unicode/utf8.first", laid_unicode_utf8_first)], narrowed := true }
def FdShutsUptoSaid : Prop := fdShutsUptoRow.holds Tryz.pinned (OpenSpec.upto fdShutsSpec)

end Rows
end Go.Proofs.YtijbhmledmnifaaGreatDoor
