/-
  ToolCopies: the closed facts of its row, a theorem each. 
-/
import Derived.Test.YtimidmogcbapnaaGreatDoorRows
import Derived.Test.YtimidmogcbapnaaGreatDoorChecked
import Derived.ProofKit
import Derived.JoinedOf

set_option linter.unusedSimpArgs false
set_option linter.unusedVariables false

set_option maxRecDepth 100000
namespace Go.Proofs.YtimidmogcbapnaaGreatDoor
theorem and_facts {a b : Bool} (h : a = true) (k : b = true) : (a && b) = true := by rw [h, k]; rfl
theorem factToolCopies0 : (Rows.toolCopiesRow.wf (OpenSpec.ofChange Rows.toolCopiesSpec)) = true := by kernel_rfl
theorem factToolCopies1 : (laidOutB Tryz.prog) = true := by kernel_rfl
theorem factToolCopies2 : (mapsRowed Tryz.prog) = true := by kernel_rfl
theorem factToolCopies3 : (Tryz.f3.params.all (Tryz.prog.readableRec ·)) = true := by kernel_rfl
theorem factToolCopies4 : (namedTie Tryz.prog Rows.toolCopiesRow.named Rows.toolCopiesSpec.vars) = true := by kernel_rfl
theorem factToolCopies5 : ((Rows.toolCopiesRow.stops == [])) = true := by kernel_rfl
theorem factToolCopies6 : ((Tryz.prog.stops == [])) = true := by kernel_rfl
theorem factToolCopies7 : ((Rows.toolCopiesRow.knobs == [])) = true := by kernel_rfl
theorem factToolCopies8 : ((Tryz.prog.stopKnobs == [])) = true := by kernel_rfl
theorem factToolCopies9 : ((Rows.toolCopiesRow.inPlace == Tryz.prog.inPlace 3)) = true := by kernel_rfl
theorem factToolCopies10 : ((Rows.toolCopiesRow.unfollowed == Tryz.prog.unfollowed 3)) = true := by kernel_rfl
theorem factToolCopies11 : ((Rows.toolCopiesRow.recurses == Tryz.prog.recurses 3)) = true := by kernel_rfl
theorem factToolCopies12 : ((Rows.toolCopiesRow.named == Tryz.prog.varsNamed 3)) = true := by kernel_rfl
theorem factToolCopies13 : ((Rows.toolCopiesRow.maps == (Tryz.f3.params.toList ++ Rows.toolCopiesSpec.plain.varTypes Tryz.prog).any (Tryz.prog.mapsRec ·))) = true := by kernel_rfl
theorem factToolCopies14 : ((Rows.toolCopiesRow.ifaces == (Tryz.f3.params.toList ++ Rows.toolCopiesSpec.plain.varTypes Tryz.prog).any (Tryz.prog.ifacesRec ·))) = true := by kernel_rfl
theorem factToolCopies15 : ((Rows.toolCopiesRow.mapsOut == Tryz.prog.mapsAmong Tryz.f3.resultTypes.toList)) = true := by kernel_rfl
theorem factToolCopies16 : ((Rows.toolCopiesRow.loops == (Tryz.f3.params.toList ++ Rows.toolCopiesSpec.plain.varTypes Tryz.prog).any (Tryz.prog.loopsFrom ·))) = true := by kernel_rfl
theorem factToolCopies17 : ((Rows.toolCopiesRow.wideKeys == (Tryz.f3.params.toList ++ Rows.toolCopiesSpec.plain.varTypes Tryz.prog ++ Tryz.f3.resultTypes.toList).any (Tryz.prog.wideKeysFrom ·))) = true := by kernel_rfl
theorem factToolCopies18 : (Rows.toolCopiesSpec.vars.all (Tryz.prog.varReadable ·)) = true := by kernel_rfl
theorem factToolCopies19 : (Tryz.f3.resultTypes.all (fun t => Tryz.prog.readableRec t && decide (t < Tryz.prog.types.size))) = true := by kernel_rfl
theorem factToolCopies20 : ((Rows.toolCopiesRow.ifacesOut == Tryz.f3.resultTypes.toList.any (Tryz.prog.ifacesRec ·))) = true := by kernel_rfl
theorem factToolCopies21 : ((Rows.toolCopiesRow.loopsOut == Tryz.f3.resultTypes.toList.any (Tryz.prog.loopsFrom ·))) = true := by kernel_rfl
theorem factToolCopies22 : ((Rows.toolCopiesRow.plainKeys == Tryz.prog.plainKeys)) = true := by kernel_rfl
theorem factToolCopies23 : (Rows.toolCopiesRow.shortTexts.isNone) = true := by kernel_rfl
theorem factToolCopies24 : (Tryz.prog.stopsHeard) = true := by kernel_rfl
theorem factToolCopies25 : (Tryz.prog.mayEnter) = true := by kernel_rfl
theorem factToolCopies26 : ((Rows.toolCopiesRow.lifted == Tryz.prog.liftsFinal)) = true := by kernel_rfl
theorem factToolCopies27 : ((Tryz.prog.make == some Rows.toolCopiesRow.make)) = true := by kernel_rfl
theorem factToolCopies28 : ((Rows.toolCopiesRow.kinds == (if Rows.toolCopiesRow.domain.isEmpty then [] else Tryz.f3.params.toList.map fun t => match Tryz.prog.underlying t with | some (.int k) => some k | _ => none))) = true := by kernel_rfl
theorem factToolCopies29 : ((Rows.toolCopiesRow.pinned == Rows.toolCopiesRow.pinnedBy)) = true := by kernel_rfl
theorem factToolCopies30 : ((Rows.toolCopiesRow.veiled == (Tryz.f3.params.toList ++ Rows.toolCopiesSpec.plain.varTypes Tryz.prog ++ Tryz.f3.resultTypes.toList).any (Tryz.prog.veiledRec ·))) = true := by kernel_rfl
theorem factToolCopies31 : (Rows.toolCopiesRow.veiledFits Tryz.prog Tryz.f3.params.toList (Tryz.f3.params.toList ++ Rows.toolCopiesSpec.plain.varTypes Tryz.prog ++ Tryz.f3.resultTypes.toList)) = true := by kernel_rfl
theorem factsToolCopies : joinedFacts Tryz.prog 3 Tryz.f3 Rows.toolCopiesSpec Rows.toolCopiesRow = true := (and_facts (and_facts (and_facts (and_facts (and_facts (and_facts (and_facts (and_facts (and_facts (and_facts (and_facts (and_facts (and_facts (and_facts (and_facts (and_facts (and_facts (and_facts (and_facts (and_facts (and_facts (and_facts (and_facts (and_facts (and_facts (and_facts (and_facts (and_facts (and_facts (and_facts (and_facts factToolCopies0 factToolCopies1) factToolCopies2) factToolCopies3) factToolCopies4) factToolCopies5) factToolCopies6) factToolCopies7) factToolCopies8) factToolCopies9) factToolCopies10) factToolCopies11) factToolCopies12) factToolCopies13) factToolCopies14) factToolCopies15) factToolCopies16) factToolCopies17) factToolCopies18) factToolCopies19) factToolCopies20) factToolCopies21) factToolCopies22) factToolCopies23) factToolCopies24) factToolCopies25) factToolCopies26) factToolCopies27) factToolCopies28) factToolCopies29) factToolCopies30) factToolCopies31)
end Go.Proofs.YtimidmogcbapnaaGreatDoor
