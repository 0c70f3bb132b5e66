/-
  FilterCuts: the closed facts of its row, a theorem each. 
-/
import Derived.Test.YtkdfgkbojbdelaaGreatDoorRows
import Derived.Test.YtkdfgkbojbdelaaGreatDoorChecked
import Derived.ProofKit
import Derived.JoinedOf

set_option linter.unusedSimpArgs false
set_option linter.unusedVariables false

set_option maxRecDepth 100000
namespace Go.Proofs.YtkdfgkbojbdelaaGreatDoor
theorem and_facts {a b : Bool} (h : a = true) (k : b = true) : (a && b) = true := by rw [h, k]; rfl
theorem factFilterCuts0 : (Rows.filterCutsRow.wf (OpenSpec.ofChange Rows.filterCutsSpec)) = true := by kernel_rfl
theorem factFilterCuts1 : (laidOutB Tryz.prog) = true := by kernel_rfl
theorem factFilterCuts2 : (mapsRowed Tryz.prog) = true := by kernel_rfl
theorem factFilterCuts3 : (Tryz.f3.params.all (Tryz.prog.readableRec ·)) = true := by kernel_rfl
theorem factFilterCuts4 : (namedTie Tryz.prog Rows.filterCutsRow.named Rows.filterCutsSpec.vars) = true := by kernel_rfl
theorem factFilterCuts5 : ((Rows.filterCutsRow.stops == [])) = true := by kernel_rfl
theorem factFilterCuts6 : ((Tryz.prog.stops == [])) = true := by kernel_rfl
theorem factFilterCuts7 : ((Rows.filterCutsRow.knobs == [])) = true := by kernel_rfl
theorem factFilterCuts8 : ((Tryz.prog.stopKnobs == [])) = true := by kernel_rfl
theorem factFilterCuts9 : ((Rows.filterCutsRow.inPlace == Tryz.prog.inPlace 3)) = true := by kernel_rfl
theorem factFilterCuts10 : ((Rows.filterCutsRow.unfollowed == Tryz.prog.unfollowed 3)) = true := by kernel_rfl
theorem factFilterCuts11 : ((Rows.filterCutsRow.recurses == Tryz.prog.recurses 3)) = true := by kernel_rfl
theorem factFilterCuts12 : ((Rows.filterCutsRow.named == Tryz.prog.varsNamed 3)) = true := by kernel_rfl
theorem factFilterCuts13 : ((Rows.filterCutsRow.maps == (Tryz.f3.params.toList ++ Rows.filterCutsSpec.plain.varTypes Tryz.prog).any (Tryz.prog.mapsRec ·))) = true := by kernel_rfl
theorem factFilterCuts14 : ((Rows.filterCutsRow.ifaces == (Tryz.f3.params.toList ++ Rows.filterCutsSpec.plain.varTypes Tryz.prog).any (Tryz.prog.ifacesRec ·))) = true := by kernel_rfl
theorem factFilterCuts15 : ((Rows.filterCutsRow.mapsOut == Tryz.prog.mapsAmong Tryz.f3.resultTypes.toList)) = true := by kernel_rfl
theorem factFilterCuts16 : ((Rows.filterCutsRow.loops == (Tryz.f3.params.toList ++ Rows.filterCutsSpec.plain.varTypes Tryz.prog).any (Tryz.prog.loopsFrom ·))) = true := by kernel_rfl
theorem factFilterCuts17 : ((Rows.filterCutsRow.wideKeys == (Tryz.f3.params.toList ++ Rows.filterCutsSpec.plain.varTypes Tryz.prog ++ Tryz.f3.resultTypes.toList).any (Tryz.prog.wideKeysFrom ·))) = true := by kernel_rfl
theorem factFilterCuts18 : (Rows.filterCutsSpec.vars.all (Tryz.prog.varReadable ·)) = true := by kernel_rfl
theorem factFilterCuts19 : (Tryz.f3.resultTypes.all (fun t => Tryz.prog.readableRec t && decide (t < Tryz.prog.types.size))) = true := by kernel_rfl
theorem factFilterCuts20 : ((Rows.filterCutsRow.ifacesOut == Tryz.f3.resultTypes.toList.any (Tryz.prog.ifacesRec ·))) = true := by kernel_rfl
theorem factFilterCuts21 : ((Rows.filterCutsRow.loopsOut == Tryz.f3.resultTypes.toList.any (Tryz.prog.loopsFrom ·))) = true := by kernel_rfl
theorem factFilterCuts22 : ((Rows.filterCutsRow.plainKeys == Tryz.prog.plainKeys)) = true := by kernel_rfl
theorem factFilterCuts23 : (Rows.filterCutsRow.shortTexts.isNone) = true := by kernel_rfl
theorem factFilterCuts24 : (Tryz.prog.stopsHeard) = true := by kernel_rfl
theorem factFilterCuts25 : (Tryz.prog.mayEnter) = true := by kernel_rfl
theorem factFilterCuts26 : ((Rows.filterCutsRow.lifted == Tryz.prog.liftsFinal)) = true := by kernel_rfl
theorem factFilterCuts27 : ((Tryz.prog.make == some Rows.filterCutsRow.make)) = true := by kernel_rfl
theorem factFilterCuts28 : ((Rows.filterCutsRow.kinds == (if Rows.filterCutsRow.domain.isEmpty then [] else Tryz.f3.params.toList.map fun t => match Tryz.prog.underlying t with | some (.int k) => some k | _ => none))) = true := by kernel_rfl
theorem factFilterCuts29 : ((Rows.filterCutsRow.pinned == Rows.filterCutsRow.pinnedBy)) = true := by kernel_rfl
theorem factFilterCuts30 : ((Rows.filterCutsRow.veiled == (Tryz.f3.params.toList ++ Rows.filterCutsSpec.plain.varTypes Tryz.prog ++ Tryz.f3.resultTypes.toList).any (Tryz.prog.veiledRec ·))) = true := by kernel_rfl
theorem factFilterCuts31 : (Rows.filterCutsRow.veiledFits Tryz.prog Tryz.f3.params.toList (Tryz.f3.params.toList ++ Rows.filterCutsSpec.plain.varTypes Tryz.prog ++ Tryz.f3.resultTypes.toList)) = true := by kernel_rfl
theorem factsFilterCuts : joinedFacts Tryz.prog 3 Tryz.f3 Rows.filterCutsSpec Rows.filterCutsRow = true := (and_facts (and_facts (and_facts (and_facts (and_facts (and_facts (and_facts (and_facts (and_facts (and_facts (and_facts (and_facts (and_facts (and_facts (and_facts (and_facts (and_facts (and_facts (and_facts (and_facts (and_facts (and_facts (and_facts (and_facts (and_facts (and_facts (and_facts (and_facts (and_facts (and_facts (and_facts factFilterCuts0 factFilterCuts1) factFilterCuts2) factFilterCuts3) factFilterCuts4) factFilterCuts5) factFilterCuts6) factFilterCuts7) factFilterCuts8) factFilterCuts9) factFilterCuts10) factFilterCuts11) factFilterCuts12) factFilterCuts13) factFilterCuts14) factFilterCuts15) factFilterCuts16) factFilterCuts17) factFilterCuts18) factFilterCuts19) factFilterCuts20) factFilterCuts21) factFilterCuts22) factFilterCuts23) factFilterCuts24) factFilterCuts25) factFilterCuts26) factFilterCuts27) factFilterCuts28) factFilterCuts29) factFilterCuts30) factFilterCuts31)
end Go.Proofs.YtkdfgkbojbdelaaGreatDoor
