/-
  FilterNames: the closed facts of its row, a theorem each. 
-/
import Derived.Test.YtdecbpgojlhemaaGreatDoorRows
import Derived.Test.YtdecbpgojlhemaaGreatDoorChecked
import Derived.ProofKit
import Derived.JoinedOf

set_option linter.unusedSimpArgs false
set_option linter.unusedVariables false

set_option maxRecDepth 100000
namespace Go.Proofs.YtdecbpgojlhemaaGreatDoor
theorem and_facts {a b : Bool} (h : a = true) (k : b = true) : (a && b) = true := by rw [h, k]; rfl
theorem factFilterNames0 : (Rows.filterNamesRow.wf (OpenSpec.ofChange Rows.filterNamesSpec)) = true := by kernel_rfl
theorem factFilterNames1 : (laidOutB Tryz.prog) = true := by kernel_rfl
theorem factFilterNames2 : (mapsRowed Tryz.prog) = true := by kernel_rfl
theorem factFilterNames3 : (Tryz.f4.params.all (Tryz.prog.readableRec ·)) = true := by kernel_rfl
theorem factFilterNames4 : (namedTie Tryz.prog Rows.filterNamesRow.named Rows.filterNamesSpec.vars) = true := by kernel_rfl
theorem factFilterNames5 : ((Rows.filterNamesRow.stops == [])) = true := by kernel_rfl
theorem factFilterNames6 : ((Tryz.prog.stops == [])) = true := by kernel_rfl
theorem factFilterNames7 : ((Rows.filterNamesRow.knobs == [])) = true := by kernel_rfl
theorem factFilterNames8 : ((Tryz.prog.stopKnobs == [])) = true := by kernel_rfl
theorem factFilterNames9 : ((Rows.filterNamesRow.inPlace == Tryz.prog.inPlace 4)) = true := by kernel_rfl
theorem factFilterNames10 : ((Rows.filterNamesRow.unfollowed == Tryz.prog.unfollowed 4)) = true := by kernel_rfl
theorem factFilterNames11 : ((Rows.filterNamesRow.recurses == Tryz.prog.recurses 4)) = true := by kernel_rfl
theorem factFilterNames12 : ((Rows.filterNamesRow.named == Tryz.prog.varsNamed 4)) = true := by kernel_rfl
theorem factFilterNames13 : ((Rows.filterNamesRow.maps == (Tryz.f4.params.toList ++ Rows.filterNamesSpec.plain.varTypes Tryz.prog).any (Tryz.prog.mapsRec ·))) = true := by kernel_rfl
theorem factFilterNames14 : ((Rows.filterNamesRow.ifaces == (Tryz.f4.params.toList ++ Rows.filterNamesSpec.plain.varTypes Tryz.prog).any (Tryz.prog.ifacesRec ·))) = true := by kernel_rfl
theorem factFilterNames15 : ((Rows.filterNamesRow.mapsOut == Tryz.prog.mapsAmong Tryz.f4.resultTypes.toList)) = true := by kernel_rfl
theorem factFilterNames16 : ((Rows.filterNamesRow.loops == (Tryz.f4.params.toList ++ Rows.filterNamesSpec.plain.varTypes Tryz.prog).any (Tryz.prog.loopsFrom ·))) = true := by kernel_rfl
theorem factFilterNames17 : ((Rows.filterNamesRow.wideKeys == (Tryz.f4.params.toList ++ Rows.filterNamesSpec.plain.varTypes Tryz.prog ++ Tryz.f4.resultTypes.toList).any (Tryz.prog.wideKeysFrom ·))) = true := by kernel_rfl
theorem factFilterNames18 : (Rows.filterNamesSpec.vars.all (Tryz.prog.varReadable ·)) = true := by kernel_rfl
theorem factFilterNames19 : (Tryz.f4.resultTypes.all (fun t => Tryz.prog.readableRec t && decide (t < Tryz.prog.types.size))) = true := by kernel_rfl
theorem factFilterNames20 : ((Rows.filterNamesRow.ifacesOut == Tryz.f4.resultTypes.toList.any (Tryz.prog.ifacesRec ·))) = true := by kernel_rfl
theorem factFilterNames21 : ((Rows.filterNamesRow.loopsOut == Tryz.f4.resultTypes.toList.any (Tryz.prog.loopsFrom ·))) = true := by kernel_rfl
theorem factFilterNames22 : ((Rows.filterNamesRow.plainKeys == Tryz.prog.plainKeys)) = true := by kernel_rfl
theorem factFilterNames23 : (Rows.filterNamesRow.shortTexts.isNone) = true := by kernel_rfl
theorem factFilterNames24 : (Tryz.prog.stopsHeard) = true := by kernel_rfl
theorem factFilterNames25 : (Tryz.prog.mayEnter) = true := by kernel_rfl
theorem factFilterNames26 : ((Rows.filterNamesRow.lifted == Tryz.prog.liftsFinal)) = true := by kernel_rfl
theorem factFilterNames27 : ((Tryz.prog.make == some Rows.filterNamesRow.make)) = true := by kernel_rfl
theorem factFilterNames28 : ((Rows.filterNamesRow.kinds == (if Rows.filterNamesRow.domain.isEmpty then [] else Tryz.f4.params.toList.map fun t => match Tryz.prog.underlying t with | some (.int k) => some k | _ => none))) = true := by kernel_rfl
theorem factFilterNames29 : ((Rows.filterNamesRow.pinned == Rows.filterNamesRow.pinnedBy)) = true := by kernel_rfl
theorem factFilterNames30 : ((Rows.filterNamesRow.veiled == (Tryz.f4.params.toList ++ Rows.filterNamesSpec.plain.varTypes Tryz.prog ++ Tryz.f4.resultTypes.toList).any (Tryz.prog.veiledRec ·))) = true := by kernel_rfl
theorem factFilterNames31 : (Rows.filterNamesRow.veiledFits Tryz.prog Tryz.f4.params.toList (Tryz.f4.params.toList ++ Rows.filterNamesSpec.plain.varTypes Tryz.prog ++ Tryz.f4.resultTypes.toList)) = true := by kernel_rfl
theorem factsFilterNames : joinedFacts Tryz.prog 4 Tryz.f4 Rows.filterNamesSpec Rows.filterNamesRow = true := (and_facts (and_facts (and_facts (and_facts (and_facts (and_facts (and_facts (and_facts (and_facts (and_facts (and_facts (and_facts (and_facts (and_facts (and_facts (and_facts (and_facts (and_facts (and_facts (and_facts (and_facts (and_facts (and_facts (and_facts (and_facts (and_facts (and_facts (and_facts (and_facts (and_facts (and_facts factFilterNames0 factFilterNames1) factFilterNames2) factFilterNames3) factFilterNames4) factFilterNames5) factFilterNames6) factFilterNames7) factFilterNames8) factFilterNames9) factFilterNames10) factFilterNames11) factFilterNames12) factFilterNames13) factFilterNames14) factFilterNames15) factFilterNames16) factFilterNames17) factFilterNames18) factFilterNames19) factFilterNames20) factFilterNames21) factFilterNames22) factFilterNames23) factFilterNames24) factFilterNames25) factFilterNames26) factFilterNames27) factFilterNames28) factFilterNames29) factFilterNames30) factFilterNames31)
end Go.Proofs.YtdecbpgojlhemaaGreatDoor
