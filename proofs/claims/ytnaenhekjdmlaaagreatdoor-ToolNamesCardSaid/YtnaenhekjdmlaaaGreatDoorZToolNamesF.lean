/-
  ToolNames: the closed facts of its row, a theorem each. 
-/
import Derived.Test.YtnaenhekjdmlaaaGreatDoorRows
import Derived.Test.YtnaenhekjdmlaaaGreatDoorChecked
import Derived.ProofKit
import Derived.JoinedOf

set_option linter.unusedSimpArgs false
set_option linter.unusedVariables false

set_option maxRecDepth 100000
namespace Go.Proofs.YtnaenhekjdmlaaaGreatDoor
theorem and_facts {a b : Bool} (h : a = true) (k : b = true) : (a && b) = true := by rw [h, k]; rfl
theorem factToolNames0 : (Rows.toolNamesRow.wf (OpenSpec.ofChange Rows.toolNamesSpec)) = true := by kernel_rfl
theorem factToolNames1 : (laidOutB Tryz.prog) = true := by kernel_rfl
theorem factToolNames2 : (mapsRowed Tryz.prog) = true := by kernel_rfl
theorem factToolNames3 : (Tryz.f8.params.all (Tryz.prog.readableRec ·)) = true := by kernel_rfl
theorem factToolNames4 : (namedTie Tryz.prog Rows.toolNamesRow.named Rows.toolNamesSpec.vars) = true := by kernel_rfl
theorem factToolNames5 : ((Rows.toolNamesRow.stops == [])) = true := by kernel_rfl
theorem factToolNames6 : ((Tryz.prog.stops == [])) = true := by kernel_rfl
theorem factToolNames7 : ((Rows.toolNamesRow.knobs == [])) = true := by kernel_rfl
theorem factToolNames8 : ((Tryz.prog.stopKnobs == [])) = true := by kernel_rfl
theorem factToolNames9 : ((Rows.toolNamesRow.inPlace == Tryz.prog.inPlace 8)) = true := by kernel_rfl
theorem factToolNames10 : ((Rows.toolNamesRow.unfollowed == Tryz.prog.unfollowed 8)) = true := by kernel_rfl
theorem factToolNames11 : ((Rows.toolNamesRow.recurses == Tryz.prog.recurses 8)) = true := by kernel_rfl
theorem factToolNames12 : ((Rows.toolNamesRow.named == Tryz.prog.varsNamed 8)) = true := by kernel_rfl
theorem factToolNames13 : ((Rows.toolNamesRow.maps == (Tryz.f8.params.toList ++ Rows.toolNamesSpec.plain.varTypes Tryz.prog).any (Tryz.prog.mapsRec ·))) = true := by kernel_rfl
theorem factToolNames14 : ((Rows.toolNamesRow.ifaces == (Tryz.f8.params.toList ++ Rows.toolNamesSpec.plain.varTypes Tryz.prog).any (Tryz.prog.ifacesRec ·))) = true := by kernel_rfl
theorem factToolNames15 : ((Rows.toolNamesRow.mapsOut == Tryz.prog.mapsAmong Tryz.f8.resultTypes.toList)) = true := by kernel_rfl
theorem factToolNames16 : ((Rows.toolNamesRow.loops == (Tryz.f8.params.toList ++ Rows.toolNamesSpec.plain.varTypes Tryz.prog).any (Tryz.prog.loopsFrom ·))) = true := by kernel_rfl
theorem factToolNames17 : ((Rows.toolNamesRow.wideKeys == (Tryz.f8.params.toList ++ Rows.toolNamesSpec.plain.varTypes Tryz.prog ++ Tryz.f8.resultTypes.toList).any (Tryz.prog.wideKeysFrom ·))) = true := by kernel_rfl
theorem factToolNames18 : (Rows.toolNamesSpec.vars.all (Tryz.prog.varReadable ·)) = true := by kernel_rfl
theorem factToolNames19 : (Tryz.f8.resultTypes.all (fun t => Tryz.prog.readableRec t && decide (t < Tryz.prog.types.size))) = true := by kernel_rfl
theorem factToolNames20 : ((Rows.toolNamesRow.ifacesOut == Tryz.f8.resultTypes.toList.any (Tryz.prog.ifacesRec ·))) = true := by kernel_rfl
theorem factToolNames21 : ((Rows.toolNamesRow.loopsOut == Tryz.f8.resultTypes.toList.any (Tryz.prog.loopsFrom ·))) = true := by kernel_rfl
theorem factToolNames22 : ((Rows.toolNamesRow.plainKeys == Tryz.prog.plainKeys)) = true := by kernel_rfl
theorem factToolNames23 : (Rows.toolNamesRow.shortTexts.isNone) = true := by kernel_rfl
theorem factToolNames24 : (Tryz.prog.stopsHeard) = true := by kernel_rfl
theorem factToolNames25 : (Tryz.prog.mayEnter) = true := by kernel_rfl
theorem factToolNames26 : ((Rows.toolNamesRow.lifted == Tryz.prog.liftsFinal)) = true := by kernel_rfl
theorem factToolNames27 : ((Tryz.prog.make == some Rows.toolNamesRow.make)) = true := by kernel_rfl
theorem factToolNames28 : ((Rows.toolNamesRow.kinds == (if Rows.toolNamesRow.domain.isEmpty then [] else Tryz.f8.params.toList.map fun t => match Tryz.prog.underlying t with | some (.int k) => some k | _ => none))) = true := by kernel_rfl
theorem factToolNames29 : ((Rows.toolNamesRow.pinned == Rows.toolNamesRow.pinnedBy)) = true := by kernel_rfl
theorem factToolNames30 : ((Rows.toolNamesRow.veiled == (Tryz.f8.params.toList ++ Rows.toolNamesSpec.plain.varTypes Tryz.prog ++ Tryz.f8.resultTypes.toList).any (Tryz.prog.veiledRec ·))) = true := by kernel_rfl
theorem factToolNames31 : (Rows.toolNamesRow.veiledFits Tryz.prog Tryz.f8.params.toList (Tryz.f8.params.toList ++ Rows.toolNamesSpec.plain.varTypes Tryz.prog ++ Tryz.f8.resultTypes.toList)) = true := by kernel_rfl
theorem factsToolNames : joinedFacts Tryz.prog 8 Tryz.f8 Rows.toolNamesSpec Rows.toolNamesRow = true := (and_facts (and_facts (and_facts (and_facts (and_facts (and_facts (and_facts (and_facts (and_facts (and_facts (and_facts (and_facts (and_facts (and_facts (and_facts (and_facts (and_facts (and_facts (and_facts (and_facts (and_facts (and_facts (and_facts (and_facts (and_facts (and_facts (and_facts (and_facts (and_facts (and_facts (and_facts factToolNames0 factToolNames1) factToolNames2) factToolNames3) factToolNames4) factToolNames5) factToolNames6) factToolNames7) factToolNames8) factToolNames9) factToolNames10) factToolNames11) factToolNames12) factToolNames13) factToolNames14) factToolNames15) factToolNames16) factToolNames17) factToolNames18) factToolNames19) factToolNames20) factToolNames21) factToolNames22) factToolNames23) factToolNames24) factToolNames25) factToolNames26) factToolNames27) factToolNames28) factToolNames29) factToolNames30) factToolNames31)
end Go.Proofs.YtnaenhekjdmlaaaGreatDoor
