/-
  ToolModes: the closed facts of its row, a theorem each. 
-/
import Derived.Test.YtimidmogcbapnaaGreatDoorRows
import Derived.Test.YtimidmogcbapnaaGreatDoorChecked
import Derived.ProofKit
import Derived.JoinedOf

set_option linter.unusedSimpArgs false
set_option linter.unusedVariables false

set_option maxRecDepth 100000
namespace Go.Proofs.YtimidmogcbapnaaGreatDoor
theorem and_facts {a b : Bool} (h : a = true) (k : b = true) : (a && b) = true := by rw [h, k]; rfl
theorem factToolModes0 : (Rows.toolModesRow.wf (OpenSpec.ofChange Rows.toolModesSpec)) = true := by kernel_rfl
theorem factToolModes1 : (laidOutB Tryz.prog) = true := by kernel_rfl
theorem factToolModes2 : (mapsRowed Tryz.prog) = true := by kernel_rfl
theorem factToolModes3 : (Tryz.f4.params.all (Tryz.prog.readableRec ·)) = true := by kernel_rfl
theorem factToolModes4 : (namedTie Tryz.prog Rows.toolModesRow.named Rows.toolModesSpec.vars) = true := by kernel_rfl
theorem factToolModes5 : ((Rows.toolModesRow.stops == [])) = true := by kernel_rfl
theorem factToolModes6 : ((Tryz.prog.stops == [])) = true := by kernel_rfl
theorem factToolModes7 : ((Rows.toolModesRow.knobs == [])) = true := by kernel_rfl
theorem factToolModes8 : ((Tryz.prog.stopKnobs == [])) = true := by kernel_rfl
theorem factToolModes9 : ((Rows.toolModesRow.inPlace == Tryz.prog.inPlace 4)) = true := by kernel_rfl
theorem factToolModes10 : ((Rows.toolModesRow.unfollowed == Tryz.prog.unfollowed 4)) = true := by kernel_rfl
theorem factToolModes11 : ((Rows.toolModesRow.recurses == Tryz.prog.recurses 4)) = true := by kernel_rfl
theorem factToolModes12 : ((Rows.toolModesRow.named == Tryz.prog.varsNamed 4)) = true := by kernel_rfl
theorem factToolModes13 : ((Rows.toolModesRow.maps == (Tryz.f4.params.toList ++ Rows.toolModesSpec.plain.varTypes Tryz.prog).any (Tryz.prog.mapsRec ·))) = true := by kernel_rfl
theorem factToolModes14 : ((Rows.toolModesRow.ifaces == (Tryz.f4.params.toList ++ Rows.toolModesSpec.plain.varTypes Tryz.prog).any (Tryz.prog.ifacesRec ·))) = true := by kernel_rfl
theorem factToolModes15 : ((Rows.toolModesRow.mapsOut == Tryz.prog.mapsAmong Tryz.f4.resultTypes.toList)) = true := by kernel_rfl
theorem factToolModes16 : ((Rows.toolModesRow.loops == (Tryz.f4.params.toList ++ Rows.toolModesSpec.plain.varTypes Tryz.prog).any (Tryz.prog.loopsFrom ·))) = true := by kernel_rfl
theorem factToolModes17 : ((Rows.toolModesRow.wideKeys == (Tryz.f4.params.toList ++ Rows.toolModesSpec.plain.varTypes Tryz.prog ++ Tryz.f4.resultTypes.toList).any (Tryz.prog.wideKeysFrom ·))) = true := by kernel_rfl
theorem factToolModes18 : (Rows.toolModesSpec.vars.all (Tryz.prog.varReadable ·)) = true := by kernel_rfl
theorem factToolModes19 : (Tryz.f4.resultTypes.all (fun t => Tryz.prog.readableRec t && decide (t < Tryz.prog.types.size))) = true := by kernel_rfl
theorem factToolModes20 : ((Rows.toolModesRow.ifacesOut == Tryz.f4.resultTypes.toList.any (Tryz.prog.ifacesRec ·))) = true := by kernel_rfl
theorem factToolModes21 : ((Rows.toolModesRow.loopsOut == Tryz.f4.resultTypes.toList.any (Tryz.prog.loopsFrom ·))) = true := by kernel_rfl
theorem factToolModes22 : ((Rows.toolModesRow.plainKeys == Tryz.prog.plainKeys)) = true := by kernel_rfl
theorem factToolModes23 : (Rows.toolModesRow.shortTexts.isNone) = true := by kernel_rfl
theorem factToolModes24 : (Tryz.prog.stopsHeard) = true := by kernel_rfl
theorem factToolModes25 : (Tryz.prog.mayEnter) = true := by kernel_rfl
theorem factToolModes26 : ((Rows.toolModesRow.lifted == Tryz.prog.liftsFinal)) = true := by kernel_rfl
theorem factToolModes27 : ((Tryz.prog.make == some Rows.toolModesRow.make)) = true := by kernel_rfl
theorem factToolModes28 : ((Rows.toolModesRow.kinds == (if Rows.toolModesRow.domain.isEmpty then [] else Tryz.f4.params.toList.map fun t => match Tryz.prog.underlying t with | some (.int k) => some k | _ => none))) = true := by kernel_rfl
theorem factToolModes29 : ((Rows.toolModesRow.pinned == Rows.toolModesRow.pinnedBy)) = true := by kernel_rfl
theorem factToolModes30 : ((Rows.toolModesRow.veiled == (Tryz.f4.params.toList ++ Rows.toolModesSpec.plain.varTypes Tryz.prog ++ Tryz.f4.resultTypes.toList).any (Tryz.prog.veiledRec ·))) = true := by kernel_rfl
theorem factToolModes31 : (Rows.toolModesRow.veiledFits Tryz.prog Tryz.f4.params.toList (Tryz.f4.params.toList ++ Rows.toolModesSpec.plain.varTypes Tryz.prog ++ Tryz.f4.resultTypes.toList)) = true := by kernel_rfl
theorem factsToolModes : joinedFacts Tryz.prog 4 Tryz.f4 Rows.toolModesSpec Rows.toolModesRow = true := (and_facts (and_facts (and_facts (and_facts (and_facts (and_facts (and_facts (and_facts (and_facts (and_facts (and_facts (and_facts (and_facts (and_facts (and_facts (and_facts (and_facts (and_facts (and_facts (and_facts (and_facts (and_facts (and_facts (and_facts (and_facts (and_facts (and_facts (and_facts (and_facts (and_facts (and_facts factToolModes0 factToolModes1) factToolModes2) factToolModes3) factToolModes4) factToolModes5) factToolModes6) factToolModes7) factToolModes8) factToolModes9) factToolModes10) factToolModes11) factToolModes12) factToolModes13) factToolModes14) factToolModes15) factToolModes16) factToolModes17) factToolModes18) factToolModes19) factToolModes20) factToolModes21) factToolModes22) factToolModes23) factToolModes24) factToolModes25) factToolModes26) factToolModes27) factToolModes28) factToolModes29) factToolModes30) factToolModes31)
end Go.Proofs.YtimidmogcbapnaaGreatDoor
