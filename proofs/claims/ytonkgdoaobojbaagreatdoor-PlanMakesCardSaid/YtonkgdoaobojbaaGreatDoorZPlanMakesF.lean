/-
  PlanMakes: the closed facts of its row, a theorem each. 
-/
import Derived.Test.YtonkgdoaobojbaaGreatDoorRows
import Derived.Test.YtonkgdoaobojbaaGreatDoorChecked
import Derived.ProofKit
import Derived.JoinedOf

set_option linter.unusedSimpArgs false
set_option linter.unusedVariables false

set_option maxRecDepth 100000
namespace Go.Proofs.YtonkgdoaobojbaaGreatDoor
theorem and_facts {a b : Bool} (h : a = true) (k : b = true) : (a && b) = true := by rw [h, k]; rfl
theorem factPlanMakes0 : (Rows.planMakesRow.wf (OpenSpec.ofChange Rows.planMakesSpec)) = true := by kernel_rfl
theorem factPlanMakes1 : (laidOutB Tryz.prog) = true := by kernel_rfl
theorem factPlanMakes2 : (mapsRowed Tryz.prog) = true := by kernel_rfl
theorem factPlanMakes3 : (Tryz.f3.params.all (Tryz.prog.readableRec ·)) = true := by kernel_rfl
theorem factPlanMakes4 : (namedTie Tryz.prog Rows.planMakesRow.named Rows.planMakesSpec.vars) = true := by kernel_rfl
theorem factPlanMakes5 : ((Rows.planMakesRow.stops == [])) = true := by kernel_rfl
theorem factPlanMakes6 : ((Tryz.prog.stops == [])) = true := by kernel_rfl
theorem factPlanMakes7 : ((Rows.planMakesRow.knobs == [])) = true := by kernel_rfl
theorem factPlanMakes8 : ((Tryz.prog.stopKnobs == [])) = true := by kernel_rfl
theorem factPlanMakes9 : ((Rows.planMakesRow.inPlace == Tryz.prog.inPlace 3)) = true := by kernel_rfl
theorem factPlanMakes10 : ((Rows.planMakesRow.unfollowed == Tryz.prog.unfollowed 3)) = true := by kernel_rfl
theorem factPlanMakes11 : ((Rows.planMakesRow.recurses == Tryz.prog.recurses 3)) = true := by kernel_rfl
theorem factPlanMakes12 : ((Rows.planMakesRow.named == Tryz.prog.varsNamed 3)) = true := by kernel_rfl
theorem factPlanMakes13 : ((Rows.planMakesRow.maps == (Tryz.f3.params.toList ++ Rows.planMakesSpec.plain.varTypes Tryz.prog).any (Tryz.prog.mapsRec ·))) = true := by kernel_rfl
theorem factPlanMakes14 : ((Rows.planMakesRow.ifaces == (Tryz.f3.params.toList ++ Rows.planMakesSpec.plain.varTypes Tryz.prog).any (Tryz.prog.ifacesRec ·))) = true := by kernel_rfl
theorem factPlanMakes15 : ((Rows.planMakesRow.mapsOut == Tryz.prog.mapsAmong Tryz.f3.resultTypes.toList)) = true := by kernel_rfl
theorem factPlanMakes16 : ((Rows.planMakesRow.loops == (Tryz.f3.params.toList ++ Rows.planMakesSpec.plain.varTypes Tryz.prog).any (Tryz.prog.loopsFrom ·))) = true := by kernel_rfl
theorem factPlanMakes17 : ((Rows.planMakesRow.wideKeys == (Tryz.f3.params.toList ++ Rows.planMakesSpec.plain.varTypes Tryz.prog ++ Tryz.f3.resultTypes.toList).any (Tryz.prog.wideKeysFrom ·))) = true := by kernel_rfl
theorem factPlanMakes18 : (Rows.planMakesSpec.vars.all (Tryz.prog.varReadable ·)) = true := by kernel_rfl
theorem factPlanMakes19 : (Tryz.f3.resultTypes.all (fun t => Tryz.prog.readableRec t && decide (t < Tryz.prog.types.size))) = true := by kernel_rfl
theorem factPlanMakes20 : ((Rows.planMakesRow.ifacesOut == Tryz.f3.resultTypes.toList.any (Tryz.prog.ifacesRec ·))) = true := by kernel_rfl
theorem factPlanMakes21 : ((Rows.planMakesRow.loopsOut == Tryz.f3.resultTypes.toList.any (Tryz.prog.loopsFrom ·))) = true := by kernel_rfl
theorem factPlanMakes22 : ((Rows.planMakesRow.plainKeys == Tryz.prog.plainKeys)) = true := by kernel_rfl
theorem factPlanMakes23 : (Rows.planMakesRow.shortTexts.isNone) = true := by kernel_rfl
theorem factPlanMakes24 : (Tryz.prog.stopsHeard) = true := by kernel_rfl
theorem factPlanMakes25 : (Tryz.prog.mayEnter) = true := by kernel_rfl
theorem factPlanMakes26 : ((Rows.planMakesRow.lifted == Tryz.prog.liftsFinal)) = true := by kernel_rfl
theorem factPlanMakes27 : ((Tryz.prog.make == some Rows.planMakesRow.make)) = true := by kernel_rfl
theorem factPlanMakes28 : ((Rows.planMakesRow.kinds == (if Rows.planMakesRow.domain.isEmpty then [] else Tryz.f3.params.toList.map fun t => match Tryz.prog.underlying t with | some (.int k) => some k | _ => none))) = true := by kernel_rfl
theorem factPlanMakes29 : ((Rows.planMakesRow.pinned == Rows.planMakesRow.pinnedBy)) = true := by kernel_rfl
theorem factPlanMakes30 : ((Rows.planMakesRow.veiled == (Tryz.f3.params.toList ++ Rows.planMakesSpec.plain.varTypes Tryz.prog ++ Tryz.f3.resultTypes.toList).any (Tryz.prog.veiledRec ·))) = true := by kernel_rfl
theorem factPlanMakes31 : (Rows.planMakesRow.veiledFits Tryz.prog Tryz.f3.params.toList (Tryz.f3.params.toList ++ Rows.planMakesSpec.plain.varTypes Tryz.prog ++ Tryz.f3.resultTypes.toList)) = true := by kernel_rfl
theorem factsPlanMakes : joinedFacts Tryz.prog 3 Tryz.f3 Rows.planMakesSpec Rows.planMakesRow = true := (and_facts (and_facts (and_facts (and_facts (and_facts (and_facts (and_facts (and_facts (and_facts (and_facts (and_facts (and_facts (and_facts (and_facts (and_facts (and_facts (and_facts (and_facts (and_facts (and_facts (and_facts (and_facts (and_facts (and_facts (and_facts (and_facts (and_facts (and_facts (and_facts (and_facts (and_facts factPlanMakes0 factPlanMakes1) factPlanMakes2) factPlanMakes3) factPlanMakes4) factPlanMakes5) factPlanMakes6) factPlanMakes7) factPlanMakes8) factPlanMakes9) factPlanMakes10) factPlanMakes11) factPlanMakes12) factPlanMakes13) factPlanMakes14) factPlanMakes15) factPlanMakes16) factPlanMakes17) factPlanMakes18) factPlanMakes19) factPlanMakes20) factPlanMakes21) factPlanMakes22) factPlanMakes23) factPlanMakes24) factPlanMakes25) factPlanMakes26) factPlanMakes27) factPlanMakes28) factPlanMakes29) factPlanMakes30) factPlanMakes31)
end Go.Proofs.YtonkgdoaobojbaaGreatDoor
