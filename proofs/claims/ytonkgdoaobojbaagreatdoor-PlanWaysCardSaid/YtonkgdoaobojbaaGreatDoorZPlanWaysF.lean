/-
  PlanWays: the closed facts of its row, a theorem each. 
-/
import Derived.Test.YtonkgdoaobojbaaGreatDoorRows
import Derived.Test.YtonkgdoaobojbaaGreatDoorChecked
import Derived.ProofKit
import Derived.JoinedOf

set_option linter.unusedSimpArgs false
set_option linter.unusedVariables false

set_option maxRecDepth 100000
namespace Go.Proofs.YtonkgdoaobojbaaGreatDoor
theorem and_facts {a b : Bool} (h : a = true) (k : b = true) : (a && b) = true := by rw [h, k]; rfl
theorem factPlanWays0 : (Rows.planWaysRow.wf (OpenSpec.ofChange Rows.planWaysSpec)) = true := by kernel_rfl
theorem factPlanWays1 : (laidOutB Tryz.prog) = true := by kernel_rfl
theorem factPlanWays2 : (mapsRowed Tryz.prog) = true := by kernel_rfl
theorem factPlanWays3 : (Tryz.f4.params.all (Tryz.prog.readableRec ·)) = true := by kernel_rfl
theorem factPlanWays4 : (namedTie Tryz.prog Rows.planWaysRow.named Rows.planWaysSpec.vars) = true := by kernel_rfl
theorem factPlanWays5 : ((Rows.planWaysRow.stops == [])) = true := by kernel_rfl
theorem factPlanWays6 : ((Tryz.prog.stops == [])) = true := by kernel_rfl
theorem factPlanWays7 : ((Rows.planWaysRow.knobs == [])) = true := by kernel_rfl
theorem factPlanWays8 : ((Tryz.prog.stopKnobs == [])) = true := by kernel_rfl
theorem factPlanWays9 : ((Rows.planWaysRow.inPlace == Tryz.prog.inPlace 4)) = true := by kernel_rfl
theorem factPlanWays10 : ((Rows.planWaysRow.unfollowed == Tryz.prog.unfollowed 4)) = true := by kernel_rfl
theorem factPlanWays11 : ((Rows.planWaysRow.recurses == Tryz.prog.recurses 4)) = true := by kernel_rfl
theorem factPlanWays12 : ((Rows.planWaysRow.named == Tryz.prog.varsNamed 4)) = true := by kernel_rfl
theorem factPlanWays13 : ((Rows.planWaysRow.maps == (Tryz.f4.params.toList ++ Rows.planWaysSpec.plain.varTypes Tryz.prog).any (Tryz.prog.mapsRec ·))) = true := by kernel_rfl
theorem factPlanWays14 : ((Rows.planWaysRow.ifaces == (Tryz.f4.params.toList ++ Rows.planWaysSpec.plain.varTypes Tryz.prog).any (Tryz.prog.ifacesRec ·))) = true := by kernel_rfl
theorem factPlanWays15 : ((Rows.planWaysRow.mapsOut == Tryz.prog.mapsAmong Tryz.f4.resultTypes.toList)) = true := by kernel_rfl
theorem factPlanWays16 : ((Rows.planWaysRow.loops == (Tryz.f4.params.toList ++ Rows.planWaysSpec.plain.varTypes Tryz.prog).any (Tryz.prog.loopsFrom ·))) = true := by kernel_rfl
theorem factPlanWays17 : ((Rows.planWaysRow.wideKeys == (Tryz.f4.params.toList ++ Rows.planWaysSpec.plain.varTypes Tryz.prog ++ Tryz.f4.resultTypes.toList).any (Tryz.prog.wideKeysFrom ·))) = true := by kernel_rfl
theorem factPlanWays18 : (Rows.planWaysSpec.vars.all (Tryz.prog.varReadable ·)) = true := by kernel_rfl
theorem factPlanWays19 : (Tryz.f4.resultTypes.all (fun t => Tryz.prog.readableRec t && decide (t < Tryz.prog.types.size))) = true := by kernel_rfl
theorem factPlanWays20 : ((Rows.planWaysRow.ifacesOut == Tryz.f4.resultTypes.toList.any (Tryz.prog.ifacesRec ·))) = true := by kernel_rfl
theorem factPlanWays21 : ((Rows.planWaysRow.loopsOut == Tryz.f4.resultTypes.toList.any (Tryz.prog.loopsFrom ·))) = true := by kernel_rfl
theorem factPlanWays22 : ((Rows.planWaysRow.plainKeys == Tryz.prog.plainKeys)) = true := by kernel_rfl
theorem factPlanWays23 : (Rows.planWaysRow.shortTexts.isNone) = true := by kernel_rfl
theorem factPlanWays24 : (Tryz.prog.stopsHeard) = true := by kernel_rfl
theorem factPlanWays25 : (Tryz.prog.mayEnter) = true := by kernel_rfl
theorem factPlanWays26 : ((Rows.planWaysRow.lifted == Tryz.prog.liftsFinal)) = true := by kernel_rfl
theorem factPlanWays27 : ((Tryz.prog.make == some Rows.planWaysRow.make)) = true := by kernel_rfl
theorem factPlanWays28 : ((Rows.planWaysRow.kinds == (if Rows.planWaysRow.domain.isEmpty then [] else Tryz.f4.params.toList.map fun t => match Tryz.prog.underlying t with | some (.int k) => some k | _ => none))) = true := by kernel_rfl
theorem factPlanWays29 : ((Rows.planWaysRow.pinned == Rows.planWaysRow.pinnedBy)) = true := by kernel_rfl
theorem factPlanWays30 : ((Rows.planWaysRow.veiled == (Tryz.f4.params.toList ++ Rows.planWaysSpec.plain.varTypes Tryz.prog ++ Tryz.f4.resultTypes.toList).any (Tryz.prog.veiledRec ·))) = true := by kernel_rfl
theorem factPlanWays31 : (Rows.planWaysRow.veiledFits Tryz.prog Tryz.f4.params.toList (Tryz.f4.params.toList ++ Rows.planWaysSpec.plain.varTypes Tryz.prog ++ Tryz.f4.resultTypes.toList)) = true := by kernel_rfl
theorem factsPlanWays : joinedFacts Tryz.prog 4 Tryz.f4 Rows.planWaysSpec Rows.planWaysRow = true := (and_facts (and_facts (and_facts (and_facts (and_facts (and_facts (and_facts (and_facts (and_facts (and_facts (and_facts (and_facts (and_facts (and_facts (and_facts (and_facts (and_facts (and_facts (and_facts (and_facts (and_facts (and_facts (and_facts (and_facts (and_facts (and_facts (and_facts (and_facts (and_facts (and_facts (and_facts factPlanWays0 factPlanWays1) factPlanWays2) factPlanWays3) factPlanWays4) factPlanWays5) factPlanWays6) factPlanWays7) factPlanWays8) factPlanWays9) factPlanWays10) factPlanWays11) factPlanWays12) factPlanWays13) factPlanWays14) factPlanWays15) factPlanWays16) factPlanWays17) factPlanWays18) factPlanWays19) factPlanWays20) factPlanWays21) factPlanWays22) factPlanWays23) factPlanWays24) factPlanWays25) factPlanWays26) factPlanWays27) factPlanWays28) factPlanWays29) factPlanWays30) factPlanWays31)
end Go.Proofs.YtonkgdoaobojbaaGreatDoor
