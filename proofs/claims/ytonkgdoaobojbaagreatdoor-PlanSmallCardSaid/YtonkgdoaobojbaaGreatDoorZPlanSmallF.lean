/-
  PlanSmall: the closed facts of its row, a theorem each. 
-/
import Derived.Test.YtonkgdoaobojbaaGreatDoorRows
import Derived.Test.YtonkgdoaobojbaaGreatDoorChecked
import Derived.ProofKit
import Derived.JoinedOf

set_option linter.unusedSimpArgs false
set_option linter.unusedVariables false

set_option maxRecDepth 100000
namespace Go.Proofs.YtonkgdoaobojbaaGreatDoor
theorem and_facts {a b : Bool} (h : a = true) (k : b = true) : (a && b) = true := by rw [h, k]; rfl
theorem factPlanSmall0 : (Rows.planSmallRow.wf (OpenSpec.ofChange Rows.planSmallSpec)) = true := by kernel_rfl
theorem factPlanSmall1 : (laidOutB Tryz.prog) = true := by kernel_rfl
theorem factPlanSmall2 : (mapsRowed Tryz.prog) = true := by kernel_rfl
theorem factPlanSmall3 : (Tryz.f5.params.all (Tryz.prog.readableRec ·)) = true := by kernel_rfl
theorem factPlanSmall4 : (namedTie Tryz.prog Rows.planSmallRow.named Rows.planSmallSpec.vars) = true := by kernel_rfl
theorem factPlanSmall5 : ((Rows.planSmallRow.stops == [])) = true := by kernel_rfl
theorem factPlanSmall6 : ((Tryz.prog.stops == [])) = true := by kernel_rfl
theorem factPlanSmall7 : ((Rows.planSmallRow.knobs == [])) = true := by kernel_rfl
theorem factPlanSmall8 : ((Tryz.prog.stopKnobs == [])) = true := by kernel_rfl
theorem factPlanSmall9 : ((Rows.planSmallRow.inPlace == Tryz.prog.inPlace 5)) = true := by kernel_rfl
theorem factPlanSmall10 : ((Rows.planSmallRow.unfollowed == Tryz.prog.unfollowed 5)) = true := by kernel_rfl
theorem factPlanSmall11 : ((Rows.planSmallRow.recurses == Tryz.prog.recurses 5)) = true := by kernel_rfl
theorem factPlanSmall12 : ((Rows.planSmallRow.named == Tryz.prog.varsNamed 5)) = true := by kernel_rfl
theorem factPlanSmall13 : ((Rows.planSmallRow.maps == (Tryz.f5.params.toList ++ Rows.planSmallSpec.plain.varTypes Tryz.prog).any (Tryz.prog.mapsRec ·))) = true := by kernel_rfl
theorem factPlanSmall14 : ((Rows.planSmallRow.ifaces == (Tryz.f5.params.toList ++ Rows.planSmallSpec.plain.varTypes Tryz.prog).any (Tryz.prog.ifacesRec ·))) = true := by kernel_rfl
theorem factPlanSmall15 : ((Rows.planSmallRow.mapsOut == Tryz.prog.mapsAmong Tryz.f5.resultTypes.toList)) = true := by kernel_rfl
theorem factPlanSmall16 : ((Rows.planSmallRow.loops == (Tryz.f5.params.toList ++ Rows.planSmallSpec.plain.varTypes Tryz.prog).any (Tryz.prog.loopsFrom ·))) = true := by kernel_rfl
theorem factPlanSmall17 : ((Rows.planSmallRow.wideKeys == (Tryz.f5.params.toList ++ Rows.planSmallSpec.plain.varTypes Tryz.prog ++ Tryz.f5.resultTypes.toList).any (Tryz.prog.wideKeysFrom ·))) = true := by kernel_rfl
theorem factPlanSmall18 : (Rows.planSmallSpec.vars.all (Tryz.prog.varReadable ·)) = true := by kernel_rfl
theorem factPlanSmall19 : (Tryz.f5.resultTypes.all (fun t => Tryz.prog.readableRec t && decide (t < Tryz.prog.types.size))) = true := by kernel_rfl
theorem factPlanSmall20 : ((Rows.planSmallRow.ifacesOut == Tryz.f5.resultTypes.toList.any (Tryz.prog.ifacesRec ·))) = true := by kernel_rfl
theorem factPlanSmall21 : ((Rows.planSmallRow.loopsOut == Tryz.f5.resultTypes.toList.any (Tryz.prog.loopsFrom ·))) = true := by kernel_rfl
theorem factPlanSmall22 : ((Rows.planSmallRow.plainKeys == Tryz.prog.plainKeys)) = true := by kernel_rfl
theorem factPlanSmall23 : (Rows.planSmallRow.shortTexts.isNone) = true := by kernel_rfl
theorem factPlanSmall24 : (Tryz.prog.stopsHeard) = true := by kernel_rfl
theorem factPlanSmall25 : (Tryz.prog.mayEnter) = true := by kernel_rfl
theorem factPlanSmall26 : ((Rows.planSmallRow.lifted == Tryz.prog.liftsFinal)) = true := by kernel_rfl
theorem factPlanSmall27 : ((Tryz.prog.make == some Rows.planSmallRow.make)) = true := by kernel_rfl
theorem factPlanSmall28 : ((Rows.planSmallRow.kinds == (if Rows.planSmallRow.domain.isEmpty then [] else Tryz.f5.params.toList.map fun t => match Tryz.prog.underlying t with | some (.int k) => some k | _ => none))) = true := by kernel_rfl
theorem factPlanSmall29 : ((Rows.planSmallRow.pinned == Rows.planSmallRow.pinnedBy)) = true := by kernel_rfl
theorem factPlanSmall30 : ((Rows.planSmallRow.veiled == (Tryz.f5.params.toList ++ Rows.planSmallSpec.plain.varTypes Tryz.prog ++ Tryz.f5.resultTypes.toList).any (Tryz.prog.veiledRec ·))) = true := by kernel_rfl
theorem factPlanSmall31 : (Rows.planSmallRow.veiledFits Tryz.prog Tryz.f5.params.toList (Tryz.f5.params.toList ++ Rows.planSmallSpec.plain.varTypes Tryz.prog ++ Tryz.f5.resultTypes.toList)) = true := by kernel_rfl
theorem factsPlanSmall : joinedFacts Tryz.prog 5 Tryz.f5 Rows.planSmallSpec Rows.planSmallRow = true := (and_facts (and_facts (and_facts (and_facts (and_facts (and_facts (and_facts (and_facts (and_facts (and_facts (and_facts (and_facts (and_facts (and_facts (and_facts (and_facts (and_facts (and_facts (and_facts (and_facts (and_facts (and_facts (and_facts (and_facts (and_facts (and_facts (and_facts (and_facts (and_facts (and_facts (and_facts factPlanSmall0 factPlanSmall1) factPlanSmall2) factPlanSmall3) factPlanSmall4) factPlanSmall5) factPlanSmall6) factPlanSmall7) factPlanSmall8) factPlanSmall9) factPlanSmall10) factPlanSmall11) factPlanSmall12) factPlanSmall13) factPlanSmall14) factPlanSmall15) factPlanSmall16) factPlanSmall17) factPlanSmall18) factPlanSmall19) factPlanSmall20) factPlanSmall21) factPlanSmall22) factPlanSmall23) factPlanSmall24) factPlanSmall25) factPlanSmall26) factPlanSmall27) factPlanSmall28) factPlanSmall29) factPlanSmall30) factPlanSmall31)
end Go.Proofs.YtonkgdoaobojbaaGreatDoor
