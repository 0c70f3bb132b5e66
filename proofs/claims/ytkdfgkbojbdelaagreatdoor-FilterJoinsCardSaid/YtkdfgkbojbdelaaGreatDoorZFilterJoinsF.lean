/-
  FilterJoins: the closed facts of its row, a theorem each. 
-/
import Derived.Test.YtkdfgkbojbdelaaGreatDoorRows
import Derived.Test.YtkdfgkbojbdelaaGreatDoorChecked
import Derived.ProofKit
import Derived.JoinedOf

set_option linter.unusedSimpArgs false
set_option linter.unusedVariables false

set_option maxRecDepth 100000
namespace Go.Proofs.YtkdfgkbojbdelaaGreatDoor
theorem and_facts {a b : Bool} (h : a = true) (k : b = true) : (a && b) = true := by rw [h, k]; rfl
theorem factFilterJoins0 : (Rows.filterJoinsRow.wf (OpenSpec.ofChange Rows.filterJoinsSpec)) = true := by kernel_rfl
theorem factFilterJoins1 : (laidOutB Tryz.prog) = true := by kernel_rfl
theorem factFilterJoins2 : (mapsRowed Tryz.prog) = true := by kernel_rfl
theorem factFilterJoins3 : (Tryz.f4.params.all (Tryz.prog.readableRec ·)) = true := by kernel_rfl
theorem factFilterJoins4 : (namedTie Tryz.prog Rows.filterJoinsRow.named Rows.filterJoinsSpec.vars) = true := by kernel_rfl
theorem factFilterJoins5 : ((Rows.filterJoinsRow.stops == [])) = true := by kernel_rfl
theorem factFilterJoins6 : ((Tryz.prog.stops == [])) = true := by kernel_rfl
theorem factFilterJoins7 : ((Rows.filterJoinsRow.knobs == [])) = true := by kernel_rfl
theorem factFilterJoins8 : ((Tryz.prog.stopKnobs == [])) = true := by kernel_rfl
theorem factFilterJoins9 : ((Rows.filterJoinsRow.inPlace == Tryz.prog.inPlace 4)) = true := by kernel_rfl
theorem factFilterJoins10 : ((Rows.filterJoinsRow.unfollowed == Tryz.prog.unfollowed 4)) = true := by kernel_rfl
theorem factFilterJoins11 : ((Rows.filterJoinsRow.recurses == Tryz.prog.recurses 4)) = true := by kernel_rfl
theorem factFilterJoins12 : ((Rows.filterJoinsRow.named == Tryz.prog.varsNamed 4)) = true := by kernel_rfl
theorem factFilterJoins13 : ((Rows.filterJoinsRow.maps == (Tryz.f4.params.toList ++ Rows.filterJoinsSpec.plain.varTypes Tryz.prog).any (Tryz.prog.mapsRec ·))) = true := by kernel_rfl
theorem factFilterJoins14 : ((Rows.filterJoinsRow.ifaces == (Tryz.f4.params.toList ++ Rows.filterJoinsSpec.plain.varTypes Tryz.prog).any (Tryz.prog.ifacesRec ·))) = true := by kernel_rfl
theorem factFilterJoins15 : ((Rows.filterJoinsRow.mapsOut == Tryz.prog.mapsAmong Tryz.f4.resultTypes.toList)) = true := by kernel_rfl
theorem factFilterJoins16 : ((Rows.filterJoinsRow.loops == (Tryz.f4.params.toList ++ Rows.filterJoinsSpec.plain.varTypes Tryz.prog).any (Tryz.prog.loopsFrom ·))) = true := by kernel_rfl
theorem factFilterJoins17 : ((Rows.filterJoinsRow.wideKeys == (Tryz.f4.params.toList ++ Rows.filterJoinsSpec.plain.varTypes Tryz.prog ++ Tryz.f4.resultTypes.toList).any (Tryz.prog.wideKeysFrom ·))) = true := by kernel_rfl
theorem factFilterJoins18 : (Rows.filterJoinsSpec.vars.all (Tryz.prog.varReadable ·)) = true := by kernel_rfl
theorem factFilterJoins19 : (Tryz.f4.resultTypes.all (fun t => Tryz.prog.readableRec t && decide (t < Tryz.prog.types.size))) = true := by kernel_rfl
theorem factFilterJoins20 : ((Rows.filterJoinsRow.ifacesOut == Tryz.f4.resultTypes.toList.any (Tryz.prog.ifacesRec ·))) = true := by kernel_rfl
theorem factFilterJoins21 : ((Rows.filterJoinsRow.loopsOut == Tryz.f4.resultTypes.toList.any (Tryz.prog.loopsFrom ·))) = true := by kernel_rfl
theorem factFilterJoins22 : ((Rows.filterJoinsRow.plainKeys == Tryz.prog.plainKeys)) = true := by kernel_rfl
theorem factFilterJoins23 : (Rows.filterJoinsRow.shortTexts.isNone) = true := by kernel_rfl
theorem factFilterJoins24 : (Tryz.prog.stopsHeard) = true := by kernel_rfl
theorem factFilterJoins25 : (Tryz.prog.mayEnter) = true := by kernel_rfl
theorem factFilterJoins26 : ((Rows.filterJoinsRow.lifted == Tryz.prog.liftsFinal)) = true := by kernel_rfl
theorem factFilterJoins27 : ((Tryz.prog.make == some Rows.filterJoinsRow.make)) = true := by kernel_rfl
theorem factFilterJoins28 : ((Rows.filterJoinsRow.kinds == (if Rows.filterJoinsRow.domain.isEmpty then [] else Tryz.f4.params.toList.map fun t => match Tryz.prog.underlying t with | some (.int k) => some k | _ => none))) = true := by kernel_rfl
theorem factFilterJoins29 : ((Rows.filterJoinsRow.pinned == Rows.filterJoinsRow.pinnedBy)) = true := by kernel_rfl
theorem factFilterJoins30 : ((Rows.filterJoinsRow.veiled == (Tryz.f4.params.toList ++ Rows.filterJoinsSpec.plain.varTypes Tryz.prog ++ Tryz.f4.resultTypes.toList).any (Tryz.prog.veiledRec ·))) = true := by kernel_rfl
theorem factFilterJoins31 : (Rows.filterJoinsRow.veiledFits Tryz.prog Tryz.f4.params.toList (Tryz.f4.params.toList ++ Rows.filterJoinsSpec.plain.varTypes Tryz.prog ++ Tryz.f4.resultTypes.toList)) = true := by kernel_rfl
theorem factsFilterJoins : joinedFacts Tryz.prog 4 Tryz.f4 Rows.filterJoinsSpec Rows.filterJoinsRow = true := (and_facts (and_facts (and_facts (and_facts (and_facts (and_facts (and_facts (and_facts (and_facts (and_facts (and_facts (and_facts (and_facts (and_facts (and_facts (and_facts (and_facts (and_facts (and_facts (and_facts (and_facts (and_facts (and_facts (and_facts (and_facts (and_facts (and_facts (and_facts (and_facts (and_facts (and_facts factFilterJoins0 factFilterJoins1) factFilterJoins2) factFilterJoins3) factFilterJoins4) factFilterJoins5) factFilterJoins6) factFilterJoins7) factFilterJoins8) factFilterJoins9) factFilterJoins10) factFilterJoins11) factFilterJoins12) factFilterJoins13) factFilterJoins14) factFilterJoins15) factFilterJoins16) factFilterJoins17) factFilterJoins18) factFilterJoins19) factFilterJoins20) factFilterJoins21) factFilterJoins22) factFilterJoins23) factFilterJoins24) factFilterJoins25) factFilterJoins26) factFilterJoins27) factFilterJoins28) factFilterJoins29) factFilterJoins30) factFilterJoins31)
end Go.Proofs.YtkdfgkbojbdelaaGreatDoor
