/-
  PlanMakes: the card, proved from its walk: for every input that can be read, with the listed tables laid as the program's text lays them, the law returns true, and what was there reads as before. 
-/
import Derived.Test.YtonkgdoaobojbaaGreatDoorG07
import Derived.Test.YtonkgdoaobojbaaGreatDoorZPlanMakesF
import Derived.Test.YtonkgdoaobojbaaGreatDoorRows
import Derived.Test.YtonkgdoaobojbaaGreatDoorCards
import Derived.Test.YtonkgdoaobojbaaGreatDoorTie
import Derived.ProofKit
import Derived.OpenShut
import Derived.LaidMore
import Derived.Lay
import Derived.SevenTiedAt
import Derived.Stop.Joined

set_option linter.unusedSimpArgs false
set_option linter.unusedVariables false

namespace Go.Proofs.YtonkgdoaobojbaaGreatDoor
open Go.ChangeShapes Go.WideShapes Go.ChangeAt Go.RowKit
open Go.ChangeMaps (open_string shut_string)
set_option linter.unusedVariables false
theorem ownPlanMakes : ownKnob Tryz.prog.godebug = none := by kernel_rfl
theorem laidOutPlanMakes : laidOutB Tryz.prog = true := by kernel_rfl
def laidPlanMakes : List (String × DataW Unit) := [("unicode/utf8.acceptRanges", Rows.laid_unicode_utf8_acceptRanges), ("unicode/utf8.first", Rows.laid_unicode_utf8_first)]
set_option maxRecDepth 100000 in
theorem liftedPlanMakes (os : Os) (started : os.Started) (H : Type) (enc : TypeId × Value → H) :
 ReturnsInHanded {} Tryz.checked os 3 .any (fun w args => (Rows.planMakesSpec.pre enc Tryz.prog Tryz.f3 Rows.planMakesRow.domain false w args ∧ laidMetH Tryz.prog laidPlanMakes w) ∧ sizedMet enc Tryz.prog Tryz.f3 (OpenSpec.ofChange Rows.planMakesSpec) false w args)
  (Rows.planMakesSpec.post enc Tryz.prog Tryz.f3 false true false false) := by
 refine returnsInHanded_of_change_and (C := Tryz.checked) (X := fun w _ => laidMetH Tryz.prog laidPlanMakes w) (fun _ _ _ hh h => h.of_heap hh) ownPlanMakes started (by kernel_rfl) Tryz.func3
  (ChangeSpec.witness_shaped (enc := enc) (C := Tryz.checked) (os := os) (X := fun w _ => laidMetH Tryz.prog laidPlanMakes w) false (World.laidAll Tryz.prog os laidPlanMakes) #[.slice none 0 0, .slice none 0 0] 8 (World.laidAll_os _ _ _)
    (World.shaped_of_ZipB (by kernel_rfl) (by kernel_rfl)) (by kernel_rfl) (by kernel_rfl) (by kernel_rfl)
    (by rw [MakeChecks.laidMetH_plain _ _ _ (by kernel_rfl)]; exact laidMet_laidAll _ (by kernel_rfl) (by kernel_rfl))) ?_
 intro W base args ds gs before hval0 hW hcnd hwt hL _
 have hval : ∀ (j : Nat) t v, Tryz.f3.params[j]? = some t → args[j]? = some v → Value.okWide Tryz.prog W .any base t v := hval0
 have hW' := hW
 obtain ⟨p, q, hA0, hV, rfl, hfz, hnd⟩ := hW
 have hA : DataW.TrodAll enc Tryz.prog W 0 (fun _ => true) true Tryz.f3.params.toList args.toList ds p := hA0
 rw [Tryz.params3] at hA hval
 obtain ⟨v0, vs0, d0, ds0, p0, q0, hargs, rfl, rfl, h0, r0⟩ := trodAll_cons hA
 obtain ⟨v1, vs1, d1, ds1, p1, q1, rfl, rfl, rfl, h1, r1⟩ := trodAll_cons r0
 obtain ⟨rfl, rfl, rfl⟩ := trodAll_nil r1
 obtain rfl : args = #[v0, v1] := by cases args; simp_all
 obtain ⟨rfl, rfl⟩ := trodVars_none hV
 rw [Tryz.params3] at hwt
 have hw0 := weights_head (t := 23) (ts := [24]) (d := d0) (ds := [d1]) hwt
 have k0 := h0
 have lt0 : ∀ x ∈ p0, x.block < W.heap.size := by obtain ⟨m, hm⟩ := k0; exact DataW.trod_lt m _ _ _ hm
 have k1 := h1
 have lt1 : ∀ x ∈ p1, x.block < W.heap.size := by obtain ⟨m, hm⟩ := k1; exact DataW.trod_lt m _ _ _ hm
 obtain ⟨a0, len0, cap0, rfl⟩ := okWide_slice Tryz.underlying23 (hval 0 23 v0 rfl rfl)
 obtain ⟨x0, rfl, s0, g0⟩ := open_itm hw0 h0
 obtain ⟨a1, len1, cap1, rfl⟩ := okWide_slice Tryz.underlying24 (hval 1 24 v1 rfl rfl)
 obtain ⟨x1, rfl, s1, g1⟩ := open_ints_sl Tryz.underlying24 Tryz.underlying3 (by kernel_rfl) h1
 clear hA0 hval0
 refine ((makes_any x0 g0 x1 W s0 s1)).mono fun e W' ⟨he, hk⟩ => ?_
 have bel : Below W.heap.size W W' := hk.below (Nat.le_refl _) (fun _ _ h => h)
 subst he
 exact ⟨_, rfl, _, _, _, [], _, [], hW', trodAll_mk1 (shut_bool Tryz.underlying4 _), (trodAll_cons_mk (Below.trod laidOutPlanMakes (by kernel_rfl) (of_decide_eq_true (by kernel_rfl)) k0 bel lt0) (trodAll_cons_mk (Below.trod laidOutPlanMakes (by kernel_rfl) (of_decide_eq_true (by kernel_rfl)) k1 bel lt1) trodAll_mk0)), rfl, bel.frame _, fun h => by cases h⟩
theorem planMakes_row : Rows.PlanMakesSaid :=
 OpenClaim.holds_of_wide 3 Tryz.f3 rfl rfl rfl rfl rfl rfl rfl ⟨rfl, rfl, rfl, rfl, rfl⟩ rfl rfl rfl rfl rfl (by kernel_rfl) Tryz.func3 factsPlanMakes
  (of_decide_eq_true (by kernel_rfl)) (by unfold Func.isWrapper; first | (rw [if_pos (by decide +kernel)]; kernel_rfl) | (rw [if_neg (by decide +kernel)]; exact ⟨rfl, rfl⟩))
  (fun os started H enc _ => liftedPlanMakes os started H enc)
theorem planMakes_holds : Rows.PlanMakesCardSaid :=
 Claim7.holds_tied_plain_at .later [] [.data, .pinned] true (true, "607ccdf3e1cc753ad859ba6904353396ff84cd4d99a229788ffcf7c87e358bdf") true planMakes_row (fun _ h => by cases h) (by kernel_rfl) (fun _ h => by cases h) planMakes_row_tie rfl ⟨rfl, rfl⟩ (by kernel_rfl) rfl
  (fun f fn hf hfn => by
    obtain rfl : f = 3 := Option.some.inj ((show Tryz.prog.funcNamed "seabag/seabaglaw26.PlanMakes" = some 3 by kernel_rfl).symm.trans hf) |>.symm
    obtain rfl : fn = Tryz.f3 := (Option.some.inj (Tryz.func3.symm.trans hfn)).symm
    exact ⟨by kernel_rfl, fun j t ht => by
     rw [Tryz.params3] at ht
     have hm : t ∈ [23, 24] := by simpa using Array.mem_of_getElem? ht
     have hall : ([23, 24].all fun u => !Tryz.prog.wantsStandIn u) = true := by kernel_rfl
     exact (show Tryz.prog.wantsStandIn t = false by simpa using List.all_eq_true.1 hall t hm)⟩)
  (by kernel_rfl)
end Go.Proofs.YtonkgdoaobojbaaGreatDoor
