/-
  FilesPlay: the card, proved from its walk: for every input that can be read, with the listed tables laid as the program's text lays them, the law returns true, and what was there reads as before. 
-/
import Derived.Test.YtnanhmfpikddkaaGreatDoorG47
import Derived.Test.YtnanhmfpikddkaaGreatDoorRows
import Derived.Test.YtnanhmfpikddkaaGreatDoorCards
import Derived.Test.YtnanhmfpikddkaaGreatDoorTie
import Derived.ProofKit
import Derived.OpenShut
import Derived.LaidMore
import Derived.Lay
import Derived.SevenTiedAt
import Derived.Stop.Joined

set_option linter.unusedSimpArgs false
set_option linter.unusedVariables false

namespace Go.Proofs.YtnanhmfpikddkaaGreatDoor
open Go.ChangeShapes Go.WideShapes Go.ChangeAt Go.RowKit
open Go.ChangeMaps (open_string shut_string)
set_option linter.unusedVariables false
theorem Px : ownKnob Tryz.prog.godebug = none := by kernel_rfl
theorem zI : laidOutB Tryz.prog = true := by kernel_rfl
def zJ : List (String × DataW Unit) := [("unicode/utf8.acceptRanges", Rows.laid_unicode_utf8_acceptRanges), ("unicode/utf8.first", Rows.laid_unicode_utf8_first)]
set_option maxRecDepth 100000 in
theorem Py (os : Os) (started : os.Started) (H : Type) (enc : TypeId × Value → H) :
 ReturnsInHanded {} Tryz.checked os 3 .any (fun w args => (Rows.filesPlaySpec.pre enc Tryz.prog Tryz.f3 Rows.filesPlayRow.domain false w args ∧ laidMetH Tryz.prog zJ w) ∧ sizedMet enc Tryz.prog Tryz.f3 (OpenSpec.ofChange Rows.filesPlaySpec) false w args)
  (Rows.filesPlaySpec.post enc Tryz.prog Tryz.f3 false true false false) := by
 refine returnsInHanded_of_change_and (C := Tryz.checked) (X := fun w _ => laidMetH Tryz.prog zJ w) (fun _ _ _ hh h => h.of_heap hh) Px started (by kernel_rfl) Tryz.func3
  (ChangeSpec.witness_shaped (enc := enc) (C := Tryz.checked) (os := os) (X := fun w _ => laidMetH Tryz.prog zJ w) false (World.laidAll Tryz.prog os zJ) #[.int .i64 0, .int .i64 0, .int .i64 0, .slice none 0 0] 8 (World.laidAll_os _ _ _)
    (World.shaped_of_ZipB (by kernel_rfl) (by kernel_rfl)) (by kernel_rfl) (by kernel_rfl) (by kernel_rfl)
    (by rw[MakeChecks.laidMetH_plain _ _ _ (by kernel_rfl)]; exact laidMet_laidAll _ (by kernel_rfl) (by kernel_rfl))) ?_
 intro W base args ds gs before wv hW hcnd _ hL _
 have hval : ∀(j : Nat) t v, Tryz.f3.params[j]? = some t → args[j]? = some v → Value.okWide Tryz.prog W .any base t v := wv
 have hW' := hW
 obtain⟨p, q, wB, hV, rfl, hfz, hnd⟩ := hW
 have hA : DataW.TrodAll enc Tryz.prog W 0 (fun _ => true) true Tryz.f3.params.toList args.toList ds p := wB
 rw[Tryz.params3]at hA hval
 obtain⟨v0, Pm, d0, Pn, p0, q0, hargs, rfl, rfl, h0, r0⟩ := trodAll_cons hA
 obtain⟨v1, vs1, d1, ds1, p1, q1, rfl, rfl, rfl, h1, r1⟩ := trodAll_cons r0
 obtain⟨v2, Po, d2, Pp, p2, q2, rfl, rfl, rfl, h2, r2⟩ := trodAll_cons r1
 obtain⟨v3, vs3, d3, ds3, p3, q3, rfl, rfl, rfl, h3, r3⟩ := trodAll_cons r2
 obtain⟨rfl, rfl, rfl⟩ := trodAll_nil r3
 obtain rfl : args = #[v0, v1, v2, v3] := by cases args; simp_all
 obtain⟨rfl, rfl⟩ := trodVars_none hV
 have k0 := h0
 have C9 : ∀x∈p0, x.block<W.heap.size := by obtain⟨m, hm⟩ := k0; exact DataW.trod_lt m _ _ _ hm
 have k1 := h1
 have Da : ∀x∈p1, x.block<W.heap.size := by obtain⟨m, hm⟩ := k1; exact DataW.trod_lt m _ _ _ hm
 have k2 := h2
 have Db : ∀x∈p2, x.block<W.heap.size := by obtain⟨m, hm⟩ := k2; exact DataW.trod_lt m _ _ _ hm
 have k3 := h3
 have Pz : ∀x∈p3, x.block<W.heap.size := by obtain⟨m, hm⟩ := k3; exact DataW.trod_lt m _ _ _ hm
 obtain⟨x0, rfl, rfl, rfl, g0⟩ := open_int Tryz.underlying3 (hval 0 3 v0 rfl rfl) h0
 obtain⟨x1, rfl, rfl, rfl, g1⟩ := open_int Tryz.underlying3 (hval 1 3 v1 rfl rfl) h1
 obtain⟨x2, rfl, rfl, rfl, g2⟩ := open_int Tryz.underlying3 (hval 2 3 v2 rfl rfl) h2
 obtain⟨a3, V1, V2, rfl⟩ := okWide_slice Tryz.underlying22 (hval 3 22 v3 rfl rfl)
 obtain⟨x3, rfl, s3, g3⟩ := Ix h3
 clear wB wv
 refine((PA s3 g3 x0 x1 x2 (PE g0))).mono fun e W' ⟨he, hk⟩ => ?_
 have qt : Below W.heap.size W W' := hk.below (Nat.le_refl _) (fun _ _ h => h)
 subst he
 exact⟨_, rfl, _, _, _, [], _, [], hW', trodAll_mk1 (shut_bool Tryz.underlying4 _), (trodAll_cons_mk (Below.trod zI (by kernel_rfl) (of_decide_eq_true (by kernel_rfl)) k0 qt C9) (trodAll_cons_mk (Below.trod zI (by kernel_rfl) (of_decide_eq_true (by kernel_rfl)) k1 qt Da) (trodAll_cons_mk (Below.trod zI (by kernel_rfl) (of_decide_eq_true (by kernel_rfl)) k2 qt Db) (trodAll_cons_mk (Below.trod zI (by kernel_rfl) (of_decide_eq_true (by kernel_rfl)) k3 qt Pz) trodAll_mk0)))), rfl, qt.frame _, fun h => by cases h⟩
theorem PF : Rows.FilesPlaySaid :=
 OpenClaim.holds_of_wide 3 Tryz.f3 rfl rfl rfl rfl rfl rfl rfl ⟨rfl, rfl, rfl, rfl, rfl⟩ rfl rfl rfl rfl rfl (by kernel_rfl) Tryz.func3 (by kernel_rfl)
  (of_decide_eq_true (by kernel_rfl)) (by unfold Func.isWrapper; first | (rw[if_pos (by decide +kernel)]; kernel_rfl) | (rw[if_neg (by decide +kernel)]; exact⟨rfl, rfl⟩))
  (fun os started H enc _ => Py os started H enc)
theorem filesPlay_holds : Rows.FilesPlayCardSaid :=
 Claim7.holds_tied_plain_at .later [] [.data, .pinned] true (true, "dfdfaf8897ad3071f78814b379ead503304721f0040dde86f2298e10cbab3403") false PF (fun _ h => by cases h) (by kernel_rfl) (fun _ h => by cases h) filesPlay_row_tie rfl ⟨rfl, rfl⟩ (by kernel_rfl) rfl
  (fun f fn hf hfn => by
    obtain rfl : f = 3 := Option.some.inj ((show Tryz.prog.funcNamed "seabag/seabaglaw06.FilesPlay" = some 3 by kernel_rfl).symm.trans hf) |>.symm
    obtain rfl : fn = Tryz.f3 := (Option.some.inj (Tryz.func3.symm.trans hfn)).symm
    exact⟨by kernel_rfl, fun j t ht => by
     rw[Tryz.params3]at ht
     have hm : t∈[3, 3, 3, 22] := by simpa using Array.mem_of_getElem? ht
     have hall : ([3, 3, 3, 22].all fun u => !Tryz.prog.wantsStandIn u) = true := by kernel_rfl
     exact(show Tryz.prog.wantsStandIn t = false by simpa using List.all_eq_true.1 hall t hm)⟩)
  (by kernel_rfl)
end Go.Proofs.YtnanhmfpikddkaaGreatDoor
