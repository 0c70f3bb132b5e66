/-
  FilesAsk: the card, proved from its walk: for every input that can be read, with the listed tables laid as the program's text lays them, the law returns true, and what was there reads as before. 
-/
import Derived.Test.YtnanhmfpikddkaaGreatDoorG48
import Derived.Test.YtnanhmfpikddkaaGreatDoorG47
import Derived.Test.YtnanhmfpikddkaaGreatDoorRows
import Derived.Test.YtnanhmfpikddkaaGreatDoorCards
import Derived.Test.YtnanhmfpikddkaaGreatDoorTie
import Derived.ProofKit
import Derived.OpenShut
import Derived.LaidMore
import Derived.Lay
import Derived.SevenTiedAt
import Derived.Stop.Joined

set_option linter.unusedSimpArgs false
set_option linter.unusedVariables false

namespace Go.Proofs.YtnanhmfpikddkaaGreatDoor
open Go.ChangeShapes Go.WideShapes Go.ChangeAt Go.RowKit
open Go.ChangeMaps (open_string shut_string)
set_option linter.unusedVariables false
theorem Pj : ownKnob Tryz.prog.godebug = none := by kernel_rfl
theorem C8 : laidOutB Tryz.prog = true := by kernel_rfl
def zF : List (String × DataW Unit) := [("unicode/utf8.acceptRanges", Rows.laid_unicode_utf8_acceptRanges), ("unicode/utf8.first", Rows.laid_unicode_utf8_first)]
set_option maxRecDepth 100000 in
theorem Pk (os : Os) (started : os.Started) (H : Type) (enc : TypeId × Value → H) :
 ReturnsInHanded {} Tryz.checked os 4 .any (fun w args => (Rows.filesAskSpec.pre enc Tryz.prog Tryz.f4 Rows.filesAskRow.domain false w args ∧ laidMetH Tryz.prog zF w) ∧ sizedMet enc Tryz.prog Tryz.f4 (OpenSpec.ofChange Rows.filesAskSpec) false w args)
  (Rows.filesAskSpec.post enc Tryz.prog Tryz.f4 false true false false) := by
 refine returnsInHanded_of_change_and (C := Tryz.checked) (X := fun w _ => laidMetH Tryz.prog zF w) (fun _ _ _ hh h => h.of_heap hh) Pj started (by kernel_rfl) Tryz.func4
  (ChangeSpec.witness_shaped (enc := enc) (C := Tryz.checked) (os := os) (X := fun w _ => laidMetH Tryz.prog zF w) false (World.laidAll Tryz.prog os zF) #[.slice none 0 0, .string ⟨#[]⟩, .bool false] 8 (World.laidAll_os _ _ _)
    (World.shaped_of_ZipB (by kernel_rfl) (by kernel_rfl)) (by kernel_rfl) (by kernel_rfl) (by kernel_rfl)
    (by rw[MakeChecks.laidMetH_plain _ _ _ (by kernel_rfl)]; exact laidMet_laidAll _ (by kernel_rfl) (by kernel_rfl))) ?_
 intro W base args ds gs before wv hW hcnd _ hL _
 have hval : ∀(j : Nat) t v, Tryz.f4.params[j]? = some t → args[j]? = some v → Value.okWide Tryz.prog W .any base t v := wv
 have hW' := hW
 obtain⟨p, q, wB, hV, rfl, hfz, hnd⟩ := hW
 have hA : DataW.TrodAll enc Tryz.prog W 0 (fun _ => true) true Tryz.f4.params.toList args.toList ds p := wB
 rw[Tryz.params4]at hA hval
 obtain⟨v0, Pm, d0, Pn, p0, q0, hargs, rfl, rfl, h0, r0⟩ := trodAll_cons hA
 obtain⟨v1, vs1, d1, ds1, p1, q1, rfl, rfl, rfl, h1, r1⟩ := trodAll_cons r0
 obtain⟨v2, Po, d2, Pp, p2, q2, rfl, rfl, rfl, h2, r2⟩ := trodAll_cons r1
 obtain⟨rfl, rfl, rfl⟩ := trodAll_nil r2
 obtain rfl : args = #[v0, v1, v2] := by cases args; simp_all
 obtain⟨rfl, rfl⟩ := trodVars_none hV
 have k0 := h0
 have C9 : ∀x∈p0, x.block<W.heap.size := by obtain⟨m, hm⟩ := k0; exact DataW.trod_lt m _ _ _ hm
 have k1 := h1
 have Da : ∀x∈p1, x.block<W.heap.size := by obtain⟨m, hm⟩ := k1; exact DataW.trod_lt m _ _ _ hm
 have k2 := h2
 have Db : ∀x∈p2, x.block<W.heap.size := by obtain⟨m, hm⟩ := k2; exact DataW.trod_lt m _ _ _ hm
 obtain⟨a0, VY, VZ, rfl⟩ := okWide_slice Tryz.underlying22 (hval 0 22 v0 rfl rfl)
 obtain⟨x0, rfl, s0, g0⟩ := Ix h0
 obtain⟨x1, rfl, rfl, rfl, g1⟩ := open_string Tryz.underlying9 (hval 1 9 v1 rfl rfl) h1
 obtain⟨x2, rfl, rfl, rfl⟩ := open_bool Tryz.underlying4 (hval 2 4 v2 rfl rfl) h2
 clear wB wv
 refine((Pq s0 g0 x1 g1 x2)).mono fun e W' ⟨he, hk⟩ => ?_
 have qt : Below W.heap.size W W' := hk.below (Nat.le_refl _) (fun _ _ h => h)
 subst he
 exact⟨_, rfl, _, _, _, [], _, [], hW', trodAll_mk1 (shut_bool Tryz.underlying4 _), (trodAll_cons_mk (Below.trod C8 (by kernel_rfl) (of_decide_eq_true (by kernel_rfl)) k0 qt C9) (trodAll_cons_mk (Below.trod C8 (by kernel_rfl) (of_decide_eq_true (by kernel_rfl)) k1 qt Da) (trodAll_cons_mk (Below.trod C8 (by kernel_rfl) (of_decide_eq_true (by kernel_rfl)) k2 qt Db) trodAll_mk0))), rfl, qt.frame _, fun h => by cases h⟩
theorem Pr : Rows.FilesAskSaid :=
 OpenClaim.holds_of_wide 4 Tryz.f4 rfl rfl rfl rfl rfl rfl rfl ⟨rfl, rfl, rfl, rfl, rfl⟩ rfl rfl rfl rfl rfl (by kernel_rfl) Tryz.func4 (by kernel_rfl)
  (of_decide_eq_true (by kernel_rfl)) (by unfold Func.isWrapper; first | (rw[if_pos (by decide +kernel)]; kernel_rfl) | (rw[if_neg (by decide +kernel)]; exact⟨rfl, rfl⟩))
  (fun os started H enc _ => Pk os started H enc)
theorem filesAsk_holds : Rows.FilesAskCardSaid :=
 Claim7.holds_tied_plain_at .later [] [.data, .pinned] true (true, "dfdfaf8897ad3071f78814b379ead503304721f0040dde86f2298e10cbab3403") false Pr (fun _ h => by cases h) (by kernel_rfl) (fun _ h => by cases h) filesAsk_row_tie rfl ⟨rfl, rfl⟩ (by kernel_rfl) rfl
  (fun f fn hf hfn => by
    obtain rfl : f = 4 := Option.some.inj ((show Tryz.prog.funcNamed "seabag/seabaglaw06.FilesAsk" = some 4 by kernel_rfl).symm.trans hf) |>.symm
    obtain rfl : fn = Tryz.f4 := (Option.some.inj (Tryz.func4.symm.trans hfn)).symm
    exact⟨by kernel_rfl, fun j t ht => by
     rw[Tryz.params4]at ht
     have hm : t∈[22, 9, 4] := by simpa using Array.mem_of_getElem? ht
     have hall : ([22, 9, 4].all fun u => !Tryz.prog.wantsStandIn u) = true := by kernel_rfl
     exact(show Tryz.prog.wantsStandIn t = false by simpa using List.all_eq_true.1 hall t hm)⟩)
  (by kernel_rfl)
end Go.Proofs.YtnanhmfpikddkaaGreatDoor
