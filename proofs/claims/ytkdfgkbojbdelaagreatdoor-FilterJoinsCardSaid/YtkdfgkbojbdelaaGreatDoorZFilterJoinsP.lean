/-
  FilterJoins: the card, proved from its walk: for every input that can be read, with the listed tables laid as the program's text lays them, the law returns true, and what was there reads as before. 
-/
import Derived.Test.YtkdfgkbojbdelaaGreatDoorG03
import Derived.Test.YtkdfgkbojbdelaaGreatDoorG04
import Derived.Test.YtkdfgkbojbdelaaGreatDoorZFilterJoinsF
import Derived.Test.YtkdfgkbojbdelaaGreatDoorRows
import Derived.Test.YtkdfgkbojbdelaaGreatDoorCards
import Derived.Test.YtkdfgkbojbdelaaGreatDoorTie
import Derived.ProofKit
import Derived.OpenShut
import Derived.LaidMore
import Derived.Lay
import Derived.SevenTiedAt
import Derived.Stop.Joined

set_option linter.unusedSimpArgs false
set_option linter.unusedVariables false

namespace Go.Proofs.YtkdfgkbojbdelaaGreatDoor
open Go.ChangeShapes Go.WideShapes Go.ChangeAt Go.RowKit
open Go.ChangeMaps (open_string shut_string)
set_option linter.unusedVariables false
theorem ownFilterJoins : ownKnob Tryz.prog.godebug = none := by kernel_rfl
theorem laidOutFilterJoins : laidOutB Tryz.prog = true := by kernel_rfl
def laidFilterJoins : List (String × DataW Unit) := [("math/bits.deBruijn32tab", Rows.laid_math_bits_deBruijn32tab), ("math/bits.deBruijn64tab", Rows.laid_math_bits_deBruijn64tab), ("internal/strconv.uint64pow10", Rows.laid_internal_strconv_uint64pow10), ("unicode/utf8.acceptRanges", Rows.laid_unicode_utf8_acceptRanges), ("strconv.ErrRange", Rows.laid_strconv_ErrRange), ("strconv.ErrSyntax", Rows.laid_strconv_ErrSyntax), ("unicode.White_Space", Rows.laid_unicode_White_Space), ("strings.asciiSpace", Rows.laid_strings_asciiSpace), ("unicode.CaseRanges", Rows.laid_unicode_CaseRanges), ("unicode/utf8.first", Rows.laid_unicode_utf8_first)]
set_option maxRecDepth 100000 in
theorem liftedFilterJoins (os : Os) (started : os.Started) (H : Type) (enc : TypeId × Value → H) :
 ReturnsInHanded {} Tryz.checked os 4 .any (fun w args => (Rows.filterJoinsSpec.pre enc Tryz.prog Tryz.f4 Rows.filterJoinsRow.domain false w args ∧ laidMetH Tryz.prog laidFilterJoins w) ∧ sizedMet enc Tryz.prog Tryz.f4 (OpenSpec.ofChange Rows.filterJoinsSpec) false w args)
  (Rows.filterJoinsSpec.post enc Tryz.prog Tryz.f4 false true false false) := by
 refine returnsInHanded_of_change_and (C := Tryz.checked) (X := fun w _ => laidMetH Tryz.prog laidFilterJoins w) (fun _ _ _ hh h => h.of_heap hh) ownFilterJoins started (by kernel_rfl) Tryz.func4
  (ChangeSpec.witness_shaped (enc := enc) (C := Tryz.checked) (os := os) (X := fun w _ => laidMetH Tryz.prog laidFilterJoins w) false (World.laidAll Tryz.prog os laidFilterJoins) #[.agg #[.string ⟨#[]⟩, .int .i64 0, .slice none 0 0], .slice none 0 0] 8 (World.laidAll_os _ _ _)
    (World.shaped_of_ZipB (by kernel_rfl) (by kernel_rfl)) (by kernel_rfl) (by kernel_rfl) (by kernel_rfl)
    (by rw [MakeChecks.laidMetH_plain _ _ _ (by kernel_rfl)]; exact laidMet_laidAll _ (by kernel_rfl) (by kernel_rfl))) ?_
 intro W base args ds gs before hval0 hW hcnd _ hL _
 have hval : ∀ (j : Nat) t v, Tryz.f4.params[j]? = some t → args[j]? = some v → Value.okWide Tryz.prog W .any base t v := hval0
 have hW' := hW
 obtain ⟨p, q, hA0, hV, rfl, hfz, hnd⟩ := hW
 have hA : DataW.TrodAll enc Tryz.prog W 0 (fun _ => true) true Tryz.f4.params.toList args.toList ds p := hA0
 rw [Tryz.params4] at hA hval
 obtain ⟨v0, vs0, d0, ds0, p0, q0, hargs, rfl, rfl, h0, r0⟩ := trodAll_cons hA
 obtain ⟨v1, vs1, d1, ds1, p1, q1, rfl, rfl, rfl, h1, r1⟩ := trodAll_cons r0
 obtain ⟨rfl, rfl, rfl⟩ := trodAll_nil r1
 obtain rfl : args = #[v0, v1] := by cases args; simp_all
 obtain ⟨rfl, rfl⟩ := trodVars_none hV
 have k0 := h0
 have lt0 : ∀ x ∈ p0, x.block < W.heap.size := by obtain ⟨m, hm⟩ := k0; exact DataW.trod_lt m _ _ _ hm
 have k1 := h1
 have lt1 : ∀ x ∈ p1, x.block < W.heap.size := by obtain ⟨m, hm⟩ := k1; exact DataW.trod_lt m _ _ _ hm
 obtain ⟨inp, e0, l, pp, cc, rfl, s0⟩ := open_i22 (hval 0 25 v0 rfl rfl) h0
 obtain ⟨a1, len1, cap1, rfl⟩ := okWide_slice Tryz.underlying29 (hval 1 29 v1 rfl rfl)
 obtain ⟨x1, rfl, s1, g1⟩ := open_strs_sl Tryz.underlying29 Tryz.underlying9 (by kernel_rfl) h1
 have hlist : (List.filter (fun x => x.2.handleName?.isNone) (laidFilterJoins.filter (fun x => x.1 == "strings.asciiSpace"))) = [("strings.asciiSpace", Rows.laid_strings_asciiSpace)] := by kernel_rfl
 have htab : As22 W := by
  have h := (laidMetH_iff.1 (hL.filter (fun x => x.1 == "strings.asciiSpace"))).1
  rw [hlist] at h
  exact as22_of h
 have hlist2 : (List.filter (fun x => x.2.handleName?.isNone) (laidFilterJoins.filter (fun x => x.1 == "internal/strconv.uint64pow10"))) = [("internal/strconv.uint64pow10", Rows.laid_internal_strconv_uint64pow10)] := by kernel_rfl
 have hten : T10 W := by
  have h := (laidMetH_iff.1 (hL.filter (fun x => x.1 == "internal/strconv.uint64pow10"))).1
  rw [hlist2] at h
  exact t10_of h
 clear hA0 hval0
 refine ((filterJoins_any l x1 inp e0 W s1 s0 htab hten)).mono fun e W' ⟨he, hk⟩ => ?_
 have bel : Below W.heap.size W W' := hk.below (Nat.le_refl _) (fun _ _ h => h)
 subst he
 exact ⟨_, rfl, _, _, _, [], _, [], hW', trodAll_mk1 (shut_bool Tryz.underlying4 _), (trodAll_cons_mk (Below.trod laidOutFilterJoins (by kernel_rfl) (of_decide_eq_true (by kernel_rfl)) k0 bel lt0) (trodAll_cons_mk (Below.trod laidOutFilterJoins (by kernel_rfl) (of_decide_eq_true (by kernel_rfl)) k1 bel lt1) trodAll_mk0)), rfl, bel.frame _, fun h => by cases h⟩
theorem filterJoins_row : Rows.FilterJoinsSaid :=
 OpenClaim.holds_of_wide 4 Tryz.f4 rfl rfl rfl rfl rfl rfl rfl ⟨rfl, rfl, rfl, rfl, rfl⟩ rfl rfl rfl rfl rfl (by kernel_rfl) Tryz.func4 factsFilterJoins
  (of_decide_eq_true (by kernel_rfl)) (by unfold Func.isWrapper; first | (rw [if_pos (by decide +kernel)]; kernel_rfl) | (rw [if_neg (by decide +kernel)]; exact ⟨rfl, rfl⟩))
  (fun os started H enc _ => liftedFilterJoins os started H enc)
theorem filterJoins_holds : Rows.FilterJoinsCardSaid :=
 Claim7.holds_tied_plain_at .later [] [.data, .data, .data, .data, .sentinel, .sentinel, .listed, .data, .pinned, .pinned] true (true, "3020372a6f4b3ea22705fdd5902b3632aa12aaa54db39c93efa46396ab05d709") true filterJoins_row (fun _ h => by cases h) (by kernel_rfl) (fun _ h => by cases h) filterJoins_row_tie rfl ⟨rfl, rfl⟩ (by kernel_rfl) rfl
  (fun f fn hf hfn => by
    obtain rfl : f = 4 := Option.some.inj ((show Tryz.prog.funcNamed "seabag/seabaglaw22.FilterJoins" = some 4 by kernel_rfl).symm.trans hf) |>.symm
    obtain rfl : fn = Tryz.f4 := (Option.some.inj (Tryz.func4.symm.trans hfn)).symm
    exact ⟨by kernel_rfl, fun j t ht => by
     rw [Tryz.params4] at ht
     have hm : t ∈ [25, 29] := by simpa using Array.mem_of_getElem? ht
     have hall : ([25, 29].all fun u => !Tryz.prog.wantsStandIn u) = true := by kernel_rfl
     exact (show Tryz.prog.wantsStandIn t = false by simpa using List.all_eq_true.1 hall t hm)⟩)
  (by kernel_rfl)
end Go.Proofs.YtkdfgkbojbdelaaGreatDoor
