/-
  FormEscapes: the card, proved from its walk: for every input that can be read, with the listed tables laid as the program's text lays them, the law returns true, and what was there reads as before. 
-/
import Derived.Test.YtokpmakhhhlbkaaDoorZLaw10E
import Derived.Test.YtokpmakhhhlbkaaDoorZFormD
import Derived.Test.YtokpmakhhhlbkaaDoorRows
import Derived.Test.YtokpmakhhhlbkaaDoorCards
import Derived.Test.YtokpmakhhhlbkaaDoorTie
import Derived.Test.YtokpmakhhhlbkaaDoorB01
import Derived.ProofKit
import Derived.OpenShut
import Derived.LaidMore
import Derived.Lay
import Derived.SevenTiedAt
import Derived.Stop.Joined

set_option linter.unusedSimpArgs false
set_option linter.unusedVariables false

namespace Go.Proofs.YtokpmakhhhlbkaaDoor
open Go.ChangeShapes Go.WideShapes Go.ChangeAt Go.RowKit
open Go.ChangeMaps (open_string shut_string)
set_option linter.unusedVariables false

theorem ownFormEscapes : ownKnob Tryd.prog.godebug = none := by kernel_rfl
theorem laidOutFormEscapes : laidOutB Tryd.prog = true := by kernel_rfl

def laidFormEscapes : List (String × DataW Unit) := [("math/bits.deBruijn32tab", Rows.laid_math_bits_deBruijn32tab), ("math/bits.deBruijn64tab", Rows.laid_math_bits_deBruijn64tab), ("internal/strconv.uint64pow10", Rows.laid_internal_strconv_uint64pow10), ("unicode/utf8.acceptRanges", Rows.laid_unicode_utf8_acceptRanges), ("strconv.ErrRange", Rows.laid_strconv_ErrRange), ("strconv.ErrSyntax", Rows.laid_strconv_ErrSyntax), ("unicode.CaseRanges", Rows.laid_unicode_CaseRanges), ("unicode/utf8.first", Rows.laid_unicode_utf8_first)]

set_option maxRecDepth 100000 in
theorem liftedFormEscapes (os : Os) (started : os.Started) (H : Type) (enc : TypeId × Value → H) :
    ReturnsInHanded {} Tryd.checked os 5 .any (fun w args => (Rows.formEscapesSpec.pre enc Tryd.prog Tryd.f5 Rows.formEscapesRow.domain false w args ∧ laidMetH Tryd.prog laidFormEscapes w) ∧ sizedMet enc Tryd.prog Tryd.f5 (OpenSpec.ofChange Rows.formEscapesSpec) false w args)
      (Rows.formEscapesSpec.post enc Tryd.prog Tryd.f5 false true false false) := by
  refine returnsInHanded_of_change_and (C := Tryd.checked) (X := fun w _ => laidMetH Tryd.prog laidFormEscapes w) (fun _ _ _ hh h => h.of_heap hh) ownFormEscapes started (by kernel_rfl) Tryd.func5
    (ChangeSpec.witness_shaped (enc := enc) (C := Tryd.checked) (os := os) (X := fun w _ => laidMetH Tryd.prog laidFormEscapes w) false (World.laidAll Tryd.prog os laidFormEscapes) #[.string ⟨#[]⟩] 8 (World.laidAll_os _ _ _)
      (World.shaped_of_ZipB (by kernel_rfl) (by kernel_rfl)) (by kernel_rfl) (by kernel_rfl) (by kernel_rfl)
      (by rw [MakeChecks.laidMetH_plain _ _ _ (by kernel_rfl)]; exact laidMet_laidAll _ (by kernel_rfl) (by kernel_rfl))) ?_
  intro W base args ds gs before hval0 hW hcnd _ hL _
  have hval : ∀ (j : Nat) t v, Tryd.f5.params[j]? = some t → args[j]? = some v → Value.okWide Tryd.prog W .any base t v := hval0
  have hW' := hW
  obtain ⟨p, q, hA0, hV, rfl, hfz, hnd⟩ := hW
  have hA : DataW.TrodAll enc Tryd.prog W 0 (fun _ => true) true Tryd.f5.params.toList args.toList ds p := hA0
  rw [Tryd.params5] at hA hval
  obtain ⟨v0, vs0, d0, ds0, p0, q0, hargs, rfl, rfl, h0, r0⟩ := trodAll_cons hA
  obtain ⟨rfl, rfl, rfl⟩ := trodAll_nil r0
  obtain rfl : args = #[v0] := by cases args; simp_all
  obtain ⟨rfl, rfl⟩ := trodVars_none hV
  have k0 := h0
  have lt0 : ∀ x ∈ p0, x.block < W.heap.size := by obtain ⟨m, hm⟩ := k0; exact DataW.trod_lt m _ _ _ hm
  obtain ⟨x0, rfl, rfl, rfl, g0⟩ := open_string Tryd.underlying9 (hval 0 9 v0 rfl rfl) h0
  have hlist : (List.filter (fun x => x.2.handleName?.isNone) (laidFormEscapes.filter (fun x => x.1 == "math/bits.deBruijn64tab"))) = [("math/bits.deBruijn64tab", Rows.laid_math_bits_deBruijn64tab)] := by kernel_rfl
  have hdb : DbOk W := by
    have h := (laidMetH_iff.1 (hL.filter (fun x => x.1 == "math/bits.deBruijn64tab"))).1
    rw [hlist] at h
    exact dbOk_of h
  clear hA0 hval0
  refine ((escapes_any x0 W hdb)).mono fun e W' ⟨he, hk⟩ => ?_
  have bel : Below W.heap.size W W' := hk.below (Nat.le_refl _) (fun _ _ h => h)
  subst he
  exact ⟨_, rfl, _, _, _, [], _, [], hW', trodAll_mk1 (shut_bool Tryd.underlying4 _), (trodAll_cons_mk (Below.trod laidOutFormEscapes (by kernel_rfl) (of_decide_eq_true (by kernel_rfl)) k0 bel lt0) trodAll_mk0), rfl, bel.frame _, fun h => by cases h⟩

theorem formEscapes_row : Rows.FormEscapesSaid :=
  OpenClaim.holds_of_wide 5 Tryd.f5 rfl rfl rfl rfl rfl rfl rfl ⟨rfl, rfl, rfl, rfl, rfl⟩ rfl rfl rfl rfl rfl (by kernel_rfl) Tryd.func5 (by kernel_rfl)
    (of_decide_eq_true (by kernel_rfl)) (by unfold Func.isWrapper; first | (rw [if_pos (by decide +kernel)]; kernel_rfl) | (rw [if_neg (by decide +kernel)]; exact ⟨rfl, rfl⟩))
    (fun os started H enc _ => liftedFormEscapes os started H enc)

theorem formEscapes_holds : Rows.FormEscapesCardSaid :=
  Claim7.holds_tied_plain_at .later [] [.data, .data, .data, .data, .sentinel, .sentinel, .pinned, .pinned] true (true, "cbf0abb0074f82cd15cc09b528b9fb422ec6f19333a6c0d32522b20393b025f6") true formEscapes_row (fun _ h => by cases h) (by kernel_rfl) (fun _ h => by cases h) formEscapes_row_tie rfl ⟨rfl, rfl⟩ (by kernel_rfl) rfl
    (fun f fn hf hfn => by
      obtain rfl : f = 5 := Option.some.inj ((show Tryd.prog.funcNamed "seabag/seabaglaw10.FormEscapes" = some 5 by kernel_rfl).symm.trans hf) |>.symm
      obtain rfl : fn = Tryd.f5 := (Option.some.inj (Tryd.func5.symm.trans hfn)).symm
      exact ⟨by kernel_rfl, fun j t ht => by
        rw [Tryd.params5] at ht
        have hm : t ∈ [9] := by simpa using Array.mem_of_getElem? ht
        have hall : ([9].all fun u => !Tryd.prog.wantsStandIn u) = true := by kernel_rfl
        exact (show Tryd.prog.wantsStandIn t = false by simpa using List.all_eq_true.1 hall t hm)⟩)
    (by kernel_rfl)

end Go.Proofs.YtokpmakhhhlbkaaDoor
