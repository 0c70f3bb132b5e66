/-
  Layer 23's statements: the walk of ToolNames.
-/
import Derived.Test.YtnaenhekjdmlaaaGreatDoorG10

set_option linter.unusedSimpArgs false
set_option linter.unusedVariables false
set_option maxRecDepth 100000
set_option maxHeartbeats 8000000
namespace Go.Proofs.YtnaenhekjdmlaaaGreatDoor
open Go Go.RowKit
theorem isIn_snocB (l : List ByteArray) (s : ByteArray) {k : Nat} {x : ByteArray} (h : l[k]? = some x) : isIn (l.take (k + 1)) s = (isIn (l.take k) s || decide (x = s)) := by
 unfold isIn
 rw [List.take_add_one, h, List.any_append]
 simp
theorem toList_eqb (x s : ByteArray) : (x.toList == s.toList) = decide (x = s) := by
 by_cases h : x = s
 ·subst h; simp
 ·rw [toList_ne h]; simp [h]
theorem tNm_less : ∀ j : Fin 11, Op.bytesLess (tNm[j.1]?.getD ⟨#[]⟩).data.toList (tNm[j.1 + 1]?.getD ⟨#[]⟩).data.toList = true := by decide
theorem toolNames_any (s : ByteArray) (W : World) : Calls Tryz.prog 8 #[.string s] W fun e w' => e = .returned (.bool true) ∧ Keeps NoB W w' := by
 have HA := Lib.hid anchor23_any
 have HN := Lib.hid tnames_any
 have HT := Lib.hid thas_any
 have HF := Lib.hid fhas_any
 go_enter Tryz.func8, Tryz.ntmps8
 go_wp2_with (first | (go_at_call 17; go_loud (refine (HA.out _).mono ?_); rintro e w1 ⟨rfl, hk1⟩) | (go_at_call 31; go_loud (refine (HN.out _).mono ?_); rintro e w2 ⟨rfl, hs2, hk2⟩))
 have HS := Lib.hid hs2
 have HK := Lib.hid (hk1.trans hk2)
 have hz : w1.heap.size < w2.heap.size := by
  obtain ⟨_, _, e, _, hg, _⟩ := hs2.str (i := 0) (x := ⟨#[91]⟩) rfl
  cases e; exact hg
 clear hs2 hk1 hk2 HA HN
 go_loopw [4, 12] (fun f i wr => ∃ k : Nat, k <= 12 ∧ i = .int .i64 k ∧ f = .bool (isIn (tNm.take k) s) ∧ Keeps NoB w2 wr) (fun _ i _ => 13 - (intOf i).toNat)
 case atStart => exact ⟨0, by omega, rfl, rfl, Keeps.refl _ _⟩
 case round =>
  obtain ⟨k, hk, rfl, rfl, hkw⟩ := hrel
  have HKw := Lib.hid hkw
  clear hkw
  by_cases hlt : k < 12
  ·obtain ⟨x, hx⟩ : ∃ x, tNm[k]? = some x := ⟨_, List.getElem?_eq_getElem (by show k < 12; exact hlt)⟩
   obtain ⟨g, off, hg, _, _, c0⟩ := (HS.out.keepN HKw.out).str hx
   cases hg
   simp only [Nat.zero_add] at c0
   have HX := Lib.hid hx
   have HIs := Lib.hid (isIn_snocB tNm s hx)
   have hT := Lib.hid (fun w => thas_any x w)
   have hF := Lib.hid (fun w => fhas_any x w)
   have hin : isIn tNm x = true := isIn_some hx rfl
   have hnf : isIn fNm x = false := by
    have : ∀ y ∈ tNm, isIn fNm y = false := by decide
    exact this x (List.mem_of_getElem? hx)
   rw [hin] at hT
   rw [hnf] at hF
   have HEb := Lib.hid (toList_eqb x s)
   obtain ⟨fb, hfb⟩ : ∃ fb, isIn (tNm.take k) s = fb := ⟨_, rfl⟩
   rw [hfb] at HIs ⊢
   clear hin hnf hfb
   by_cases h0 : k = 0
   ·subst h0
    clear hx
    cases fb
    all_goals
     go_wp2_with (first | (go_at_call 32; go_loud (refine (hT.out _).mono ?_); rintro e w3 ⟨rfl, hk3⟩) | (go_at_call 16; go_loud (refine (hF.out _).mono ?_); rintro e w4 ⟨rfl, hk4⟩))
     go_roundw
     case rel => exact ⟨1, by omega, by go_num, by rw [HIs.out]; first | rfl | rw [HEb.out]; rfl, (HKw.out.trans hk3).trans hk4⟩
     case measure => simp [intOf]
   ·obtain ⟨j, rfl⟩ : ∃ j, k = j + 1 := ⟨k - 1, by omega⟩
    obtain ⟨y, hy⟩ : ∃ y, tNm[j]? = some y := ⟨_, List.getElem?_eq_getElem (by show j < 12; omega)⟩
    have hls := tNm_less ⟨j, by omega⟩
    simp only at hls
    rw [hy, hx] at hls
    simp only [Option.getD_some] at hls
    rw [<- Lib.toList_data, <- Lib.toList_data] at hls
    obtain ⟨g, off, hg, _, _, c1⟩ := (HS.out.keepN HKw.out).str hy
    cases hg
    simp only [Nat.zero_add] at c1
    clear hy hx
    cases fb
    all_goals
     go_wp2_with (first | (go_at_call 32; go_loud (refine (hT.out _).mono ?_); rintro e w3 ⟨rfl, hk3⟩) | (go_at_call 16; go_loud (refine (hF.out _).mono ?_); rintro e w4 ⟨rfl, hk4⟩))
     go_roundw
     case rel => exact ⟨j + 1 + 1, by omega, by go_num, by rw [HIs.out]; first | rfl | rw [HEb.out]; rfl, (HKw.out.trans hk3).trans hk4⟩
     case measure => simp [intOf]; omega
  ·obtain rfl : k = 12 := by omega
   have hT := Lib.hid (fun w => thas_any s w)
   rw [show tNm.take 12 = tNm from rfl]
   go_wp2_with (go_at_call 32; go_loud (refine (hT.out _).mono ?_); rintro e w3 ⟨rfl, hk3⟩)
   go_ret
   exact ⟨ret_bool (by simp), (HK.out.trans HKw.out).trans hk3⟩
end Go.Proofs.YtnaenhekjdmlaaaGreatDoor
