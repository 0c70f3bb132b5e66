/-
  Layer 10: plain laws: what formats tell, place by place.
-/
import Derived.Test.YtokpmakhhhlbkaaDoorZFormN4

set_option linter.unusedSimpArgs false
set_option linter.unusedVariables false

set_option maxRecDepth 100000
set_option maxHeartbeats 4000000
namespace Go.Proofs.YtokpmakhhhlbkaaDoor
open Go Go.RowKit

theorem oct_three : ∀ n : Fin 256, lettC (48 + UInt8.ofNat n.val / 64) = none ∧ isOct (48 + UInt8.ofNat n.val / 64) = true ∧ isOct (48 + UInt8.ofNat n.val / 8 % 8) = true ∧ isOct (48 + UInt8.ofNat n.val % 8) = true ∧
    UInt8.ofNat (octV [48 + UInt8.ofNat n.val / 64, 48 + UInt8.ofNat n.val / 8 % 8, 48 + UInt8.ofNat n.val % 8]) = UInt8.ofNat n.val := by decide +kernel

theorem escR_oct (c : UInt8) (tl : List UInt8) : escR ((48 + c / 64) :: (48 + c / 8 % 8) :: (48 + c % 8) :: tl) = (c, 3) := by
  have h := oct_three ⟨c.toNat, c.toNat_lt⟩
  simp only [UInt8.ofNat_toNat] at h
  obtain ⟨h0, h1, h2, h3, h4⟩ := h
  have hn : octN ((48 + c / 64) :: (48 + c / 8 % 8) :: (48 + c % 8) :: tl) = 3 := by
    unfold octN
    simp only [List.take_succ_cons, List.take_zero, List.takeWhile_cons, h1, h2, h3, if_true, List.takeWhile_nil, List.length_cons, List.length_nil]
  simp only [escR, h0, hn, List.take_succ_cons, List.take_zero, h4]

theorem pln_no {c : UInt8} (h : plnC c = true) : c ≠ 37 ∧ c ≠ 92 := by
  constructor <;> (intro e; subst e; revert h; decide)

theorem at_drop {f : ByteArray} {i : Nat} {c : UInt8} {t : List UInt8} (h : f.data.toList.drop i = c :: t) : ∃ hi : i < f.size, f[i] = c ∧ f.data.toList.drop (i + 1) = t := by
  have hl : f.data.toList.length = f.size := len_data f
  have h1 : f.data.toList[i]? = some c := by
    have : (f.data.toList.drop i)[0]? = some c := by rw [h]; rfl
    rw [List.getElem?_drop] at this
    exact this
  obtain ⟨h2, h3⟩ := List.getElem?_eq_some_iff.1 h1
  refine ⟨by omega, h3, ?_⟩
  rw [← List.drop_drop, h]
  rfl

theorem onc_esc {f : ByteArray} {args : List ByteArray} {u U : Nat} {O rest : List UInt8} (hr : Onc f args (f.size - rest.length) u O U) :
    ∀ (l : List UInt8) (i : Nat), i ≤ f.size → f.data.toList.drop i = escL l ++ rest → Onc f args i u (l ++ O) U
  | [], i, hi, h => by
    have hl : f.data.toList.length = f.size := len_data f
    have := congrArg List.length h
    rw [List.length_drop, hl] at this
    simp only [escL, List.flatMap_nil, List.nil_append] at this
    rw [show f.size - rest.length = i by omega] at hr
    exact hr
  | c :: l, i, hi, h => by
    rw [show escL (c :: l) = escC c ++ escL l by unfold escL; rw [List.flatMap_cons]] at h
    unfold escC at h
    by_cases hp : plnC c = true
    · rw [if_pos hp] at h
      obtain ⟨h1, h2, h3⟩ := at_drop h
      refine Onc.lit h1 h2 (pln_no hp).1 (fun e => absurd e (pln_no hp).2) (onc_esc hr l (i + 1) (by omega) h3)
    · rw [if_neg hp] at h
      obtain ⟨h1, h2, h3⟩ := at_drop h
      obtain ⟨h4, _, h5⟩ := at_drop h3
      obtain ⟨h6, _, h7⟩ := at_drop h5
      obtain ⟨h8, _, h9⟩ := at_drop h7
      refine Onc.esc (n := 3) h1 h2 (by rw [h3]; exact escR_oct c _) (by decide) (onc_esc hr l (i + 3 + 1) (by omega) h9)

theorem onc_escL (s : ByteArray) (args : List ByteArray) : Onc ⟨(escL s.data.toList).toArray⟩ args 0 0 s.data.toList 0 := by
  have h := onc_esc (f := ⟨(escL s.data.toList).toArray⟩) (args := args) (u := 0) (U := 0) (O := []) (rest := []) (by exact Onc.done) s.data.toList 0 (Nat.zero_le _) (by simp)
  rw [List.append_nil] at h
  exact h

end Go.Proofs.YtokpmakhhhlbkaaDoor
