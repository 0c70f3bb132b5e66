/-
  Contracts of the string functions of the library that the program calls, and of names.
-/
import Derived.Test.YtbcejodnjeklpaaProg
import Derived.Test.YtbcejodnjeklpaaBase
import Derived.Test.YtbcejodnjeklpaaDirM
import Derived.Lib.Slices
namespace Go.Proofs.Ytbcejodnjeklpaa
open Go.RowKit

set_option maxHeartbeats 400000 in
theorem cmpstr_any (a b : ByteArray) (w : World) :
    Calls Try.prog 90 #[.string a, .string b] w fun e w' => e = .returned (.int .i64 (bCmp a b)) ∧ w = w' := by
  go_enter Try.func90, Try.ntmps90
  go_wp2
  rw [run_callFunc_extern Try.func93 (by kernel_rfl) (by kernel_rfl) (by kernel_rfl) (e := Extern.BytealgCompare.compare) (by kernel_rfl), Lib.run_compareString]
  simp only [Result.andThen]
  rw [Oper.upon_value]
  go_wp2
  go_ret
  exact ⟨rfl, rfl⟩

set_option maxHeartbeats 400000 in
theorem cmp_any (a b : ByteArray) (w : World) :
    Calls Try.prog 85 #[.string a, .string b] w fun e w' => e = .returned (.int .i64 (bCmp a b)) ∧ w = w' := by
  go_enter Try.func85, Try.ntmps85
  go_wp2_with (go_at_call 90; refine (cmpstr_any _ _ _).mono ?_; rintro e w' ⟨rfl, rfl⟩)
  go_ret
  exact ⟨rfl, rfl⟩

set_option maxHeartbeats 400000 in
theorem ib_any (s : ByteArray) (c : Int) (w : World) :
    Calls Try.prog 87 #[.string s, .int .u8 c] w fun e w' => e = .returned (.int .i64 (bIdx s c.toNat.toUInt8)) ∧ w = w' := by
  go_enter Try.func87, Try.ntmps87
  go_wp2
  rw [run_callFunc_extern Try.func94 (by kernel_rfl) (by kernel_rfl) (by kernel_rfl) (e := Extern.BytealgIndexByte.indexByte) (by kernel_rfl), run_indexByte_string]
  simp only [Result.andThen, Lib.firstIdx_eq]
  rw [Oper.upon_value]
  go_wp2
  go_ret
  exact ⟨rfl, rfl⟩

theorem ret_bool {a b : Bool} (h : a = b) : Ending.returned (.bool a) = Ending.returned (.bool b) := by rw [h]
theorem ret_i64 {a b : Int} (h : a = b) : Ending.returned (.int .i64 a) = Ending.returned (.int .i64 b) := by rw [h]

set_option maxHeartbeats 400000 in
theorem name_any (s : ByteArray) (w : World) :
    Calls Try.prog 80 #[.string s] w fun e w' => e = .returned (.bool (okName s)) ∧ w = w' := by
  have H := Lib.hid (okName_eq s)
  go_enter Try.func80, Try.ntmps80
  go_wp2_with (go_at_call 87; refine (ib_any _ _ _).mono ?_; rintro e w' ⟨rfl, rfl⟩)
  all_goals
    go_ret
    refine ⟨ret_bool ?_, rfl⟩
    rw [H.out]
    first | (simp [*]; done) | (simp [*]; omega) | (simp [*]; intros; omega)

set_option maxHeartbeats 400000 in
theorem r2has_any (s : ByteArray) (c : Int) (w : World) (hs : s.size ≤ maxLen) (hc : 0 ≤ c) (hc2 : c < 256) :
    Calls Try.prog 86 #[.string s, .int .u8 c] w fun e w' => e = .returned (.bool (hasB s c.toNat.toUInt8)) ∧ w = w' := by
  unfold maxLen at hs
  go_enter Try.func86, Try.ntmps86
  go_wp2
  go_loop [5] (fun i => ∃ k : Nat, k ≤ s.size ∧ i = .int .i64 k ∧ ∀ (j : Nat) (h : j < s.size), j < k → ¬ s[j] = c.toNat.toUInt8) (fun i => s.size - (intOf i).toNat)
  case atStart => exact ⟨0, Nat.zero_le _, rfl, fun j _ hj => by omega⟩
  case round =>
    obtain ⟨k, hk, rfl, hno⟩ := hrel
    have Hno := Lib.hid hno
    clear hno
    by_cases hlt : k < s.size
    · have Hb := Lib.hid (byte_eq s[k] c hc hc2)
      go_wp2
      · go_ret
        refine ⟨ret_bool ?_, rfl⟩
        have h : ((s[k].toNat : Int) == c) = true := by assumption
        rw [Hb.out, decide_eq_true_eq] at h
        exact ((hasB_iff s _).2 ⟨k, hlt, h⟩).symm
      · have h : ((s[k].toNat : Int) == c) = false := by assumption
        rw [Hb.out, decide_eq_false_iff_not] at h
        go_round
        case rel =>
          refine ⟨k + 1, by omega, by go_num, fun j hj hjk => ?_⟩
          by_cases e : j = k
          · subst e; exact h
          · exact Hno.out j hj (by omega)
        case measure => simp [intOf]; omega
    · go_wp2
      go_ret
      refine ⟨ret_bool ?_, rfl⟩
      symm
      rw [← Bool.not_eq_true, hasB_iff]
      rintro ⟨j, hj, e⟩
      exact Hno.out j hj (by omega) e

set_option maxHeartbeats 400000 in
theorem r2name_any (s : ByteArray) (w : World) (hs : s.size ≤ maxLen) :
    Calls Try.prog 78 #[.string s] w fun e w' => e = .returned (.bool (okName s)) ∧ w = w' := by
  have hs' := hs
  unfold maxLen at hs
  have H := Lib.hid (okName_eq2 s)
  go_enter Try.func78, Try.ntmps78
  go_wp2_with (go_at_call 86; refine (r2has_any _ _ _ hs' (by decide) (by decide)).mono ?_; rintro e w' ⟨rfl, rfl⟩)
  all_goals
    go_ret
    refine ⟨ret_bool ?_, rfl⟩
    rw [H.out]
    first | (simp [*]; done) | (simp [*]; omega) | (simp [*]; intros; omega)
end Go.Proofs.Ytbcejodnjeklpaa
