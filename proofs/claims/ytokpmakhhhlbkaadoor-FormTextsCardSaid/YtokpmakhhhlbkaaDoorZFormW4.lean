/-
  Layer 10: contracts of the reference: Escape, Byte, Unescape.
-/
import Derived.Test.YtokpmakhhhlbkaaDoorZFormW3

set_option linter.unusedSimpArgs false
set_option linter.unusedVariables false

set_option maxRecDepth 100000
set_option maxHeartbeats 4000000
namespace Go.Proofs.YtokpmakhhhlbkaaDoor
open Go Go.RowKit

theorem r10octal_any (z : Int) (w : World) : Calls Tryd.prog 25 #[.int .u8 z] w fun e w' => e = .returned (.bool (decide (48 ≤ z) && decide (z ≤ 55))) ∧ w = w' := by
  go_enter Tryd.func25, Tryd.ntmps25
  go_wp2
  all_goals
    go_ret
    refine ⟨ret_bool ?_, rfl⟩
    first | (simp [*]; done) | (simp [*]; omega)

theorem oct_fin2 : ∀ n : Fin 256, (48 + (n.val : Int) / 64) % 256 = ((48 + UInt8.ofNat n.val / 64).toNat : Int) ∧ (48 + (n.val : Int) / 8 % 8) = ((48 + UInt8.ofNat n.val / 8 % 8).toNat : Int) ∧ (48 + (n.val : Int) % 8) = ((48 + UInt8.ofNat n.val % 8).toNat : Int) := by decide +kernel
theorem oct_cells2 (c : UInt8) : (48 + (c.toNat : Int) / 64) % 256 = ((48 + c / 64).toNat : Int) ∧ (48 + (c.toNat : Int) / 8 % 8) = ((48 + c / 8 % 8).toNat : Int) ∧ (48 + (c.toNat : Int) % 8) = ((48 + c % 8).toNat : Int) := by
  have h := oct_fin2 ⟨c.toNat, c.toNat_lt⟩
  simp only [UInt8.ofNat_toNat] at h
  exact h

/-- The reference's test of a byte. -/
theorem pln_ways (z : Int) : (plnB z = true ∧ ¬ z < 32 ∧ ¬ 126 < z ∧ (z == 37) = false ∧ (z == 92) = false ∧ (z == 39) = false) ∨ (plnB z = false ∧ z < 32) ∨ (plnB z = false ∧ ¬ z < 32 ∧ 126 < z) ∨
    (plnB z = false ∧ z = 37) ∨ (plnB z = false ∧ z = 92) ∨ (plnB z = false ∧ z = 39) := by
  by_cases h1 : z < 32
  · exact .inr (.inl ⟨by unfold plnB; simp; omega, h1⟩)
  by_cases h2 : 126 < z
  · exact .inr (.inr (.inl ⟨by unfold plnB; simp; omega, h1, h2⟩))
  by_cases h3 : z = 37
  · exact .inr (.inr (.inr (.inl ⟨by subst h3; rfl, h3⟩)))
  by_cases h4 : z = 92
  · exact .inr (.inr (.inr (.inr (.inl ⟨by subst h4; rfl, h4⟩))))
  by_cases h5 : z = 39
  · exact .inr (.inr (.inr (.inr (.inr ⟨by subst h5; rfl, h5⟩))))
  exact .inl ⟨by unfold plnB; simp; omega, h1, h2, by simpa using h3, by simpa using h4, by simpa using h5⟩

theorem r10Escape_any (s : ByteArray) (w : World) (hs : s.size ≤ 1000000000) :
    Calls Tryd.prog 8 #[.string s] w fun e w' => e = .returned (.string ⟨(escL s.data.toList).toArray⟩) ∧ Keeps NoB w w' := by
  have hl : s.data.toList.length = s.size := len_data s
  have HG := Lib.hid (fun (i : Nat) (h : i < s.size) => (show s.data.toList[i]? = some s[i] by rw [List.getElem?_eq_getElem (by rw [hl]; exact h)]; rfl))
  obtain ⟨l, hls⟩ : ∃ l, s.data.toList = l := ⟨_, rfl⟩
  rw [hls] at hl HG ⊢
  clear hls
  go_enter Tryd.func8, Tryd.ntmps8
  go_wp2
  go_loopw [3, 4] (fun v i wr => ∃ k : Nat, k ≤ l.length ∧ i = .int .i64 k ∧ Own encU8 5 (fun g => w.heap.size ≤ g) wr v (escL (l.take k)) ∧ Keeps NoB w wr) (fun _ i _ => l.length + 1 - (intOf i).toNat)
  case atStart => exact ⟨0, Nat.zero_le _, rfl, Own.nil _ _ _ _, Keeps.refl _ _⟩
  case round =>
    obtain ⟨k, hk, rfl, hown, hkp⟩ := hrel
    have HW := Lib.hid hown
    have HK := Lib.hid hkp
    have hsz := hkp.size
    clear hown hkp
    have hle := escL_le (l.take k)
    have hlt' : (l.take k).length ≤ k := List.length_take_le _ _
    by_cases hlt : k < l.length
    · obtain ⟨c, hc⟩ : ∃ c, l[k]? = some c := ⟨_, List.getElem?_eq_getElem hlt⟩
      have hks : k < s.size := by omega
      have hsk : s[k] = c := by have := HG.out k hks; rw [hc] at this; exact (Option.some.inj this).symm
      have hnx := Lib.hid (take_next hc)
      clear hc
      go_upto_region 6 with fail
      go_cut [32] from 15 to 33 (fun x wx => x = .bool (!plnB (c.toNat : Int)) ∧ wr = wx)
      case first =>
        obtain ⟨b1, hb1⟩ : ∃ b, ((c.toNat : Int) == 37) = b := ⟨_, rfl⟩
        obtain ⟨b2, hb2⟩ : ∃ b, ((c.toNat : Int) == 92) = b := ⟨_, rfl⟩
        obtain ⟨b3, hb3⟩ : ∃ b, ((c.toNat : Int) == 39) = b := ⟨_, rfl⟩
        have HPn := Lib.hid (show plnB (c.toNat : Int) = (decide (32 ≤ (c.toNat : Int)) && decide ((c.toNat : Int) ≤ 126) && !b1 && !b2 && !b3) by rw [← hb1, ← hb2, ← hb3]; unfold plnB; rfl)
        go_wp2_with fail
        all_goals
          go_meet
          refine ⟨?_, rfl⟩
          refine congrArg Value.bool ?_
          rw [HPn.out]
          first | (simp [*]; done) | (simp [*]; omega) | (rw [Bool.eq_iff_iff]; simp [*]; omega) | (trace_state; sorry)
      case rest =>
      obtain ⟨rfl, rfl⟩ := hcut
      cases hp : plnB (c.toNat : Int) with
      | true =>
        have HE := Lib.hid (show escL (l.take (k + 1)) = escL (l.take k) ++ [c] by rw [hnx.out, escL_snoc]; unfold escC plnC; rw [if_pos hp])
        clear hp
        go_wp2_with (at_builtin; go_loud (refine wpl_append rfl (.tmp 46) (.tmp 48) rfl tU8 (HW.out.keep ((Keeps.refl NoB wr).alloc _) (fun _ _ h => h)) (own_lit (E := encU8) (e := 5) (w := wr) (S := fun _ => True) [c] #[.int .u8 (c.toNat : Int)] rfl 1 rfl trivial (by decide)).sl rfl rfl (by simp; omega) (by simp [maxLen]; omega) (by simp; omega) ?_))
        intro v' w2 ho2 hk2 hf2
        have HO := Lib.hid ho2
        have HK2 := Lib.hid ((HK.out.alloc _).step hk2 (fun g hg => .inr (HW.out.2 g hg)))
        clear ho2 hk2 hf2
        go_wp2_with fail
        go_roundw
        case rel => exact ⟨k + 1, by omega, by go_num, by rw [HE.out]; exact HO.out, HK2.out⟩
        case measure => simp [intOf]; omega
      | false =>
        obtain ⟨e1, e2, e3⟩ := oct_cells2 c
        have HE := Lib.hid (show escL (l.take (k + 1)) = escL (l.take k) ++ [92, 48 + c / 64, 48 + c / 8 % 8, 48 + c % 8] by rw [hnx.out, escL_snoc]; unfold escC plnC; rw [if_neg (by rw [hp]; simp)])
        have HL := Lib.hid (own_lit (E := encU8) (e := 5) (w := wr) (S := fun _ => True) [92, 48 + c / 64, 48 + c / 8 % 8, 48 + c % 8] #[.int .u8 92, .int .u8 ((48 + (c.toNat : Int) / 64) % 256), .int .u8 (48 + (c.toNat : Int) / 8 % 8), .int .u8 (48 + (c.toNat : Int) % 8)] (by rw [e1, e2, e3]; rfl) 4 rfl trivial (by decide)).sl
        clear hp e1 e2 e3
        go_wp2_with (at_builtin; go_loud (refine wpl_append rfl (.tmp 33) (.tmp 44) rfl tU8 (HW.out.keep ((Keeps.refl NoB wr).alloc _) (fun _ _ h => h)) HL.out rfl rfl (by simp; omega) (by simp [maxLen]; omega) (by simp; omega) ?_))
        intro v' w2 ho2 hk2 hf2
        have HO := Lib.hid ho2
        have HK2 := Lib.hid ((HK.out.alloc _).step hk2 (fun g hg => .inr (HW.out.2 g hg)))
        clear ho2 hk2 hf2
        go_wp2_with fail
        go_roundw
        case rel => exact ⟨k + 1, by omega, by go_num, by rw [HE.out]; exact HO.out, HK2.out⟩
        case measure => simp [intOf]; omega
    · obtain rfl : k = l.length := by omega
      rw [List.take_length] at HW hle
      have hcv := own_str HW.out
      clear hle hlt'
      go_wp2_with fail
      go_ret
      exact ⟨rfl, HK.out⟩

end Go.Proofs.YtokpmakhhhlbkaaDoor
