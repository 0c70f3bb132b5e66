/-
  Layer 10: contracts of the reference: Unescape.
-/
import Derived.Test.YtokpmakhhhlbkaaDoorZFormW5

set_option linter.unusedSimpArgs false
set_option linter.unusedVariables false

set_option maxRecDepth 100000
set_option maxHeartbeats 4000000
namespace Go.Proofs.YtokpmakhhhlbkaaDoor
open Go Go.RowKit

theorem r10Unescape_any (s : ByteArray) (w : World) (hs : s.size ≤ 1000000000) :
    Calls Tryd.prog 12 #[.string s] w fun e w' => e = .returned (.string ⟨(unescL s.data.toList).toArray⟩) ∧ Keeps NoB w w' := by
  have hl : s.data.toList.length = s.size := len_data s
  have HG := Lib.hid (fun (i : Nat) (h : i < s.size) => (show s.data.toList[i]? = some s[i] by rw [List.getElem?_eq_getElem (by rw [hl]; exact h)]; rfl))
  have HBy := Lib.hid (fun (a : Nat) (ha : a ≤ 2000000000) (wx : World) => r10Byte_any s a wx hs ha)
  obtain ⟨l, hls⟩ : ∃ l, s.data.toList = l := ⟨_, rfl⟩
  rw [hls] at hl HG HBy ⊢
  clear hls
  go_enter Tryd.func12, Tryd.ntmps12
  go_wp2
  go_loopw [3, 4] (fun v i wr => ∃ (k : Nat) (out : List UInt8), k ≤ l.length ∧ i = .int .i64 k ∧ out ++ unescL (l.drop k) = unescL l ∧ out.length ≤ k ∧ Own encU8 5 (fun g => w.heap.size ≤ g) wr v out ∧ Keeps NoB w wr) (fun _ i _ => l.length + 1 - (intOf i).toNat)
  case atStart => exact ⟨0, [], Nat.zero_le _, rfl, rfl, Nat.le_refl _, Own.nil _ _ _ _, Keeps.refl _ _⟩
  case round =>
    obtain ⟨k, out, hk, rfl, hout, hlen, hown, hkp⟩ := hrel
    have HO := Lib.hid hout
    have HW := Lib.hid hown
    have HK := Lib.hid hkp
    have hsz := hkp.size
    clear hout hown hkp
    by_cases hlt : k < l.length
    · obtain ⟨c, hc⟩ : ∃ c, l[k]? = some c := ⟨_, List.getElem?_eq_getElem hlt⟩
      have hks : k < s.size := by omega
      have hsk : s[k] = c := by have := HG.out k hks; rw [hc] at this; exact (Option.some.inj this).symm
      have hun := Lib.hid (unescL_at hc)
      have HE := Lib.hid (HBy.out (k + 1) (by omega))
      have hle := escR_le (l.drop (k + 1))
      rw [List.length_drop] at hle
      obtain ⟨⟨ec, en⟩, hen⟩ : ∃ E, escR (l.drop (k + 1)) = E := ⟨_, rfl⟩
      rw [hen] at HE hun hle
      simp only [Int.natCast_add, Int.cast_ofNat_Int] at HE
      simp only at hun hle
      clear hc hen
      rcases at92 c with ⟨rfl, hb⟩ | ⟨hne, hb⟩
      · by_cases h0 : 0 < en
        · have h0' : (0 : Int) < (en : Int) := by omega
          have hun2 := Lib.hid hun.out
          rw [if_pos ⟨rfl, h0⟩] at hun2
          clear hun
          go_upto_region 7 with (go_at_call 19; go_loud (refine (HE.out _).mono ?_); rintro e w' ⟨rfl, hkb⟩)
          have HW1 := Lib.hid (HW.out.keep hkb (fun _ _ h => h))
          have HK1 := Lib.hid (HK.out.trans hkb)
          have hsz1 := hkb.size
          clear hkb
          go_wp2_with (at_builtin; go_loud (refine wpl_append rfl (.tmp 28) (.tmp 30) rfl tU8 (HW1.out.keep ((Keeps.refl NoB w').alloc _) (fun _ _ h => h)) (own_lit (E := encU8) (e := 5) (w := w') (S := fun _ => True) [ec] #[.int .u8 (ec.toNat : Int)] rfl 1 rfl trivial (by decide)).sl rfl rfl (by simp; omega) (by simp [maxLen]; omega) (by simp; omega) ?_))
          intro v' w2 ho2 hk2 hf2
          have HO2 := Lib.hid ho2
          have HK2 := Lib.hid ((HK1.out.alloc _).step hk2 (fun g hg => .inr (HW1.out.2 g hg)))
          clear ho2 hk2 hf2
          go_wp2_with fail
          go_roundw
          case rel => exact ⟨k + en + 1, out ++ [ec], by omega, by go_num, by rw [← HO.out, hun2.out, show k + en + 1 = k + 1 + en by omega]; simp, by simp; omega, HO2.out, HK2.out⟩
          case measure => simp [intOf]; omega
        · have h0' : ¬ (0 : Int) < (en : Int) := by omega
          have hun2 := Lib.hid hun.out
          rw [if_neg (fun h => h0 h.2)] at hun2
          clear hun
          go_upto_region 9 with (go_at_call 19; go_loud (refine (HE.out _).mono ?_); rintro e w' ⟨rfl, hkb⟩)
          have HW1 := Lib.hid (HW.out.keep hkb (fun _ _ h => h))
          have HK1 := Lib.hid (HK.out.trans hkb)
          have hsz1 := hkb.size
          clear hkb
          go_wp2_with (at_builtin; go_loud (refine wpl_append rfl (.tmp 35) (.tmp 39) rfl tU8 (HW1.out.keep ((Keeps.refl NoB w').alloc _) (fun _ _ h => h)) (own_lit (E := encU8) (e := 5) (w := w') (S := fun _ => True) [92] #[.int .u8 ((92 : UInt8).toNat : Int)] rfl 1 rfl trivial (by decide)).sl rfl rfl (by simp; omega) (by simp [maxLen]; omega) (by simp; omega) ?_))
          intro v' w2 ho2 hk2 hf2
          have HO2 := Lib.hid ho2
          have HK2 := Lib.hid ((HK1.out.alloc _).step hk2 (fun g hg => .inr (HW1.out.2 g hg)))
          clear ho2 hk2 hf2
          go_wp2_with fail
          go_roundw
          case rel => exact ⟨k + 1, out ++ [92], by omega, by go_num, by rw [← HO.out, hun2.out]; simp, by simp; omega, HO2.out, HK2.out⟩
          case measure => simp [intOf]; omega
      · have hun2 := Lib.hid hun.out
        rw [if_neg (fun h => hne h.1)] at hun2
        clear hun hne
        go_upto_region 9 with (go_at_call 19; go_loud (refine (HE.out _).mono ?_); rintro e w' ⟨rfl, hkb⟩)
        have HW1 := Lib.hid (HW.out.keep hkb (fun _ _ h => h))
        have HK1 := Lib.hid (HK.out.trans hkb)
        have hsz1 := hkb.size
        clear hkb
        go_wp2_with (at_builtin; go_loud (refine wpl_append rfl (.tmp 35) (.tmp 39) rfl tU8 (HW1.out.keep ((Keeps.refl NoB w').alloc _) (fun _ _ h => h)) (own_lit (E := encU8) (e := 5) (w := w') (S := fun _ => True) [c] #[.int .u8 (c.toNat : Int)] rfl 1 rfl trivial (by decide)).sl rfl rfl (by simp; omega) (by simp [maxLen]; omega) (by simp; omega) ?_))
        intro v' w2 ho2 hk2 hf2
        have HO2 := Lib.hid ho2
        have HK2 := Lib.hid ((HK1.out.alloc _).step hk2 (fun g hg => .inr (HW1.out.2 g hg)))
        clear ho2 hk2 hf2
        go_wp2_with fail
        go_roundw
        case rel => exact ⟨k + 1, out ++ [c], by omega, by go_num, by rw [← HO.out, hun2.out]; simp, by simp; omega, HO2.out, HK2.out⟩
        case measure => simp [intOf]; omega
    · obtain rfl : k = l.length := by omega
      have hcv := own_str HW.out
      have hout : out = unescL l := by have := HO.out; rw [List.drop_length, unescL_nil, List.append_nil] at this; exact this
      rw [hout] at hcv
      obtain ⟨u, hu⟩ : ∃ u, unescL l = u := ⟨_, rfl⟩
      rw [hu] at hcv
      have HU := Lib.hid hu
      clear hout hu
      go_wp2_with fail
      go_ret
      exact ⟨by rw [HU.out]; rfl, HK.out⟩

end Go.Proofs.YtokpmakhhhlbkaaDoor
