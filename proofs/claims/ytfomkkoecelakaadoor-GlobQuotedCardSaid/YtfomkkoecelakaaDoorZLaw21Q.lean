/-
  Layer 21's statements: the walk of GlobQuoted.
-/
import Derived.Test.YtfomkkoecelakaaDoorD07

set_option linter.unusedSimpArgs false
set_option linter.unusedVariables false

set_option maxRecDepth 100000
set_option maxHeartbeats 8000000
namespace Go.Proofs.YtfomkkoecelakaaDoor
open Go Go.RowKit

theorem quoted_any {S : Nat → Prop} {W : World} {pl : Option Addr} {cl : Nat} {ns : List ByteArray} (h : SlAt encStr S W pl cl ns) (s : ByteArray) (hsz : s.size ≤ 9223372036854775807) :
    Calls Tryd.prog 4 #[.slice pl ns.length cl, .string s] W fun e w' => e = .returned (.bool true) ∧ Keeps NoB W w' := by
  have hcap := h.cap
  have hmax := h.max
  unfold maxLen at hmax
  have HA := Lib.hid anchor21_any
  have hc : (20 : Int) < (ns.length : Int) ∨ (¬ (20 : Int) < (ns.length : Int) ∧ (s.size : Int) < 1) ∨ (¬ (20 : Int) < (ns.length : Int) ∧ ¬ (s.size : Int) < 1 ∧ (300 : Int) < (s.size : Int)) ∨ (¬ (20 : Int) < (ns.length : Int) ∧ ¬ (s.size : Int) < 1 ∧ ¬ (300 : Int) < (s.size : Int)) := by omega
  rcases hc with z | ⟨z, z2⟩ | ⟨z, z2, z3⟩ | ⟨z, z2, z3⟩
  · go_enter Tryd.func4, Tryd.ntmps4
    go_wp2_with (go_at_call 5; go_loud (refine (HA.out _).mono ?_); rintro e w1 ⟨rfl, hk1⟩)
    go_ret
    exact ⟨rfl, hk1⟩
  · go_enter Tryd.func4, Tryd.ntmps4
    go_wp2_with (go_at_call 5; go_loud (refine (HA.out _).mono ?_); rintro e w1 ⟨rfl, hk1⟩)
    go_ret
    exact ⟨rfl, hk1⟩
  · go_enter Tryd.func4, Tryd.ntmps4
    go_wp2_with (go_at_call 5; go_loud (refine (HA.out _).mono ?_); rintro e w1 ⟨rfl, hk1⟩)
    go_ret
    exact ⟨rfl, hk1⟩
  have HB := Lib.hid (fun wx : World => begin_any wx 65536 (-1) (by decide) (by decide))
  have HH := Lib.hid h
  clear h
  go_enter Tryd.func4, Tryd.ntmps4
  go_upto_region 6 with (first | (go_at_call 5; go_loud (refine (HA.out _).mono ?_); rintro e w1 ⟨rfl, hk1⟩) | (go_at_call 6; go_loud (refine (HB.out _).mono ?_); rintro e w2 ⟨F, a, rfl, FS, k2⟩))
  have HJ0 := Lib.hid (GJ.new (FSx.new (FS.less (fun g hg => Nat.lt_of_lt_of_le hg hk1.size)) (hk1.trans k2)))
  clear HA HB FS hk1 k2
  go_upto_region 9 with fail
  go_loopw [40] (fun i wr => ∃ (k : Nat) (d : Nds), k ≤ ns.length ∧ i = .int .i64 k ∧ GJ W wr F a k d) (fun i _ => ns.length + 1 - (intOf i).toNat)
  case atStart => exact ⟨0, newD, Nat.zero_le _, rfl, HJ0.out⟩
  case round =>
    obtain ⟨k, d, hk, rfl, hJ⟩ := hrel
    have HJ := Lib.hid hJ
    have HU := Lib.hid user21_any
    clear hJ HJ0
    by_cases hlt : k < ns.length
    · have hlz : (k : Int) < (ns.length : Int) := by omega
      obtain ⟨x, hx⟩ : ∃ x, ns[k]? = some x := ⟨_, List.getElem?_eq_getElem hlt⟩
      obtain ⟨gb, off, rfl, _, _, t0⟩ := (HH.out.keepN HJ.out.fx.keeps).str hx
      have hk20 : k ≤ 20 := by omega
      clear hx
      by_cases z5 : 300 < x.size
      · have z5' : (300 : Int) < (x.size : Int) := by omega
        have HK := Lib.hid HJ.out.fx.keeps
        clear HJ
        go_wp2_with fail
        go_ret
        exact ⟨rfl, HK.out⟩
      have z5' : ¬ (300 : Int) < (x.size : Int) := by omega
      have hcat : (9223372036854775807 < (⟨#[46, 47]⟩ : ByteArray).size + x.size) = False := by simp; show (⟨#[46, 47]⟩ : ByteArray).size + x.size ≤ _; rw [show (⟨#[46, 47]⟩ : ByteArray).size = 2 from rfl]; omega
      have hcat2 : (9223372036854775807 < 2 + x.size) = False := by simp; omega
      have HM := Lib.hid (fun wx (kx : Keeps NoB wr wx) => (HJ.out.on kx).mkdir hk20 ((⟨#[46, 47]⟩ : ByteArray) ++ x) (by rw [ByteArray.size_append, show (⟨#[46, 47]⟩ : ByteArray).size = 2 from rfl]; omega))
      go_wp2_with (first | (go_at_call 8; go_loud (refine (HU.out _).mono ?_); rintro e w4 ⟨rfl, hk4⟩) | (go_at_call 7; go_loud (refine (HM.out _ hk4).mono ?_); rintro e w5 ⟨v5, rfl, d5, hJ5⟩))
      go_roundw
      case rel => exact ⟨k + 1, d5, by omega, by go_num, hJ5⟩
      case measure => simp [intOf]; omega
    · obtain rfl : k = ns.length := by omega
      have hlz : ¬ (ns.length : Int) < (ns.length : Int) := by omega
      have hs1 : s.size ≤ 4294967280 := by omega
      have HS := Lib.hid (fun wx (kx : Keeps NoB wr wx) => (HJ.out.fx.on kx).asks fun N h => stat_any h 1 0 s false hs1)
      obtain ⟨N, _, _, hN⟩ := HJ.out.fx.ex
      obtain ⟨i0, i1, i2, i3, i4, hiv, _⟩ := statV_shape hN (thrR d 1 s false)
      clear hN
      rw [hiv, stat_err HJ.out.fx.inv] at HS
      have HF := Lib.hid (fun wu (kx : Keeps NoB wr wu) => one_any (HJ.out.fx.on kx) s true (by omega) (fields_quoted s (by omega)))
      rw [stField_one, files_quoted s (by omega)] at HF
      obtain ⟨e0, he0⟩ : ∃ e0, (thrR d 1 s false).2 = e0 := ⟨_, rfl⟩
      rw [he0] at HS HF
      have HKr := Lib.hid HJ.out.fx.keeps
      clear hiv he0
      generalize (thrR d 1 s false).1.node = nn at *
      have HU1 := Lib.hid (HU.out wr)
      have HU2 := Lib.hid HU.out
      clear HJ HU
      go_upto_region 16 with (first
        | (go_at_call 8; have HX := HU1; clear HU1; go_loud (refine HX.out.mono ?_); rintro e w4 ⟨rfl, hk4⟩)
        | (go_at_call 11; have HX := HS; clear HS; go_loud (refine (HX.out w4 hk4).mono ?_); rintro e w5 ⟨rfl, hk5⟩))
      have HK5 := Lib.hid ((hk4.trans hk5).alloc (.cells #[.int .i64 i0, .int .i64 i1, .int .i64 i2, .int .i64 i3, .int .i64 i4] 44))
      clear hk4 hk5
      generalize w5.alloc (.cells #[.int .i64 i0, .int .i64 i1, .int .i64 i2, .int .i64 i3, .int .i64 i4] 44) = w6 at *
      by_cases h0 : e0 = 0
      case neg =>
        rw [if_neg h0] at HF
        have hb : (e0 != 0) = true := by simpa using h0
        clear h0
        go_upto_region 17 with (first
          | (go_at_call 8; have HX := HU2; clear HU2; go_loud (refine (HX.out _).mono ?_); rintro e w7 ⟨rfl, hk7⟩)
          | (go_at_call 10; have HX := HF; clear HF; go_loud (refine (HX.out w7 (HK5.out.trans hk7)).mono ?_); rintro e w8 ⟨v8, rfl, ho8, hk8⟩))
        obtain ⟨p8, c8, rfl, _⟩ := ho8.sl
        have HKe := Lib.hid (HKr.out.trans (HK5.out.trans (hk7.trans hk8)))
        clear ho8 hk7 hk8
        go_wp2_with fail
        go_ret
        exact ⟨rfl, HKe.out⟩
      case pos =>
        subst h0
        rw [if_pos rfl] at HF
        go_upto_region 17 with (first
          | (go_at_call 8; have HX := HU2; clear HU2; go_loud (refine (HX.out _).mono ?_); rintro e w7 ⟨rfl, hk7⟩)
          | (go_at_call 10; have HX := HF; clear HF; go_loud (refine (HX.out w7 (HK5.out.trans hk7)).mono ?_); rintro e w8 ⟨v8, rfl, ho8, hk8⟩))
        obtain ⟨p8, c8, rfl, hs8⟩ := ho8.sl
        obtain ⟨g8, o8, rfl, _, _, t0⟩ := hs8.str (i := 0) rfl
        simp only [Nat.add_zero] at t0
        have HKe := Lib.hid (HKr.out.trans (HK5.out.trans (hk7.trans hk8)))
        clear ho8 hk7 hk8 hs8
        go_wp2_with fail
        go_ret
        exact ⟨by simp, HKe.out⟩

end Go.Proofs.YtfomkkoecelakaaDoor
