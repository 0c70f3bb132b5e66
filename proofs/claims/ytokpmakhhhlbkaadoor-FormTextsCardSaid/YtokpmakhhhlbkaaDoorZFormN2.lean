/-
  Layer 10: contracts on numbers: the example's octal number.
-/
import Derived.Test.YtokpmakhhhlbkaaDoorZFormN

set_option linter.unusedSimpArgs false
set_option linter.unusedVariables false

set_option maxRecDepth 100000
set_option maxHeartbeats 8000000
namespace Go.Proofs.YtokpmakhhhlbkaaDoor
open Go Go.RowKit

def z65 : List Value := List.replicate 65 (.int .u8 0)

theorem fb_8 (w : World) (h : DbOk w) : Calls Tryd.prog 60 #[.slice none 0 0, .int .u64 8, .int .i64 8, .bool false, .bool false] w fun e w' => e = .returned (.tuple #[.slice none 0 0, .string ⟨#[49, 48]⟩]) ∧ Keeps NoB w w' := by
  have H := Lib.hid (fun wx (k : Keeps NoB w wx) => tz_8 wx (h.on k))
  clear h
  go_enter Tryd.func60, Tryd.ntmps60
  go_upto_region 8 with (go_at_call 75; refine (pow2_8 _).mono ?_; rintro e w' ⟨rfl, rfl⟩)
  have HB0 := Lib.hid (Bk.new (Keeps.refl NoB (w.alloc (.cells Tryd.zeroCells110 110))))
  rw [show Tryd.zeroCells110.toList = z65 from by kernel_rfl] at HB0
  have HK0 := Lib.hid ((Keeps.refl NoB w).alloc (.cells Tryd.zeroCells110 110))
  generalize w.alloc (.cells Tryd.zeroCells110 110) = w1 at *
  go_upto_region 11 with (go_at_call 76; refine (H.out _ HK0.out).mono ?_; rintro e w' ⟨rfl, rfl⟩)
  go_loopw [1, 13] (fun u i wr => ((u = .int .u64 8 ∧ i = .int .i64 65 ∧ Bk wr w.heap.size z65) ∨ (u = .int .u64 1 ∧ i = .int .i64 64 ∧ Bk wr w.heap.size (z65.set 64 (.int .u8 48)))) ∧ Keeps NoB w wr) (fun u _ _ => (intOf u).toNat)
  case atStart => exact ⟨.inl ⟨rfl, rfl, HB0.out⟩, HK0.out⟩
  case round =>
    obtain ⟨⟨rfl, rfl, hB⟩ | ⟨rfl, rfl, hB⟩, hK⟩ := hrel
    · have HB := Lib.hid hB
      have HK := Lib.hid hK
      have hc := hB.cell 64 (.int .u8 0) rfl
      have hf := hB.fz 64
      have hbits : bits BinOp.and IntKind.u64 8 7 = 0 := by decide +kernel
      clear hB hK HB0 HK0
      go_wp2_with fail
      go_roundw
      case rel => exact ⟨.inr ⟨rfl, rfl, HB.out.put 64 (.int .u8 48)⟩, HK.out.setCell (.inr (Nat.le_refl _)) _⟩
      case measure => decide
    · have HB := Lib.hid hB
      have HK := Lib.hid (hK.setCell (p := ⟨w.heap.size, 63, none⟩) (.inr (Nat.le_refl _)) (.int .u8 49))
      have hc := hB.cell 63 (.int .u8 0) rfl
      have hf := hB.fz 63
      have hel : ((⟨#[48, 49, 50, 51, 52, 53, 54, 55, 56, 57, 97, 98, 99, 100, 101, 102, 103, 104, 105, 106, 107, 108, 109, 110, 111, 112, 113, 114, 115, 116, 117, 118, 119, 120, 121, 122]⟩ : ByteArray)[1]'(by decide +kernel)) = 49 := rfl
      have hP := hB.put 63 (.int .u8 49)
      have hcv : (convert 23 9 (.slice (some ⟨w.heap.size, 63, none⟩) 2 2)).run Tryd.prog (wr.setCell ⟨w.heap.size, 63, none⟩ (.int .u8 49)) = .ok (.string ⟨#[49, 48]⟩) (wr.setCell ⟨w.heap.size, 63, none⟩ (.int .u8 49)) :=
        run_convert_bytes_back (P := Tryd.prog) _ 23 9 5 ⟨w.heap.size, 63, none⟩ 2 [49, 48] Tryd.underlying23 Tryd.underlying5 Tryd.underlying9 (fun j hj => by
          match j, hj with
          | 0, _ => exact hP.cell 63 _ rfl
          | 1, _ => exact hP.cell 64 _ rfl)
      clear hB hK HB0 HK0 hP
      go_wp2_with fail
      go_ret2
      exact ⟨rfl, HK.out⟩

theorem isfu_8 (w : World) (h : DbOk w) : Calls Tryd.prog 46 #[.int .u64 8, .int .i64 8] w fun e w' => e = .returned (.string ⟨#[49, 48]⟩) ∧ Keeps NoB w w' := by
  have H := Lib.hid (fb_8 w h)
  clear h
  go_enter Tryd.func46, Tryd.ntmps46
  go_wp2_with (go_at_call 60; refine H.out.mono ?_; rintro e w' ⟨rfl, hk⟩)
  go_ret
  exact ⟨rfl, hk⟩

theorem fu_8 (w : World) (h : DbOk w) : Calls Tryd.prog 36 #[.int .u64 8, .int .i64 8] w fun e w' => e = .returned (.string ⟨#[49, 48]⟩) ∧ Keeps NoB w w' := by
  have H := Lib.hid (isfu_8 w h)
  clear h
  go_enter Tryd.func36, Tryd.ntmps36
  go_wp2_with (go_at_call 46; refine H.out.mono ?_; rintro e w' ⟨rfl, hk⟩)
  go_ret
  exact ⟨rfl, hk⟩

theorem whole_x (x : ByteArray) (c : UInt8) (v : Int) (w : World) (hs : x.size = 1) (hc : x[0]'(by omega) = c) (h0 : x.toList.isEmpty = false) (H : Hid (∀ w, Calls Tryd.prog 34 #[.string x, .int .i64 10, .int .i64 64] w fun e w' => e = .returned (.tuple #[.int .i64 v, .nilIface]) ∧ Keeps NoB w w'))
    (hb1 : ((c.toNat : Int) == 39) = false) (hb2 : ((c.toNat : Int) == 34) = false) : Calls Tryd.prog 28 #[.string x] w fun e w' => e = .returned (.tuple #[.int .i64 v, .int .i64 0]) ∧ Keeps NoB w w' := by
  go_enter Tryd.func28, Tryd.ntmps28
  go_wp2_with (go_at_call 34; refine (H.out _).mono ?_; rintro e w' ⟨rfl, hk⟩)
  go_ret2
  exact ⟨rfl, hk⟩

theorem whole_7 (w : World) : Calls Tryd.prog 28 #[.string ⟨#[55]⟩] w fun e w' => e = .returned (.tuple #[.int .i64 7, .int .i64 0]) ∧ Keeps NoB w w' :=
  whole_x ⟨#[55]⟩ 55 7 w rfl rfl (by decide +kernel) (Lib.hid (fun w => parse_one 55 7 w (by decide +kernel))) (by decide) (by decide)
theorem whole_8 (w : World) : Calls Tryd.prog 28 #[.string ⟨#[56]⟩] w fun e w' => e = .returned (.tuple #[.int .i64 8, .int .i64 0]) ∧ Keeps NoB w w' :=
  whole_x ⟨#[56]⟩ 56 8 w rfl rfl (by decide +kernel) (Lib.hid (fun w => parse_one 56 8 w (by decide +kernel))) (by decide) (by decide)

def minusAt (s : ByteArray) : Bool := Lib.hasPrefix s.data.toList [45]

theorem fslhp_any (s : ByteArray) (w : World) :
    Calls Tryd.prog 42 #[.string s, .string ⟨#[45]⟩] w fun e w' => e = .returned (.bool (minusAt s)) ∧ w = w' := by
  obtain ⟨p, hp⟩ : ∃ p : ByteArray, ⟨#[45]⟩ = p := ⟨_, rfl⟩
  have HM := Lib.hid (show minusAt s = Lib.hasPrefix s.data.toList p.data.toList by rw [← hp]; rfl)
  rw [hp]
  clear hp
  go_enter Tryd.func42, Tryd.ntmps42
  have hr := Lib.hasPrefix_raw s p
  have H := Lib.hid hr
  clear hr
  go_wp2
  all_goals
    go_ret
    refine ⟨ret_bool ?_, rfl⟩
    have h := H.out
    rw [HM.out, ← h]
    simp [*]

theorem fhp_any (s : ByteArray) (w : World) :
    Calls Tryd.prog 33 #[.string s, .string ⟨#[45]⟩] w fun e w' => e = .returned (.bool (minusAt s)) ∧ w = w' := by
  go_enter Tryd.func33, Tryd.ntmps33
  go_wp2_with (go_at_call 42; refine (fslhp_any _ _).mono ?_; rintro e w' ⟨rfl, rfl⟩)
  go_ret
  exact ⟨rfl, rfl⟩

theorem digits_d (x : ByteArray) (n width : Int) (left zero : Bool) (hx : minusAt x = false) (hs : x.size ≤ 100) (hs1 : 1 ≤ x.size) (H : Hid (∀ w, Calls Tryd.prog 35 #[.int .i64 n, .int .i64 10] w fun e w' => e = .returned (.string x) ∧ w = w')) (w : World) :
    Calls Tryd.prog 29 #[.agg #[.bool left, .bool zero, .int .i64 width, .int .i64 (-1), .int .u8 100], .int .i64 n] w fun e w' => e = .returned (.string x) ∧ Keeps NoB w w' := by
  have HR := Lib.hid (fun wx : World => repeat_any 48 0 (by omega) wx)
  rw [show (⟨(List.replicate 0 (48 : UInt8)).toArray⟩ : ByteArray) = ⟨#[]⟩ from rfl, show ((0 : Nat) : Int) = 0 from rfl] at HR
  have HE := Lib.hid (show (⟨#[]⟩ : ByteArray) ++ ⟨#[]⟩ ++ x = x by apply ba_eq; simp)
  have hm : max (0 : Int) (-1 - (x.size : Int)) = 0 := by omega
  go_enter Tryd.func29, Tryd.ntmps29
  go_wp2_with (first | (go_at_call 35; refine (H.out _).mono ?_; rintro e w' ⟨rfl, rfl⟩) | (go_at_call 33; refine (fhp_any _ _).mono ?_; rintro e w' ⟨rfl, rfl⟩) | (go_at_call 32; go_loud (refine (HR.out _).mono ?_); rintro e w4 ⟨rfl, hk4⟩))
  go_ret
  exact ⟨by rw [HE.out]; rfl, ((Keeps.refl _ _).alloc _).trans hk4⟩

theorem digits_o (x : ByteArray) (width : Int) (left zero : Bool) (hx : minusAt x = false) (hs : x.size ≤ 100) (hs1 : 1 ≤ x.size) (w0 : World) (H : Hid (∀ w, Keeps NoB w0 w → Calls Tryd.prog 36 #[.int .u64 8, .int .i64 8] w fun e w' => e = .returned (.string x) ∧ Keeps NoB w w')) (w : World) (hkw : Keeps NoB w0 w) :
    Calls Tryd.prog 29 #[.agg #[.bool left, .bool zero, .int .i64 width, .int .i64 (-1), .int .u8 111], .int .i64 8] w fun e w' => e = .returned (.string x) ∧ Keeps NoB w w' := by
  have HR := Lib.hid (fun wx : World => repeat_any 48 0 (by omega) wx)
  rw [show (⟨(List.replicate 0 (48 : UInt8)).toArray⟩ : ByteArray) = ⟨#[]⟩ from rfl, show ((0 : Nat) : Int) = 0 from rfl] at HR
  have HE := Lib.hid (show (⟨#[]⟩ : ByteArray) ++ ⟨#[]⟩ ++ x = x by apply ba_eq; simp)
  have hm : max (0 : Int) (-1 - (x.size : Int)) = 0 := by omega
  have HK := Lib.hid (hkw.alloc (.cells #[.bool left, .bool zero, .int .i64 width, .int .i64 (-1), .int .u8 111] 50))
  have HK1 := Lib.hid ((Keeps.refl NoB w).alloc (.cells #[.bool left, .bool zero, .int .i64 width, .int .i64 (-1), .int .u8 111] 50))
  clear hkw
  go_enter Tryd.func29, Tryd.ntmps29
  go_upto_region 11 with (go_at_call 36; go_loud (refine (H.out _ HK.out).mono ?_); rintro e w3 ⟨rfl, hk3⟩)
  have HB0 := Lib.hid ((Bk.new (Keeps.refl NoB (w.alloc (.cells #[.bool left, .bool zero, .int .i64 width, .int .i64 (-1), .int .u8 111] 50)))).on hk3)
  have HK3 := Lib.hid (HK1.out.trans hk3)
  have c3 := HB0.out.cell 3 _ rfl
  have c4 := HB0.out.cell 4 _ rfl
  clear hk3 HK HK1 H
  go_wp2_with (first | (go_at_call 33; refine (fhp_any _ _).mono ?_; rintro e w' ⟨rfl, rfl⟩) | (go_at_call 32; go_loud (refine (HR.out _).mono ?_); rintro e w4 ⟨rfl, hk4⟩))
  go_ret
  exact ⟨by rw [HE.out]; rfl, HK3.out.trans hk4⟩

end Go.Proofs.YtokpmakhhhlbkaaDoor
