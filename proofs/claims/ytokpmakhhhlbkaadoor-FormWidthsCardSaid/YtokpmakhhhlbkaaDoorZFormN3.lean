/-
  Layer 10: contracts on numbers: a number in its place; the document's example.
-/
import Derived.Test.YtokpmakhhhlbkaaDoorZFormN2

set_option linter.unusedSimpArgs false
set_option linter.unusedVariables false

set_option maxRecDepth 100000
set_option maxHeartbeats 8000000
namespace Go.Proofs.YtokpmakhhhlbkaaDoor
open Go Go.RowKit

theorem put_num (left : Bool) (width kv n : Int) (s : ByteArray) (t : List UInt8) (x : ByteArray) (w : World)
    (k1 : (kv == 115) = false) (k2 : (kv == 98) = false) (k3 : (kv == 99) = false)
    (HW : Hid (∀ w, Calls Tryd.prog 28 #[.string s] w fun e w' => e = .returned (.tuple #[.int .i64 n, .int .i64 0]) ∧ Keeps NoB w w'))
    (HD : Hid (∀ w1, Keeps NoB w w1 → Calls Tryd.prog 29 #[.agg #[.bool left, .bool false, .int .i64 width, .int .i64 (-1), .int .u8 kv], .int .i64 n] w1 fun e w' => e = .returned (.string x) ∧ Keeps NoB w1 w'))
    (HP : Hid (∀ w1, Calls Tryd.prog 27 #[.agg #[.bool left, .bool false, .int .i64 width, .int .i64 (-1), .int .u8 kv], .string x, .bool true] w1 fun e w' => e = .returned (.string ⟨t.toArray⟩) ∧ Keeps NoB w1 w')) :
    Calls Tryd.prog 21 #[.agg #[.bool left, .bool false, .int .i64 width, .int .i64 (-1), .int .u8 kv], .string s] w fun e w' => e = .returned (.tuple #[.string ⟨t.toArray⟩, .int .i64 0]) ∧ Keeps NoB w w' := by
  generalize (⟨t.toArray⟩ : ByteArray) = q at *
  go_enter Tryd.func21, Tryd.ntmps21
  go_upto_region 14 with (go_at_call 28; go_loud (refine (HW.out _).mono ?_); rintro e w3 ⟨rfl, hk3⟩)
  have HK3 := Lib.hid (((Keeps.refl NoB w).alloc (.cells #[.bool left, .bool false, .int .i64 width, .int .i64 (-1), .int .u8 kv] 50)).trans hk3)
  have HB3 := Lib.hid ((Bk.new (Keeps.refl NoB (w.alloc (.cells #[.bool left, .bool false, .int .i64 width, .int .i64 (-1), .int .u8 kv] 50)))).on hk3)
  have c0 := HB3.out.cell 0 _ rfl
  have c1 := HB3.out.cell 1 _ rfl
  have c2 := HB3.out.cell 2 _ rfl
  have c3 := HB3.out.cell 3 _ rfl
  have c4 := HB3.out.cell 4 _ rfl
  clear hk3
  go_region_with (first
    | (go_at_call 29; go_loud (refine (HD.out _ (HK3.out.trans (by first | exact Keeps.refl _ _ | exact (Keeps.refl _ _).drew | exact ((Keeps.refl _ _).drew).drew | exact (((Keeps.refl _ _).drew).drew).drew))).mono ?_); rintro e w4 ⟨rfl, hk4⟩; have HB4 := Lib.hid ((HB3.out.on (by first | exact Keeps.refl _ _ | exact (Keeps.refl _ _).drew | exact ((Keeps.refl _ _).drew).drew | exact (((Keeps.refl _ _).drew).drew).drew)).on hk4); have d0 := HB4.out.cell 0 _ rfl; have d1 := HB4.out.cell 1 _ rfl; have d2 := HB4.out.cell 2 _ rfl; have d3 := HB4.out.cell 3 _ rfl; have d4 := HB4.out.cell 4 _ rfl)
    | (go_at_call 27; go_loud (refine (HP.out _).mono ?_); rintro e w5 ⟨rfl, hk5⟩))
  all_goals
    go_wp2_with fail
    go_ret2
    refine ⟨rfl, HK3.out.trans ?_⟩
    (repeat (first | with_reducible exact Keeps.refl _ _ | with_reducible refine Keeps.trans ?_ hk5 | with_reducible refine Keeps.trans ?_ hk4 | with_reducible refine Keeps.drew ?_))


theorem padx (p : Sp) (x : ByteArray) (t : List UInt8) (hz : p.zero = false) (hw : p.width ≤ 1000000) (hw0 : 0 ≤ p.width) (hl : x.size ≤ 1000000000) (ht : padL p.left p.width x.data.toList = t) (w : World) :
    Calls Tryd.prog 27 #[p.val, .string x, .bool true] w fun e w' => e = .returned (.string ⟨t.toArray⟩) ∧ Keeps NoB w w' := by
  have h := pad_any p x.data.toList true w (by rw [hz]; rfl) hw hw0 (by rw [len_data]; exact hl)
  rw [show (⟨x.data.toList.toArray⟩ : ByteArray) = x by simp, ht] at h
  exact h

theorem puts_d : PutsTo ⟨false, false, 3, -1, 100⟩ ⟨#[55]⟩ [32, 32, 55] := fun w _ =>
  put_num false 3 100 7 ⟨#[55]⟩ [32, 32, 55] ⟨#[55]⟩ w (by decide) (by decide) (by decide) (Lib.hid whole_7)
    (Lib.hid fun w1 _ => digits_d ⟨#[55]⟩ 7 3 false false (by decide) (by show 1 ≤ _; decide) (by show 1 ≤ 1; decide) (Lib.hid (fun w => by have h := fmt_one 7 (by decide) w; rw [show Lib.decDigits 7 = [55] by decide +kernel] at h; exact h)) w1)
    (Lib.hid fun w1 => padx ⟨false, false, 3, -1, 100⟩ ⟨#[55]⟩ [32, 32, 55] rfl (by show (3 : Int) ≤ _; decide) (by show (0 : Int) ≤ 3; decide) (by show 1 ≤ _; decide) (by decide) w1)

theorem puts_o : PutsTo ⟨false, false, 0, -1, 111⟩ ⟨#[56]⟩ [49, 48] := fun w h =>
  put_num false 0 111 8 ⟨#[56]⟩ [49, 48] ⟨#[49, 48]⟩ w (by decide) (by decide) (by decide) (Lib.hid whole_8)
    (Lib.hid fun w1 hk => digits_o ⟨#[49, 48]⟩ 0 false false (by decide) (by show 2 ≤ _; decide) (by show 1 ≤ 2; decide) w (Lib.hid (fun wx hx => fu_8 wx (h.on hx))) w1 hk)
    (Lib.hid fun w1 => padx ⟨false, false, 0, -1, 111⟩ ⟨#[49, 48]⟩ [49, 48] rfl (by show (0 : Int) ≤ _; decide) (by show (0 : Int) ≤ 0; decide) (by show 2 ≤ _; decide) (by decide) w1)

end Go.Proofs.YtokpmakhhhlbkaaDoor
