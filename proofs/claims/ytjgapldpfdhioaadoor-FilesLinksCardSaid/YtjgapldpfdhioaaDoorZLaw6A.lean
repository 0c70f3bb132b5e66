/-
  Layer 6's statements: the document's example.
-/
import Derived.Test.YtjgapldpfdhioaaDoorC07
import Derived.Test.YtjgapldpfdhioaaDoorC05
import Derived.Test.YtjgapldpfdhioaaDoorC01

set_option linter.unusedSimpArgs false
set_option linter.unusedVariables false

set_option maxRecDepth 100000
set_option maxHeartbeats 4000000
namespace Go.Proofs.YtjgapldpfdhioaaDoor
open Go Go.RowKit

theorem anchor6_any (w : World) : Calls Tryd.prog 12 #[] w fun e w' => e = .returned (.bool true) ∧ Keeps NoB w w' := by
  have HB := Lib.hid (begin_any w 100 (-1) (by decide) (by decide))
  go_enter Tryd.func12, Tryd.ntmps12
  go_upto_region 2 with (go_at_call 13; go_loud (refine HB.out.mono ?_); rintro e w1 ⟨F, a, rfl, FS, k1⟩)
  have FX1 := Lib.hid (FSx.new FS k1)
  clear HB FS k1
  go_upto_region 5 with fail
  have HW := Lib.hid (Bx.new (Keeps.refl NoB (w1.alloc (.cells #[.int .i64 1, .int .i64 18] 36))))
  have FX2 := Lib.hid (FX1.out.more (P' := fun g => g = w1.heap.size) ((Keeps.refl NoB w1).alloc (.cells #[.int .i64 1, .int .i64 18] 36)) (fun g hg => .inr ⟨by omega, by rw [hg]; simp⟩))
  clear FX1
  generalize w1.alloc (.cells #[.int .i64 1, .int .i64 18] 36) = w2 at *
  generalize w1.heap.size = WB at *
  -- Mkdir
  have HM := Lib.hid (FX2.out.call fun N h => mkdir_any h (by decide) (by decide) (by rw [mass_new]; decide) 1 18 ⟨#[100]⟩ 511 (by decide))
  have e1 : orFail 0 (-1) newD (mkdirR newD 100 1 18 ⟨#[100]⟩ 511) = mkdirR newD 100 1 18 ⟨#[100]⟩ 511 := by unfold orFail callE; rw [if_neg (by decide)]
  obtain ⟨a1, a2, a3⟩ := anc6_a
  rw [e1, a1] at HM
  have HMs := Lib.hid (mkdirR_mass (d := newD) (room := 100) 1 18 ⟨#[100]⟩ 511)
  rw [mass_new] at HMs
  have HD : Hid ((mkdirR newD 100 1 18 ⟨#[100]⟩ 511).1.length = 3 ∧ _) := ⟨a2, a3⟩
  generalize (mkdirR newD 100 1 18 ⟨#[100]⟩ 511).1 = dA at *
  clear e1 a1 a2 a3
  have b0 := HW.out.cell 0 _ rfl
  have b1 := HW.out.cell 1 _ rfl
  go_upto_region 6 with (go_at_call 25; go_loud (refine HM.out.mono ?_); rintro e w3 ⟨rfl, FX, k⟩)
  have HW3 := Lib.hid (FX2.out.kept HW.out k rfl)
  have FX3 := Lib.hid FX
  clear HM FX k b0 b1 HW FX2
  -- Open
  have hmA : mass dA ≤ 5 := HMs.out
  obtain ⟨hD2, hD3⟩ := HD.out
  obtain ⟨c1, c2⟩ := anc6_b FX3.out.inv FX3.out.small hD2 hD3
  have HO := Lib.hid (FX3.out.call fun N h => open_any h (by decide) (by decide) (by omega) 1 18 ⟨#[100, 47, 120]⟩ 6 438 (by decide))
  have e1 : openF (0 + 1) (-1) dA 100 1 18 ⟨#[100, 47, 120]⟩ 6 438 = openR dA 100 1 18 ⟨#[100, 47, 120]⟩ 6 438 := by unfold openF callE; rw [if_neg (fun h => h.2 (by decide))]
  rw [e1, c1] at HO
  have HD2 := Lib.hid (anc6_c c2)
  have HD3 := Lib.hid c2
  generalize (openR dA 100 1 18 ⟨#[100, 47, 120]⟩ 6 438).1 = dB at *
  clear e1 c1 c2 hmA hD2 hD3 HD HMs
  have b0 := HW3.out.cell 0 _ rfl
  have b1 := HW3.out.cell 1 _ rfl
  go_upto_region 7 with (go_at_call 14; go_loud (refine HO.out.mono ?_); rintro e w4 ⟨rfl, FX, k⟩)
  have HW4 := Lib.hid (FX3.out.kept HW3.out k rfl)
  have FX4 := Lib.hid FX
  clear HO FX k b0 b1 HW3 FX3
  -- Stat
  have n2 : nd dB 2 = ⟨2, 493, 0, ⟨#[]⟩, [(⟨#[120]⟩, 3)]⟩ := by rw [HD3.out]; rfl
  have n3 : nd dB 3 = ⟨1, 420, 1, ⟨#[]⟩, []⟩ := by rw [HD3.out]; rfl
  have v2 : statV dB (⟨2, 1, ⟨#[100]⟩⟩, 0) = .agg #[.int .i64 2, .int .i64 493, .int .i64 (links dB 2), .int .i64 0, .int .i64 1] := by unfold statV infoAt infoV sizeOf4; rw [if_neg (by simp), if_pos (by unfold has; rw [n2]; decide), n2]; rfl
  have v3 : statV dB (⟨3, 2, ⟨#[120]⟩⟩, 0) = .agg #[.int .i64 1, .int .i64 420, .int .i64 (links dB 3), .int .i64 1, .int .i64 0] := by unfold statV infoAt infoV sizeOf4; rw [if_neg (by simp), if_pos (by unfold has; rw [n3]; decide), n3]; rfl
  have s2 : statE dB (⟨2, 1, ⟨#[100]⟩⟩, 0) = 0 := by unfold statE; rw [if_neg (by simp), if_pos (by unfold has; rw [n2]; decide)]
  have s3 : statE dB (⟨3, 2, ⟨#[120]⟩⟩, 0) = 0 := by unfold statE; rw [if_neg (by simp), if_pos (by unfold has; rw [n3]; decide)]
  obtain ⟨t2, t3⟩ := HD2.out
  have HS2 := Lib.hid (fun (wx : World) (k : Keeps NoB w4 wx) => (FX4.out.on k).asks fun N h => stat_any h 1 18 ⟨#[100]⟩ true (by decide))
  have HS3 := Lib.hid (fun (wx : World) (k : Keeps NoB w4 wx) => (FX4.out.on k).asks fun N h => stat_any h 1 18 ⟨#[100, 47, 120]⟩ true (by decide))
  rw [t2, v2, s2] at HS2
  rw [t3, v3, s3] at HS3
  generalize ((links dB 2 : Nat) : Int) = l2 at *
  generalize ((links dB 3 : Nat) : Int) = l3 at *
  clear n2 n3 v2 v3 s2 s3 t2 t3 HD2 HD3
  have b0 := HW4.out.cell 0 _ rfl
  have b1 := HW4.out.cell 1 _ rfl
  have HK := Lib.hid FX4.out.keeps
  go_upto_region 8 with (go_at_call 29; go_loud (refine (HS2.out _ (Keeps.refl _ _)).mono ?_); rintro e w5 ⟨rfl, k5⟩)
  have k6 : Keeps NoB w4 (w5.alloc (.cells #[.int .i64 2, .int .i64 493, .int .i64 l2, .int .i64 0, .int .i64 1] 45)) := k5.alloc _
  have HW6 := Lib.hid (HW4.out.on k6)
  have HI := Lib.hid (Bx.new (Keeps.refl NoB (w5.alloc (.cells #[.int .i64 2, .int .i64 493, .int .i64 l2, .int .i64 0, .int .i64 1] 45))))
  clear b0 b1 HS2 k5
  generalize w5.alloc (.cells #[.int .i64 2, .int .i64 493, .int .i64 l2, .int .i64 0, .int .i64 1] 45) = w6 at *
  generalize w5.heap.size = IB at *
  have b0 := HW6.out.cell 0 _ rfl
  have b1 := HW6.out.cell 1 _ rfl
  go_upto_region 9 with (go_at_call 29; go_loud (refine (HS3.out _ k6).mono ?_); rintro e w7 ⟨rfl, k7⟩)
  have k8 : Keeps NoB w6 (w7.alloc (.cells #[.int .i64 1, .int .i64 420, .int .i64 l3, .int .i64 1, .int .i64 0] 45)) := k7.alloc _
  have HI2 := Lib.hid (HI.out.on k8)
  have HJ := Lib.hid (Bx.new (Keeps.refl NoB (w7.alloc (.cells #[.int .i64 1, .int .i64 420, .int .i64 l3, .int .i64 1, .int .i64 0] 45))))
  clear b0 b1 HS3 k7 HI HW6
  generalize w7.alloc (.cells #[.int .i64 1, .int .i64 420, .int .i64 l3, .int .i64 1, .int .i64 0] 45) = w8 at *
  generalize w7.heap.size = JB at *
  have i1 := HI2.out.cell 1 _ rfl
  have j1 := HJ.out.cell 1 _ rfl
  go_wp2_with fail
  go_ret
  exact ⟨rfl, HK.out.trans (k6.trans k8)⟩

end Go.Proofs.YtjgapldpfdhioaaDoor
