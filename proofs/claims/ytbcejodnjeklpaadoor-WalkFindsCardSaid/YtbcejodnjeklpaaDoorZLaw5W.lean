/-
  Layer 5: the walk of WalkDots.
-/
import Derived.Test.YtbcejodnjeklpaaDoorB32

set_option linter.unusedSimpArgs false
set_option linter.unusedVariables false

set_option maxRecDepth 100000
set_option maxHeartbeats 8000000
namespace Go.Proofs.YtbcejodnjeklpaaDoor
open Go Go.RowKit



theorem dots_any {S : Nat → Prop} {W : World} {pl : Option Addr} {cl : Nat} {ls : List N5} (h : SlAt encN5 S W pl cl ls) (s : ByteArray) (hsz : s.size ≤ 9223372036854775807) (follow : Bool) :
    Calls Tryd.prog 3 #[.slice pl ls.length cl, .string s, .bool follow] W fun e w' => e = .returned (.bool true) ∧ Keeps NoB W w' := by
  have HA := Lib.hid anchor_any
  have HS := Lib.hid (fun (wx : World) (k : Keeps NoB W wx) => small5_any (h.keepN k))
  by_cases hsm : Small5 ls
  · replace hsm := Lib.hid hsm
    have hc : (s.size : Int) < 1 ∨ (¬ (s.size : Int) < 1 ∧ (500 : Int) < (s.size : Int)) ∨ (¬ (s.size : Int) < 1 ∧ ¬ (500 : Int) < (s.size : Int)) := by omega
    rcases hc with z | ⟨z, z2⟩ | ⟨z, z2⟩
    · go_enter Tryd.func3, Tryd.ntmps3
      go_wp2_with (first | (go_at_call 7; go_loud (refine (HA.out _).mono ?_); rintro e w1 ⟨rfl, hk1⟩) | ((go_at_call 8; go_loud (refine (HS.out _ hk1).mono ?_); rintro e w2 ⟨b, rfl, hb, hk2⟩); obtain rfl : b = true := hb.2 hsm.out; clear hb))
      go_ret
      exact ⟨rfl, hk1.trans hk2⟩
    · go_enter Tryd.func3, Tryd.ntmps3
      go_wp2_with (first | (go_at_call 7; go_loud (refine (HA.out _).mono ?_); rintro e w1 ⟨rfl, hk1⟩) | ((go_at_call 8; go_loud (refine (HS.out _ hk1).mono ?_); rintro e w2 ⟨b, rfl, hb, hk2⟩); obtain rfl : b = true := hb.2 hsm.out; clear hb))
      go_ret
      exact ⟨rfl, hk1.trans hk2⟩
    · have h1 : 1 ≤ s.size := by omega
      have h5' : s.size ≤ 500 := by omega
      have hab := absB_head s h1
      have hb1 := byte_eq s[0] 47 (by decide) (by decide)
      rw [show (47 : Int).toNat.toUInt8 = 47 from rfl, ← hab] at hb1
      obtain ⟨ab, hab0⟩ : ∃ ab, absB s = ab := ⟨_, rfl⟩
      rw [hab0] at hb1
      clear hab
      cases ab with
      | true =>
        go_enter Tryd.func3, Tryd.ntmps3
        go_wp2_with (first | (go_at_call 7; go_loud (refine (HA.out _).mono ?_); rintro e w1 ⟨rfl, hk1⟩) | ((go_at_call 8; go_loud (refine (HS.out _ hk1).mono ?_); rintro e w2 ⟨b, rfl, hb, hk2⟩); obtain rfl : b = true := hb.2 hsm.out; clear hb))
        go_ret
        exact ⟨rfl, hk1.trans hk2⟩
      | false =>
        go_enter Tryd.func3, Tryd.ntmps3
        go_upto_region 5 with (first | (go_at_call 7; go_loud (refine (HA.out _).mono ?_); rintro e w1 ⟨rfl, hk1⟩) | ((go_at_call 8; go_loud (refine (HS.out _ hk1).mono ?_); rintro e w2 ⟨b, rfl, hb, hk2⟩); obtain rfl : b = true := hb.2 hsm.out; clear hb))
        have hk12 := hk1.trans hk2
        have HB := Lib.hid (fun (wx : World) (k : Keeps NoB W wx) => built_any (h.keepN k) hsm.out.b)
        clear hk1 hk2 HA HS
        go_upto_region 6 with (go_at_call 9; go_loud (refine (HB.out _ hk12).mono ?_); rintro e w3 ⟨a, p, c, rfl, hP, hT, hk3⟩; unfold refV)
        have hk13 := hk12.trans hk3
        obtain ⟨lk, up, h5⟩ := W5.of hP hT
        have hlen := h5.inv.two
        have hsmd := h5.small
        have hlm := mass_ge (builtD ls).1
        have hmd := h5.mode
        have DF := Lib.hid (dots_find h5.root h5.up1 s h1 h5' (by rw [hab0]; decide) follow 40 0)
        clear hP hT hk3 hk12 HB
        obtain ⟨d, hd⟩ : ∃ d, (builtD ls).1 = d := ⟨_, rfl⟩
        rw [hd] at h5 hlen hmd DF hsmd hlm
        simp only [hd]
        unfold smallD at hsmd
        have D := d2_new (Keeps.refl NoB (w3.alloc (.cells #[.slice p d.length c, .int .i64 room5] 28)))
        have h5a := h5.on ((Keeps.refl NoB w3).alloc (.cells #[.slice p d.length c, .int .i64 room5] 28))
        have hk14 := hk13.alloc (.cells #[.slice p d.length c, .int .i64 room5] 28)
        generalize w3.alloc (.cells #[.slice p d.length c, .int .i64 room5] 28) = w4 at *
        generalize w3.heap.size = B at *
        obtain ⟨S', hr⟩ := h5a.ref
        obtain ⟨g, off, q, m, rfl, _, hrow⟩ := hr.rowAt (k := 1) (by omega)
        have r1 := hrow.c1
        have rl := hrow.lt
        have hcap := hr.cap
        have hmax := hr.max
        unfold maxLen at hmax
        rw [show ((1 : Nat) : Int) = 1 from rfl, hmd] at r1
        have d0 := D.c0
        have d1 := D.c1
        have dl := D.lt
        clear hr hrow hk13 h5 hd hmd hlm
        have H5 := Lib.hid h5a
        clear h5a
        go_upto_region 10 with fail
        have hk9 : Keeps NoB w4 w4 := Keeps.refl _ _
        have HF := fun (wx : World) (k : Keeps NoB w4 wx) (x : ByteArray) (hx : x.size ≤ 4294967280) => (H5.out.on k).find 1 x follow hx
        have q2 : (⟨#[46, 47]⟩ ++ s : ByteArray).size ≤ 4294967280 := by rw [ByteArray.size_append]; show 2 + s.size ≤ _; omega
        have q3 : (⟨#[46, 46, 47, 46, 47, 47]⟩ ++ s : ByteArray).size ≤ 4294967280 := by rw [ByteArray.size_append]; show 6 + s.size ≤ _; omega
        have q4 : (⟨#[47, 47]⟩ ++ s : ByteArray).size ≤ 4294967280 := by rw [ByteArray.size_append]; show 2 + s.size ≤ _; omega
        have F1 := fun (wx : World) (k : Keeps NoB w4 wx) => HF wx k s (by omega)
        have F2 := fun (wx : World) (k : Keeps NoB w4 wx) => HF wx k _ q2
        have F3 := fun (wx : World) (k : Keeps NoB w4 wx) => HF wx k _ q3
        have F4 := fun (wx : World) (k : Keeps NoB w4 wx) => HF wx k _ q4
        obtain ⟨e2, e3, e4⟩ := DF.out
        simp only [e2] at F2
        simp only [e3] at F3
        simp only [e4] at F4
        obtain ⟨⟨⟨Fn, Fd, Fm⟩, Fe⟩, hF⟩ : ∃ F, findR d up follow 41 1 s 0 = F := ⟨_, rfl⟩
        simp only [hF] at F1 F2 F3 F4
        unfold plcV at F1 F2 F3 F4
        simp only at F1 F2 F3 F4
        replace F1 := Lib.hid F1
        replace F2 := Lib.hid F2
        replace F3 := Lib.hid F3
        replace F4 := Lib.hid F4
        clear HF hF e2 e3 e4 q2 q3 q4 H5 DF r1 rl hcap hmax d0 d1 dl D h hsm hb1 hab0
        go_upto_region 11 with (go_at_call 10; go_loud (refine (F1.out _ hk9).mono ?_); rintro e w5 ⟨rfl, hk5⟩)
        (have P5 := c3_new (Keeps.refl NoB (w5.alloc (.cells #[.int .i64 Fn, .int .i64 Fd, .string Fm] 35))); have hkA := (hk9.trans hk5).alloc (.cells #[.int .i64 Fn, .int .i64 Fd, .string Fm] 35); clear hk9 hk5 F1; have hk9 := hkA; clear hkA; generalize (w5.alloc (.cells #[.int .i64 Fn, .int .i64 Fd, .string Fm] 35)) = w6 at *; generalize w5.heap.size = B5 at *)
        go_upto_region 12 with (go_at_call 10; go_loud (refine (F2.out _ hk9).mono ?_); rintro e w7 ⟨rfl, hk7⟩)
        (have P7 := c3_new (Keeps.refl NoB (w7.alloc (.cells #[.int .i64 Fn, .int .i64 Fd, .string Fm] 35))); have Q5 := P5.on (hk7.alloc (.cells #[.int .i64 Fn, .int .i64 Fd, .string Fm] 35)); clear P5; have P5 := Q5; clear Q5; have hkA := (hk9.trans hk7).alloc (.cells #[.int .i64 Fn, .int .i64 Fd, .string Fm] 35); clear hk9 hk7 F2; have hk9 := hkA; clear hkA; generalize (w7.alloc (.cells #[.int .i64 Fn, .int .i64 Fd, .string Fm] 35)) = w8 at *; generalize w7.heap.size = B7 at *)
        go_upto_region 13 with (go_at_call 10; go_loud (refine (F3.out _ hk9).mono ?_); rintro e w9 ⟨rfl, hk8⟩)
        (have P9 := c3_new (Keeps.refl NoB (w9.alloc (.cells #[.int .i64 Fn, .int .i64 Fd, .string Fm] 35))); have Q5 := P5.on (hk8.alloc (.cells #[.int .i64 Fn, .int .i64 Fd, .string Fm] 35)); clear P5; have P5 := Q5; clear Q5; have Q7 := P7.on (hk8.alloc (.cells #[.int .i64 Fn, .int .i64 Fd, .string Fm] 35)); clear P7; have P7 := Q7; clear Q7; have hkA := (hk9.trans hk8).alloc (.cells #[.int .i64 Fn, .int .i64 Fd, .string Fm] 35); clear hk9 hk8 F3; have hk9 := hkA; clear hkA; generalize (w9.alloc (.cells #[.int .i64 Fn, .int .i64 Fd, .string Fm] 35)) = w10 at *; generalize w9.heap.size = B9 at *)
        go_upto_region 14 with (go_at_call 10; go_loud (refine (F4.out _ hk9).mono ?_); rintro e w11 ⟨rfl, hk8⟩)
        (have P11 := c3_new (Keeps.refl NoB (w11.alloc (.cells #[.int .i64 Fn, .int .i64 Fd, .string Fm] 35))); have Q5 := P5.on (hk8.alloc (.cells #[.int .i64 Fn, .int .i64 Fd, .string Fm] 35)); clear P5; have P5 := Q5; clear Q5; have Q7 := P7.on (hk8.alloc (.cells #[.int .i64 Fn, .int .i64 Fd, .string Fm] 35)); clear P7; have P7 := Q7; clear Q7; have Q9 := P9.on (hk8.alloc (.cells #[.int .i64 Fn, .int .i64 Fd, .string Fm] 35)); clear P9; have P9 := Q9; clear Q9; have hkA := (hk9.trans hk8).alloc (.cells #[.int .i64 Fn, .int .i64 Fd, .string Fm] 35); clear hk9 hk8 F4; have hk9 := hkA; clear hkA; generalize (w11.alloc (.cells #[.int .i64 Fn, .int .i64 Fd, .string Fm] 35)) = w12 at *; generalize w11.heap.size = B11 at *)
        (have a5 := P5.c0; have b5 := P5.c1; have c5 := P5.c2; have l5 := P5.lt; have a7 := P7.c0; have b7 := P7.c1; have c7 := P7.c2; have l7 := P7.lt; have a9 := P9.c0; have b9 := P9.c1; have c9 := P9.c2; have l9 := P9.lt; have a11 := P11.c0; have b11 := P11.c1; have c11 := P11.c2; have l11 := P11.lt)
        go_wp2_with fail
        go_ret
        exact ⟨rfl, hk14.trans hk9⟩
  · replace hsm := Lib.hid hsm
    go_enter Tryd.func3, Tryd.ntmps3
    go_wp2_with (first | (go_at_call 7; go_loud (refine (HA.out _).mono ?_); rintro e w1 ⟨rfl, hk1⟩) | ((go_at_call 8; go_loud (refine (HS.out _ hk1).mono ?_); rintro e w2 ⟨b, rfl, hb, hk2⟩); obtain rfl : b = false := Bool.eq_false_iff.2 (fun e => hsm.out (hb.1 e)); clear hb))
    go_ret
    exact ⟨rfl, hk1.trans hk2⟩
end Go.Proofs.YtbcejodnjeklpaaDoor
