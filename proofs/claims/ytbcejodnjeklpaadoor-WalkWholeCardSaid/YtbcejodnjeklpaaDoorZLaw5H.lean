/-
  Layer 5: the walk of WalkWhole.
-/
import Derived.Test.YtbcejodnjeklpaaDoorZLaw5F

set_option linter.unusedSimpArgs false
set_option linter.unusedVariables false

set_option maxRecDepth 100000
set_option maxHeartbeats 8000000
namespace Go.Proofs.YtbcejodnjeklpaaDoor
open Go Go.RowKit


theorem WP.size {d : Nds} (hI : DInv d) {i : Int} {s W : ByteArray} (h : WP d i s W) : W.size ≤ s.size + 256 * ancs d i + 1 := by
  induction h with
  | root s => rw [ByteArray.size_append]; show 1 + s.size ≤ _; omega
  | @step i u s W e hk he h2 _ ih =>
    have hp : Par d u i := ⟨hk, e, he, h2⟩
    have h3 := ancs_lt hI hp
    have h4 : e.1.size ≤ 255 := by have := (hI.node u).names e he; simp [okName] at this; omega
    have h5 : (e.1 ++ slB s).size ≤ s.size + 256 := by
      rw [ByteArray.size_append]
      unfold slB
      split
      · show e.1.size + 0 ≤ _; omega
      · rw [ByteArray.size_append]; show _ + (1 + _) ≤ _; omega
    omega

theorem wholes_any {S : Nat → Prop} {W : World} {pl : Option Addr} {cl : Nat} {ls : List N5} (h : SlAt encN5 S W pl cl ls) (id : Int) :
    Calls Tryd.prog 6 #[.slice pl ls.length cl, .int .i64 id] W fun e w' => e = .returned (.bool true) ∧ Keeps NoB W w' := by
  have HA := Lib.hid anchor_any
  have HS := Lib.hid (fun (wx : World) (k : Keeps NoB W wx) => small5_any (h.keepN k))
  by_cases hsm : Small5 ls
  · replace hsm := Lib.hid hsm
    go_enter Tryd.func6, Tryd.ntmps6
    go_upto_region 5 with (first | (go_at_call 7; go_loud (refine (HA.out _).mono ?_); rintro e w1 ⟨rfl, hk1⟩) | ((go_at_call 8; go_loud (refine (HS.out _ hk1).mono ?_); rintro e w2 ⟨b, rfl, hb, hk2⟩); obtain rfl : b = true := hb.2 hsm.out; clear hb))
    have hk12 := hk1.trans hk2
    have HB := Lib.hid (fun (wx : World) (k : Keeps NoB W wx) => built_any (h.keepN k) hsm.out.b)
    clear hk1 hk2 HA HS
    go_upto_region 6 with (go_at_call 9; go_loud (refine (HB.out _ hk12).mono ?_); rintro e w3 ⟨a, p, c, rfl, hP, hT, hk3⟩; unfold refV)
    have hk13 := hk12.trans hk3
    have hms := hT.mass
    have hlm := mass_ge (builtD ls).1
    have h40 := hsm.out.2
    obtain ⟨lk, up, h5⟩ := W5.of hP hT
    clear hP hT hk3 hk12 HB
    obtain ⟨d, hd⟩ : ∃ d, (builtD ls).1 = d := ⟨_, rfl⟩
    rw [hd] at h5 hms hlm
    simp only [hd]
    have D := d2_new (Keeps.refl NoB (w3.alloc (.cells #[.slice p d.length c, .int .i64 room5] 28)))
    have h5a := h5.on ((Keeps.refl NoB w3).alloc (.cells #[.slice p d.length c, .int .i64 room5] 28))
    have hk14 := hk13.alloc (.cells #[.slice p d.length c, .int .i64 room5] 28)
    generalize w3.alloc (.cells #[.slice p d.length c, .int .i64 room5] 28) = w4 at *
    generalize w3.heap.size = B at *
    have d0 := D.c0
    have d1 := D.c1
    have dl := D.lt
    clear hk13 h5 hd
    have hk9 : Keeps NoB w4 w4 := Keeps.refl _ _
    have FO := fun (wx : World) (k : Keeps NoB w4 wx) => (h5a.on k).rfolder id
    unfold refV at FO
    by_cases hf : folderErr d id ≠ 0
    · have F1 := fun (wx : World) (k : Keeps NoB w4 wx) => (h5a.on k).wholeErr id hf
      have hb : (folderErr d id != 0) = true := by simpa using hf
      clear hf
      generalize folderErr d id = fe at *
      replace F1 := Lib.hid F1
      replace FO := Lib.hid FO
      clear h5a h hsm
      go_wp2_with (first | (go_at_call 14; go_loud (refine (F1.out _ hk9).mono ?_); rintro e w5 ⟨rfl, hk5⟩; have D2 := D.on hk5; clear D d0 d1 dl; have D := D2; have d0 := D.c0; have d1 := D.c1; have dl := D.lt; clear D2; have hkA := hk9.trans hk5; clear hk9 hk5; have hk9 := hkA; clear hkA) | (go_at_call 15; go_loud (refine (FO.out _ hk9).mono ?_); rintro e w6 ⟨rfl, hk6⟩; have D2 := D.on hk6; clear D d0 d1 dl; have D := D2; have d0 := D.c0; have d1 := D.c1; have dl := D.lt; clear D2; have hkA := hk9.trans hk6; clear hk9 hk6; have hk9 := hkA; clear hkA))
      go_ret
      exact ⟨rfl, hk14.trans hk9⟩
    · have hf0 : folderErr d id = 0 := Classical.not_not.1 hf
      obtain ⟨hid, hk⟩ := folderErr_has hf0
      obtain ⟨P, hP⟩ := WP.ex h5a.inv h5a.clean id hk ⟨#[]⟩
      have hz := hP.size h5a.inv
      have hal := ancs_le d id
      have F1 := fun (wx : World) (k : Keeps NoB w4 wx) => (h5a.on k).whole id P hk hP
      have F2 := fun (wx : World) (k : Keeps NoB w4 wx) => (h5a.on k).rwhole id P hk hP
      have hPz : P.size ≤ 4294967280 := by have : (⟨#[]⟩ : ByteArray).size = 0 := rfl; omega
      have F3 := fun (wx : World) (k : Keeps NoB w4 wx) => (h5a.on k).find 1 P true hPz
      have hw := whole_find (up := up) h5a.inv hk hP 40 0
      obtain ⟨⟨⟨Fn, Fd, Fm⟩, Fe⟩, hF⟩ : ∃ F, findR d up true 41 1 P 0 = F := ⟨_, rfl⟩
      simp only [hF] at F3
      rw [hF] at hw
      unfold plcV at F3
      unfold refV at F2
      simp only at F3 hw
      rw [hf0] at FO
      replace F1 := Lib.hid F1
      replace F2 := Lib.hid F2
      replace F3 := Lib.hid F3
      replace FO := Lib.hid FO
      clear hF h5a h hsm hf hf0 hid hk hP hz hal hPz hms hlm
      go_upto_region 11 with (first | (go_at_call 14; go_loud (refine (F1.out _ hk9).mono ?_); rintro e w5 ⟨rfl, hk5⟩; have D2 := D.on hk5; clear D d0 d1 dl; have D := D2; have d0 := D.c0; have d1 := D.c1; have dl := D.lt; clear D2; have hkA := hk9.trans hk5; clear hk9 hk5; have hk9 := hkA; clear hkA) | (go_at_call 15; go_loud (refine (FO.out _ hk9).mono ?_); rintro e w6 ⟨rfl, hk6⟩; have D2 := D.on hk6; clear D d0 d1 dl; have D := D2; have d0 := D.c0; have d1 := D.c1; have dl := D.lt; clear D2; have hkA := hk9.trans hk6; clear hk9 hk6; have hk9 := hkA; clear hkA))
      go_upto_region 14 with (go_at_call 16; go_loud (refine (F2.out _ hk9).mono ?_); rintro e w7 ⟨rfl, hk7⟩; have D2 := D.on hk7; clear D d0 d1 dl; have D := D2; have d0 := D.c0; have d1 := D.c1; have dl := D.lt; clear D2; have hkA := hk9.trans hk7; clear hk9 hk7; have hk9 := hkA; clear hkA)
      clear F1 F2 FO
      go_upto_region 15 with (go_at_call 10; go_loud (refine (F3.out _ hk9).mono ?_); rintro e w8 ⟨rfl, hk8⟩)
      have P5 := c3_new (Keeps.refl NoB (w8.alloc (.cells #[.int .i64 Fn, .int .i64 Fd, .string Fm] 35)))
      have hkA := (hk9.trans hk8).alloc (.cells #[.int .i64 Fn, .int .i64 Fd, .string Fm] 35)
      clear hk9 hk8 F3 D d0 d1 dl
      generalize w8.alloc (.cells #[.int .i64 Fn, .int .i64 Fd, .string Fm] 35) = w9 at *
      generalize w8.heap.size = B5 at *
      have a5 := P5.c0
      have l5 := P5.lt
      clear P5
      have hc : (Fe != 0) = true ∨ ((Fe != 0) = false ∧ Fn = id) := by
        by_cases h0 : Fe = 0
        · exact .inr ⟨by simpa using h0, hw.elim (fun h => absurd h0 h) (fun h => h)⟩
        · exact .inl (by simpa using h0)
      clear hw
      rcases hc with g | ⟨g, rfl⟩
      · go_wp2_with fail
        go_ret
        exact ⟨rfl, hk14.trans hkA⟩
      · go_wp2_with fail
        go_ret
        exact ⟨rfl, hk14.trans hkA⟩
  · replace hsm := Lib.hid hsm
    go_enter Tryd.func6, Tryd.ntmps6
    go_wp2_with (first | (go_at_call 7; go_loud (refine (HA.out _).mono ?_); rintro e w1 ⟨rfl, hk1⟩) | ((go_at_call 8; go_loud (refine (HS.out _ hk1).mono ?_); rintro e w2 ⟨b, rfl, hb, hk2⟩); obtain rfl : b = false := Bool.eq_false_iff.2 (fun e => hsm.out (hb.1 e)); clear hb))
    go_ret
    exact ⟨rfl, hk1.trans hk2⟩
end Go.Proofs.YtbcejodnjeklpaaDoor
