/-
  Layer 7's statements: begun.
-/
import Derived.Test.YtbmalnllppamdaaGreatDoorZLaw7B

set_option linter.unusedSimpArgs false
set_option linter.unusedVariables false

set_option maxRecDepth 100000
set_option maxHeartbeats 4000000
namespace Go.Proofs.YtbmalnllppamdaaGreatDoor
open Go Go.RowKit

theorem begun_any (w : World) (room fail : Int) (h0 : 0 ≤ room) (h1 : room ≤ 9223372036854775807) : Calls Tryz.prog 11 #[.int .i64 room, .int .i64 fail] w fun e w' => ∃ (F a B T0 M0 T1 M1 : Nat) (L : List Value) (N : Nat → Prop), e = .returned (.pointer (some ⟨B, 0, none⟩)) ∧ (∀ g, g < w.heap.size → N g) ∧ N B ∧ w.heap.size ≤ B ∧ (M0 < T0 ∧ T0 < M1 ∧ M1 < T1) ∧
      Bx w' B ([.pointer (some ⟨F, 0, none⟩), .pointer (some ⟨T0, 0, none⟩), .pointer (some ⟨T1, 0, none⟩)] ++ L) ∧ FdS N (newZ (newZ noZ T0 M0) T1 M1) w' F a newD room 0 fail ∧ Keeps NoB w w' := by
  have HB := Lib.hid (fun wx : World => begin_any wx room fail h0 h1)
  have HR4 := Lib.hid (fun wx : World => r4new_any (S := fun _ => True) wx room (fun _ _ => trivial))
  have HR7 := Lib.hid (fun (wx : World) (p : Option Addr) (c : Nat) => r7New_any wx (.slice p 2 c) room 0 fail rfl)
  go_enter Tryz.func11, Tryz.ntmps11
  go_upto_region 5 with (first | (go_at_call 50; go_loud (refine (HB.out _).mono ?_); rintro e w1 ⟨F, a, rfl, FS, k1⟩) | (go_at_call 53; go_loud (refine (HR4.out _).mono ?_); rintro e w2 ⟨p2, c2, rfl, hr2, k2⟩; unfold refV; clear hr2) | (go_at_call 52; go_loud (refine (HR7.out _ p2 c2).mono ?_); rintro e w3 ⟨rfl, k3⟩; have hl := r7len (.slice p2 2 c2) room 0 fail (Nat.le_refl 64) (Nat.le_refl 64); generalize r7row (.slice p2 2 c2) room 0 fail 64 64 = L at *))
  have hcs := side_cells F hl
  generalize hC : List.foldl (fun (cs : Array Value) x => cs.setIfInBounds (3 + x.2) x.1) (Tryz.zeroCells40.setIfInBounds 0 (.pointer (some ⟨F, 0, none⟩))) L.zipIdx = C at *
  have kb : Keeps NoB w1 (w3.alloc (.cells C 40)) := (k2.trans k3).alloc _
  have hB0 := Bx.new (Keeps.refl NoB (w3.alloc (.cells C 40)))
  rw [hcs] at hB0
  obtain ⟨N1, hsub, hnew, FS4⟩ := (FdS.start FS).wider kb
  have HFS := Lib.hid FS4
  have HN1 := Lib.hid (hnew w3.heap.size (k2.trans k3).size (by simp))
  have HBx := Lib.hid hB0
  have HK := Lib.hid (k1.trans kb)
  have HSub := Lib.hid hsub
  have HGe := Lib.hid (show w.heap.size ≤ w3.heap.size from Nat.le_trans k1.size (k2.trans k3).size)
  clear HB HR4 HR7 FS k1 k2 k3 hl hcs hC kb hB0 hsub hnew FS4
  generalize w3.alloc (.cells C 40) = w4 at *
  generalize w3.heap.size = B at *
  have HN := Lib.hid (fun (Z : FdZ) (wx : World) (h : FdS N1 Z wx F a newD room 0 fail) => fdNew_any h)
  have HF0 := Lib.hid (HFS.out.on (Keeps.refl NoB w4).drew)
  have HB4 := Lib.hid (HBx.out.on (Keeps.refl NoB w4).drew)
  have HK4 := Lib.hid (HK.out.trans (Keeps.refl NoB w4).drew)
  go_cut [31] from 28 to 39 (fun x wx => ∃ T0 M0 T1 M1 : Nat, (M0 < T0 ∧ T0 < M1 ∧ M1 < T1) ∧ Keeps NoB w wx ∧ Bx wx B ([.pointer (some ⟨F, 0, none⟩), .pointer (some ⟨T0, 0, none⟩), .pointer (some ⟨T1, 0, none⟩)] ++ L) ∧ FdS N1 (newZ (newZ noZ T0 M0) T1 M1) wx F a newD room 0 fail)
  case first =>
    go_region_with (go_at_call 51; first
      | (refine (HN.out _ _ HF0.out).mono ?_; rintro e w5 ⟨rfl, H5, k5⟩; clear HF0; have HB5 := HB4.out.on k5; have d1 := HB5.cell 1 _ rfl; have d2 := HB5.cell 2 _ rfl; have dz := HB5.fz; have dl := HB5.lt)
      | (refine (HN.out _ _ H5).mono ?_; rintro e w6 ⟨rfl, H6, k6⟩; have HB6 := HB5.on k6; have f1 := HB6.cell 1 _ rfl; have f2 := HB6.cell 2 _ rfl; have fz := HB6.fz; have fl := HB6.lt)
      | (refine (HN.out _ _ (H5.keep (keeps_set w5 ⟨B, 1, none⟩ (.pointer (some ⟨w4.drew.heap.size + 1, 0, none⟩))) (fun g hg => by rw [show g = B from hg]; exact HN1.out))).mono ?_; rintro e w6 ⟨rfl, H6, k6⟩; have HB6 := (HB5.put 1 (.pointer (some ⟨w4.drew.heap.size + 1, 0, none⟩))).on k6; have f1 := HB6.cell 1 _ rfl; have f2 := HB6.cell 2 _ rfl; have fz := HB6.fz; have fl := HB6.lt))
    all_goals (go_wp2_with fail; go_meet; exact ⟨_, _, _, _, ⟨Nat.lt_succ_self _, ((H5.tab (w4.drew.heap.size + 1) w4.drew.heap.size (by simp [newZ])).1.bx.lt), Nat.lt_succ_self _⟩, ((HK4.out.trans (k5.trans k6)).setCell (.inr HGe.out) _).setCell (.inr HGe.out) _, (HB6.put 1 _).put 2 _,
      (H6.keep (keeps_set w6 ⟨B, 1, none⟩ _) (fun g hg => by rw [show g = B from hg]; exact HN1.out)).keep (keeps_set _ ⟨B, 2, none⟩ _) (fun g hg => by rw [show g = B from hg]; exact HN1.out)⟩)
  case rest =>
  obtain ⟨T0, M0, T1, M1, hlt, hkc, hbc, hfc⟩ := hcut
  have HLt := Lib.hid hlt
  have HKc := Lib.hid hkc
  have HBc := Lib.hid hbc
  have HFc := Lib.hid hfc
  have c0 := hbc.cell 0 _ rfl
  have c1 := hbc.cell 1 _ rfl
  have c2 := hbc.cell 2 _ rfl
  clear hlt hkc hbc hfc HN HF0 HB4 HK4
  go_wp2_with fail
  go_ret
  exact ⟨F, a, B, T0, M0, T1, M1, L, N1, rfl, HSub.out, HN1.out, HGe.out, HLt.out, HBc.out, HFc.out, HKc.out⟩

end Go.Proofs.YtbmalnllppamdaaGreatDoor
