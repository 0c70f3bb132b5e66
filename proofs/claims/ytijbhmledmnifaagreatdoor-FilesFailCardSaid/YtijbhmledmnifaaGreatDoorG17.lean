/-
 Layer 6: contracts of files: gone. (Printed by genfiles.py.)
-/
import Derived.Test.YtijbhmledmnifaaGreatDoorG16
import Derived.Test.YtijbhmledmnifaaGreatDoorG11
import Derived.Deep.RegionHeld3

set_option linter.unusedSimpArgs false
set_option linter.unusedVariables false
set_option maxRecDepth 100000
set_option maxHeartbeats 4000000
namespace Go.Proofs.YtijbhmledmnifaaGreatDoor
open Go Go.RowKit
section
variable {N : Nat -> Prop} {w w' : World} {F a : Nat} {d d' : Nds} {room calls fail : Int}
theorem gone_any (h : FSt N w F a d room calls fail) (at' mask : Int) (s : ByteArray) (folder : Bool) (hsz : s.size <= 4294967280) :
  Calls Tryz.prog 128 #[.pointer (some ⟨F, 0, none⟩), .agg #[.int .i64 at', .int .i64 mask], .string s, .bool folder] w fun e w' =>
   e = .returned (.tuple #[plcV (goneR d at' s folder).1, .int .i64 (goneR d at' s folder).2]) ∧ Keeps NoB w w' := by
 have ks : Keeps NoB w (w.alloc (.cells #[.int .i64 at', .int .i64 mask] 43)) := (Keeps.refl _ _).alloc _
 have kz : Keeps NoB w ((w.alloc (.cells #[.int .i64 at', .int .i64 mask] 43)).alloc (.cells #[.int .i64 0, .int .i64 0, .string ⟨#[]⟩] 143)) := ks.alloc _
 have HFS := Lib.hid (h.on kz)
 have HW := Lib.hid (Bx.new (w := w) ((Keeps.refl NoB (w.alloc (.cells #[.int .i64 at', .int .i64 mask] 43))).alloc (.cells #[.int .i64 0, .int .i64 0, .string ⟨#[]⟩] 143)))
 have HR := Lib.hid (Bx.new (Keeps.refl NoB ((w.alloc (.cells #[.int .i64 at', .int .i64 mask] 43)).alloc (.cells #[.int .i64 0, .int .i64 0, .string ⟨#[]⟩] 143))))
 rw [show (w.alloc (.cells #[.int .i64 at', .int .i64 mask] 43)).heap.size = w.heap.size + 1 by simp] at HR
 have HK := Lib.hid kz
 obtain ⟨O, hO⟩ : ∃ O, goneR d at' s folder = O := ⟨_, rfl⟩
 have HOF := Lib.hid (show O = goneR d at' s folder from hO.symm)
 rw [hO]
 unfold goneR at HOF
 clear hO h ks kz
 go_enter Tryz.func128, Tryz.ntmps128
 go_upto_region 1 with fail
 generalize ((w.alloc (.cells #[.int .i64 at', .int .i64 mask] 43)).alloc (.cells #[.int .i64 0, .int .i64 0, .string ⟨#[]⟩] 143)) = wc at *
 obtain ⟨X, hX⟩ : ∃ X, thrR d at' s false = X := ⟨_, rfl⟩
 have HFi := Lib.hid (fun (w1 : World) (hk : Keeps NoB wc w1) => (HFS.out.on hk).thr at' s false hsz)
 rw [hX] at HFi HOF
 obtain ⟨⟨pn, pd, pm⟩, pe⟩ := X
 unfold plcV at HFi
 simp only at HFi HOF
 have HXp := Lib.hid hX
 clear hX
 have f0 := HFS.out.c0
 have b0 := HW.out.cell 0 _ rfl
 go_upto_region 1 with fail
 go_cut [10, 11] from 10 to 24 (fun x y wx => ∃ G : Nat, wc.heap.size <= G ∧ x = .pointer (some ⟨G, 0, none⟩) ∧ y = .int .i64 pe ∧ Bx wx G [.int .i64 pn, .int .i64 pd, .string pm] ∧ Keeps NoB wc wx)
 case first =>
  have kr := Keeps.refl NoB wc
  have krd := kr.drew
  have d0 := (HFS.out.on krd).c0
  have d1 := (HW.out.on krd).cell 0 _ rfl
  go_region_held3 (fun wz => wz.cell? ⟨F, 0, none⟩ = some (.pointer (some ⟨a, 0, none⟩)) ∧ wz.cell? ⟨w.heap.size, 0, none⟩ = some (.int .i64 at') ∧ Keeps NoB wc wz) (refine ⟨?_, ?_, ?_⟩ <;> first | with_reducible assumption | (with_reducible refine (HFS.out.on ?_).c0; (repeat (first | with_reducible assumption | (with_reducible exact Keeps.refl _ _) | (with_reducible refine Keeps.drew ?_) | (with_reducible refine Keeps.drewN ?_ _) | (with_reducible refine Keeps.alloc ?_ _) | (with_reducible refine Keeps.setCell ?_ (by first | exact Or.inl rfl | exact Or.inr (Nat.le_refl _) | exact Or.inr (by first | (simp; done) | (simp; omega))) _))); done) | (with_reducible refine (HW.out.on ?_).cell 0 _ rfl; (repeat (first | with_reducible assumption | (with_reducible exact Keeps.refl _ _) | (with_reducible refine Keeps.drew ?_) | (with_reducible refine Keeps.drewN ?_ _) | (with_reducible refine Keeps.alloc ?_ _) | (with_reducible refine Keeps.setCell ?_ (by first | exact Or.inl rfl | exact Or.inr (Nat.le_refl _) | exact Or.inr (by first | (simp; done) | (simp; omega))) _))); done) | ((repeat (first | with_reducible assumption | (with_reducible exact Keeps.refl _ _) | (with_reducible refine Keeps.drew ?_) | (with_reducible refine Keeps.drewN ?_ _) | (with_reducible refine Keeps.alloc ?_ _) | (with_reducible refine Keeps.setCell ?_ (by first | exact Or.inl rfl | exact Or.inr (Nat.le_refl _) | exact Or.inr (by first | (simp; done) | (simp; omega))) _))); done))
   (first | (go_at_call 72; refine (HFi.out _ (by (repeat (first | with_reducible assumption | (with_reducible exact Keeps.refl _ _) | (with_reducible refine Keeps.drew ?_) | (with_reducible refine Keeps.drewN ?_ _) | (with_reducible refine Keeps.alloc ?_ _) | (with_reducible refine Keeps.setCell ?_ (by first | exact Or.inl rfl | exact Or.inr (Nat.le_refl _) | exact Or.inr (by first | (simp; done) | (simp; omega))) _))))).mono ?_; rintro e w2 ⟨rfl, hk2⟩; have zky : Keeps NoB wc w2 := Keeps.trans (by (repeat (first | with_reducible assumption | (with_reducible exact Keeps.refl _ _) | (with_reducible refine Keeps.drew ?_) | (with_reducible refine Keeps.drewN ?_ _) | (with_reducible refine Keeps.alloc ?_ _) | (with_reducible refine Keeps.setCell ?_ (by first | exact Or.inl rfl | exact Or.inr (Nat.le_refl _) | exact Or.inr (by first | (simp; done) | (simp; omega))) _)))) hk2; have zs := zky.size; have z0 := (HFS.out.on zky).c0; have z1 := (HW.out.on zky).cell 0 _ rfl; (try (have yb := Bx.newD hk2; have y0 := yb.cell 0 _ rfl; have y1 := yb.cell 1 _ rfl; have y2 := yb.cell 2 _ rfl; have yf := yb.fz))))
  all_goals (go_wp2_with fail; go_meet; refine ⟨_, ?_, rfl, rfl, ?_, ?_⟩)
  all_goals first
   | exact Nat.le_refl _
   | exact zs
   | (with_reducible exact Bx.new (Keeps.refl NoB _))
   | (exact ((yb.put 0 _).put 1 _).put 2 _)
   | ((repeat (first | with_reducible assumption | (with_reducible exact Keeps.refl _ _) | (with_reducible refine Keeps.drew ?_) | (with_reducible refine Keeps.drewN ?_ _) | (with_reducible refine Keeps.alloc ?_ _) | (with_reducible refine Keeps.setCell ?_ (by first | exact Or.inl rfl | exact Or.inr (Nat.le_refl _) | exact Or.inr (by first | (simp; done) | (simp; omega))) _))); done)
   | skip
 case rest =>
  obtain ⟨HPB, hG, rfl, rfl, HP, hk1⟩ := hcut
  replace HP := Lib.hid HP
  have hPR : ¬ HPB = w.heap.size + 1 := by have := HR.out.lt; omega
  clear f0 b0 HFi hG
  replace HFS := Lib.hid (HFS.out.on hk1)
  replace HK := Lib.hid (HK.out.trans hk1.of_none)
  replace HW := Lib.hid (HW.out.on hk1)
  replace HR := Lib.hid (HR.out.on hk1)
  by_cases hz : pe ≠ 0
  ·have hb : (pe != 0) = true := by simpa using hz
   rw [if_pos hz] at HOF
   clear hz
   have r0 := HR.out.cell 0 _ rfl
   have r1 := HR.out.cell 1 _ rfl
   have r2 := HR.out.cell 2 _ rfl
   have rf := HR.out.fz
   have rl := HR.out.lt
   have kk := HK.out
   go_wp2_with fail
   (try simp only [Exit.inBlock, Exit.then])
   refine bodyPost_ret (v := .tuple #[plcV .no, .int .i64 pe]) ?_ rfl ?_
   ·rw [results_cell_tmp rfl]; unfold plcV Plc.no; go_simp
   ·refine ⟨by rw [HOF.out], ?_⟩
    (repeat (first | with_reducible assumption | (with_reducible exact Keeps.refl _ _) | (with_reducible refine Keeps.drew ?_) | (with_reducible refine Keeps.drewN ?_ _) | (with_reducible refine Keeps.alloc ?_ _) | (with_reducible refine Keeps.setCell ?_ (by first | exact Or.inl rfl | exact Or.inr (Nat.le_refl _) | exact Or.inr (by first | (simp; done) | (simp; omega))) _)))
  rw [if_neg hz] at HOF
  obtain rfl : pe = 0 := Classical.not_not.1 hz
  clear hz
  obtain ⟨ik, im, il, ih, iz, hik, him, _, hie⟩ := HFS.out.tell pn
  obtain ⟨ie, hie2⟩ : ∃ ie, (if has d pn then 0 else 12 : Int) = ie := ⟨_, rfl⟩
  have HIn := Lib.hid (fun (w1 : World) (hk : Keeps NoB wc w1) => (HFS.out.on hk).info pn)
  rw [hie, hie2] at HIn
  rw [<- hik] at HOF
  have HIk := Lib.hid hik
  have HIm := Lib.hid him
  have HIE := Lib.hid hie
  have HIE2 := Lib.hid hie2
  clear hie hie2 hik him
  have f0 := HFS.out.c0
  have b0 := HP.out.cell 0 _ rfl
  go_upto_region 4 with fail
  go_cut [12, 13] from 12 to 38 (fun x y wx => ∃ G : Nat, wc.heap.size <= G ∧ x = .pointer (some ⟨G, 0, none⟩) ∧ y = .int .i64 ie ∧ Bx wx G [.int .i64 ik, .int .i64 im, .int .i64 il, .int .i64 ih, .int .i64 iz] ∧ Keeps NoB wc wx)
  case first =>
   have kr := Keeps.refl NoB wc
   have krd := kr.drew
   have d0 := (HFS.out.on krd).c0
   have d1 := (HP.out.on krd).cell 0 _ rfl
   go_region_held3 (fun wz => wz.cell? ⟨F, 0, none⟩ = some (.pointer (some ⟨a, 0, none⟩)) ∧ wz.cell? ⟨HPB, 0, none⟩ = some (.int .i64 pn) ∧ Keeps NoB wc wz) (refine ⟨?_, ?_, ?_⟩ <;> first | with_reducible assumption | (with_reducible refine (HFS.out.on ?_).c0; (repeat (first | with_reducible assumption | (with_reducible exact Keeps.refl _ _) | (with_reducible refine Keeps.drew ?_) | (with_reducible refine Keeps.drewN ?_ _) | (with_reducible refine Keeps.alloc ?_ _) | (with_reducible refine Keeps.setCell ?_ (by first | exact Or.inl rfl | exact Or.inr (Nat.le_refl _) | exact Or.inr (by first | (simp; done) | (simp; omega))) _))); done) | (with_reducible refine (HP.out.on ?_).cell 0 _ rfl; (repeat (first | with_reducible assumption | (with_reducible exact Keeps.refl _ _) | (with_reducible refine Keeps.drew ?_) | (with_reducible refine Keeps.drewN ?_ _) | (with_reducible refine Keeps.alloc ?_ _) | (with_reducible refine Keeps.setCell ?_ (by first | exact Or.inl rfl | exact Or.inr (Nat.le_refl _) | exact Or.inr (by first | (simp; done) | (simp; omega))) _))); done) | ((repeat (first | with_reducible assumption | (with_reducible exact Keeps.refl _ _) | (with_reducible refine Keeps.drew ?_) | (with_reducible refine Keeps.drewN ?_ _) | (with_reducible refine Keeps.alloc ?_ _) | (with_reducible refine Keeps.setCell ?_ (by first | exact Or.inl rfl | exact Or.inr (Nat.le_refl _) | exact Or.inr (by first | (simp; done) | (simp; omega))) _))); done))
    (first | (go_at_call 42; refine (HIn.out _ (by (repeat (first | with_reducible assumption | (with_reducible exact Keeps.refl _ _) | (with_reducible refine Keeps.drew ?_) | (with_reducible refine Keeps.drewN ?_ _) | (with_reducible refine Keeps.alloc ?_ _) | (with_reducible refine Keeps.setCell ?_ (by first | exact Or.inl rfl | exact Or.inr (Nat.le_refl _) | exact Or.inr (by first | (simp; done) | (simp; omega))) _))))).mono ?_; rintro e w2 ⟨rfl, hk2⟩; have zky : Keeps NoB wc w2 := Keeps.trans (by (repeat (first | with_reducible assumption | (with_reducible exact Keeps.refl _ _) | (with_reducible refine Keeps.drew ?_) | (with_reducible refine Keeps.drewN ?_ _) | (with_reducible refine Keeps.alloc ?_ _) | (with_reducible refine Keeps.setCell ?_ (by first | exact Or.inl rfl | exact Or.inr (Nat.le_refl _) | exact Or.inr (by first | (simp; done) | (simp; omega))) _)))) hk2; have zs := zky.size; have z0 := (HFS.out.on zky).c0; have z1 := (HP.out.on zky).cell 0 _ rfl; (try (have yb := Bx.newD hk2; have y0 := yb.cell 0 _ rfl; have y1 := yb.cell 1 _ rfl; have y2 := yb.cell 2 _ rfl; have y3 := yb.cell 3 _ rfl; have y4 := yb.cell 4 _ rfl; have yf := yb.fz))))
   all_goals (go_wp2_with fail; go_meet; refine ⟨_, ?_, rfl, rfl, ?_, ?_⟩)
   all_goals first
    | exact Nat.le_refl _
    | exact zs
    | (with_reducible exact Bx.new (Keeps.refl NoB _))
    | (exact ((((yb.put 0 _).put 1 _).put 2 _).put 3 _).put 4 _)
    | ((repeat (first | with_reducible assumption | (with_reducible exact Keeps.refl _ _) | (with_reducible refine Keeps.drew ?_) | (with_reducible refine Keeps.drewN ?_ _) | (with_reducible refine Keeps.alloc ?_ _) | (with_reducible refine Keeps.setCell ?_ (by first | exact Or.inl rfl | exact Or.inr (Nat.le_refl _) | exact Or.inr (by first | (simp; done) | (simp; omega))) _))); done)
    | skip
  case rest =>
   obtain ⟨HIB, hG, rfl, rfl, HI, hk1⟩ := hcut
   replace HI := Lib.hid HI
   clear f0 b0 HIn hG
   replace HFS := Lib.hid (HFS.out.on hk1)
   replace HK := Lib.hid (HK.out.trans hk1.of_none)
   replace HW := Lib.hid (HW.out.on hk1)
   replace HR := Lib.hid (HR.out.on hk1)
   replace HP := Lib.hid (HP.out.on hk1)
   clear hk1
   have i0 := HI.out.cell 0 _ rfl
   have p0 := HP.out.cell 0 _ rfl
   have p1 := HP.out.cell 1 _ rfl
   have p2 := HP.out.cell 2 _ rfl
   cases folder
   ·-- folder false, kind 2: 
    by_cases hk : ik = 2
    ·have hb : (ik == 2) = true := by simpa using hk
     replace HOF := Lib.hid (show O = (.no, 15) by rw [HOF.out, if_neg (by simp), if_pos ⟨rfl, hk⟩])
     clear hk
     have r0 := HR.out.cell 0 _ rfl
     have r1 := HR.out.cell 1 _ rfl
     have r2 := HR.out.cell 2 _ rfl
     have rf := HR.out.fz
     have rl := HR.out.lt
     have kk := HK.out
     go_wp2_with fail
     (try simp only [Exit.inBlock, Exit.then])
     refine bodyPost_ret (v := .tuple #[plcV .no, .int .i64 15]) ?_ rfl ?_
     ·rw [results_cell_tmp rfl]; unfold plcV Plc.no; go_simp
     ·refine ⟨by rw [HOF.out], ?_⟩
      (repeat (first | with_reducible assumption | (with_reducible exact Keeps.refl _ _) | (with_reducible refine Keeps.drew ?_) | (with_reducible refine Keeps.drewN ?_ _) | (with_reducible refine Keeps.alloc ?_ _) | (with_reducible refine Keeps.setCell ?_ (by first | exact Or.inl rfl | exact Or.inr (Nat.le_refl _) | exact Or.inr (by first | (simp; done) | (simp; omega))) _)))
    have hb : (ik == 2) = false := by simpa using hk
    have hb2 : (ik != 2) = true := by simpa using hk
    replace HOF := Lib.hid (show O = if pm = ⟨#[]⟩ then (.no, 23) else (⟨pn, pd, pm⟩, mayE d pd 128) by rw [HOF.out, if_neg (by simp), if_neg (fun h => hk h.2)])
    clear hk
    by_cases hm : pm = ⟨#[]⟩
    ·have he := isEmpty_eq pm
     rw [decide_eq_true hm] at he
     replace HOF := Lib.hid (show O = (.no, 23) by rw [HOF.out, if_pos hm])
     clear hm
     have r0 := HR.out.cell 0 _ rfl
     have r1 := HR.out.cell 1 _ rfl
     have r2 := HR.out.cell 2 _ rfl
     have rf := HR.out.fz
     have rl := HR.out.lt
     have kk := HK.out
     go_wp2_with fail
     (try simp only [Exit.inBlock, Exit.then])
     refine bodyPost_ret (v := .tuple #[plcV .no, .int .i64 23]) ?_ rfl ?_
     ·rw [results_cell_tmp rfl]; unfold plcV Plc.no; go_simp
     ·refine ⟨by rw [HOF.out], ?_⟩
      (repeat (first | with_reducible assumption | (with_reducible exact Keeps.refl _ _) | (with_reducible refine Keeps.drew ?_) | (with_reducible refine Keeps.drewN ?_ _) | (with_reducible refine Keeps.alloc ?_ _) | (with_reducible refine Keeps.setCell ?_ (by first | exact Or.inl rfl | exact Or.inr (Nat.le_refl _) | exact Or.inr (by first | (simp; done) | (simp; omega))) _)))
    have he := isEmpty_eq pm
    rw [decide_eq_false hm] at he
    replace HOF := Lib.hid (show O = (⟨pn, pd, pm⟩, mayE d pd 128) by rw [HOF.out, if_neg hm])
    clear hm
    have HMs := Lib.hid (fun (wx : World) (k : Keeps NoB wc wx) => may_any (HFS.out.on k) pd 128 (by decide))
    have hgs := Lib.hid (fun (wx : World) (k : Keeps NoB wc wx) => (⟨(HP.out.on k).cell 0 _ rfl, (HP.out.on k).cell 1 _ rfl, (HP.out.on k).cell 2 _ rfl, (HR.out.on k).cell 0 _ rfl, (HR.out.on k).cell 1 _ rfl, (HR.out.on k).cell 2 _ rfl, (HR.out.on k).fz⟩ :
     wx.cell? ⟨HPB, 0, none⟩ = some (.int .i64 pn) ∧ wx.cell? ⟨HPB, 1, none⟩ = some (.int .i64 pd) ∧ wx.cell? ⟨HPB, 2, none⟩ = some (.string pm) ∧ wx.cell? ⟨w.heap.size + 1, 0, none⟩ = some (.int .i64 0) ∧ wx.cell? ⟨w.heap.size + 1, 1, none⟩ = some (.int .i64 0) ∧ wx.cell? ⟨w.heap.size + 1, 2, none⟩ = some (.string ⟨#[]⟩) ∧ ∀ j, wx.frozen? ⟨w.heap.size + 1, j, none⟩ = false))
    have kc := Keeps.refl NoB wc
    have r0 := HR.out.cell 0 _ rfl
    have r1 := HR.out.cell 1 _ rfl
    have r2 := HR.out.cell 2 _ rfl
    have rf := HR.out.fz
    have rl := HR.out.lt
    have pl := HP.out.lt
    have kz := HK.out
    go_upto_region 11 with fail
    go_region_with (go_at_call 133; refine (HMs.out _ (by (repeat (first | with_reducible assumption | (with_reducible exact Keeps.refl _ _) | (with_reducible refine Keeps.drew ?_) | (with_reducible refine Keeps.drewN ?_ _) | (with_reducible refine Keeps.alloc ?_ _) | (with_reducible refine Keeps.setCell ?_ (by first | exact Or.inl rfl | exact Or.inr (Nat.le_refl _) | exact Or.inr (by first | (simp; done) | (simp; omega))) _))))).mono ?_; rintro e w2 ⟨rfl, hk2⟩; obtain ⟨z0, z1, z2, x0, x1, x2, xf⟩ := hgs.out w2 (Keeps.trans (by (repeat (first | with_reducible assumption | (with_reducible exact Keeps.refl _ _) | (with_reducible refine Keeps.drew ?_) | (with_reducible refine Keeps.drewN ?_ _) | (with_reducible refine Keeps.alloc ?_ _) | (with_reducible refine Keeps.setCell ?_ (by first | exact Or.inl rfl | exact Or.inr (Nat.le_refl _) | exact Or.inr (by first | (simp; done) | (simp; omega))) _)))) hk2))
    all_goals
     replace kz := kz.trans (Keeps.trans (by (repeat (first | with_reducible assumption | (with_reducible exact Keeps.refl _ _) | (with_reducible refine Keeps.drew ?_) | (with_reducible refine Keeps.drewN ?_ _) | (with_reducible refine Keeps.alloc ?_ _) | (with_reducible refine Keeps.setCell ?_ (by first | exact Or.inl rfl | exact Or.inr (Nat.le_refl _) | exact Or.inr (by first | (simp; done) | (simp; omega))) _)))) hk2)
     go_wp2_with fail
     (try simp only [Exit.inBlock, Exit.then])
     refine bodyPost_ret (v := .tuple #[plcV ⟨pn, pd, pm⟩, .int .i64 (mayE d pd 128)]) ?_ rfl ?_
     ·rw [results_cell_tmp rfl]; unfold plcV; go_simp
     ·refine ⟨by rw [HOF.out], ?_⟩
      (repeat (first | with_reducible assumption | (with_reducible exact Keeps.refl _ _) | (with_reducible refine Keeps.drew ?_) | (with_reducible refine Keeps.drewN ?_ _) | (with_reducible refine Keeps.alloc ?_ _) | (with_reducible refine Keeps.setCell ?_ (by first | exact Or.inl rfl | exact Or.inr (Nat.le_refl _) | exact Or.inr (by first | (simp; done) | (simp; omega))) _)))
   ·-- folder true, kind 2: 
    by_cases hk : ik = 2
    ·have hb : (ik == 2) = true := by simpa using hk
     have hb2 : (ik != 2) = false := by simpa using hk
     replace HOF := Lib.hid (show O = if pm = ⟨#[]⟩ then (.no, 23) else (⟨pn, pd, pm⟩, mayE d pd 128) by rw [HOF.out, if_neg (fun h => h.2 hk), if_neg (by simp)])
     clear hk
     by_cases hm : pm = ⟨#[]⟩
     ·have he := isEmpty_eq pm
      rw [decide_eq_true hm] at he
      replace HOF := Lib.hid (show O = (.no, 23) by rw [HOF.out, if_pos hm])
      clear hm
      have r0 := HR.out.cell 0 _ rfl
      have r1 := HR.out.cell 1 _ rfl
      have r2 := HR.out.cell 2 _ rfl
      have rf := HR.out.fz
      have rl := HR.out.lt
      have kk := HK.out
      go_wp2_with fail
      (try simp only [Exit.inBlock, Exit.then])
      refine bodyPost_ret (v := .tuple #[plcV .no, .int .i64 23]) ?_ rfl ?_
      ·rw [results_cell_tmp rfl]; unfold plcV Plc.no; go_simp
      ·refine ⟨by rw [HOF.out], ?_⟩
       (repeat (first | with_reducible assumption | (with_reducible exact Keeps.refl _ _) | (with_reducible refine Keeps.drew ?_) | (with_reducible refine Keeps.drewN ?_ _) | (with_reducible refine Keeps.alloc ?_ _) | (with_reducible refine Keeps.setCell ?_ (by first | exact Or.inl rfl | exact Or.inr (Nat.le_refl _) | exact Or.inr (by first | (simp; done) | (simp; omega))) _)))
     have he := isEmpty_eq pm
     rw [decide_eq_false hm] at he
     replace HOF := Lib.hid (show O = (⟨pn, pd, pm⟩, mayE d pd 128) by rw [HOF.out, if_neg hm])
     clear hm
     have HMs := Lib.hid (fun (wx : World) (k : Keeps NoB wc wx) => may_any (HFS.out.on k) pd 128 (by decide))
     have hgs := Lib.hid (fun (wx : World) (k : Keeps NoB wc wx) => (⟨(HP.out.on k).cell 0 _ rfl, (HP.out.on k).cell 1 _ rfl, (HP.out.on k).cell 2 _ rfl, (HR.out.on k).cell 0 _ rfl, (HR.out.on k).cell 1 _ rfl, (HR.out.on k).cell 2 _ rfl, (HR.out.on k).fz⟩ :
      wx.cell? ⟨HPB, 0, none⟩ = some (.int .i64 pn) ∧ wx.cell? ⟨HPB, 1, none⟩ = some (.int .i64 pd) ∧ wx.cell? ⟨HPB, 2, none⟩ = some (.string pm) ∧ wx.cell? ⟨w.heap.size + 1, 0, none⟩ = some (.int .i64 0) ∧ wx.cell? ⟨w.heap.size + 1, 1, none⟩ = some (.int .i64 0) ∧ wx.cell? ⟨w.heap.size + 1, 2, none⟩ = some (.string ⟨#[]⟩) ∧ ∀ j, wx.frozen? ⟨w.heap.size + 1, j, none⟩ = false))
     have kc := Keeps.refl NoB wc
     have r0 := HR.out.cell 0 _ rfl
     have r1 := HR.out.cell 1 _ rfl
     have r2 := HR.out.cell 2 _ rfl
     have rf := HR.out.fz
     have rl := HR.out.lt
     have pl := HP.out.lt
     have kz := HK.out
     go_upto_region 11 with fail
     go_region_with (go_at_call 133; refine (HMs.out _ (by (repeat (first | with_reducible assumption | (with_reducible exact Keeps.refl _ _) | (with_reducible refine Keeps.drew ?_) | (with_reducible refine Keeps.drewN ?_ _) | (with_reducible refine Keeps.alloc ?_ _) | (with_reducible refine Keeps.setCell ?_ (by first | exact Or.inl rfl | exact Or.inr (Nat.le_refl _) | exact Or.inr (by first | (simp; done) | (simp; omega))) _))))).mono ?_; rintro e w2 ⟨rfl, hk2⟩; obtain ⟨z0, z1, z2, x0, x1, x2, xf⟩ := hgs.out w2 (Keeps.trans (by (repeat (first | with_reducible assumption | (with_reducible exact Keeps.refl _ _) | (with_reducible refine Keeps.drew ?_) | (with_reducible refine Keeps.drewN ?_ _) | (with_reducible refine Keeps.alloc ?_ _) | (with_reducible refine Keeps.setCell ?_ (by first | exact Or.inl rfl | exact Or.inr (Nat.le_refl _) | exact Or.inr (by first | (simp; done) | (simp; omega))) _)))) hk2))
     all_goals
      replace kz := kz.trans (Keeps.trans (by (repeat (first | with_reducible assumption | (with_reducible exact Keeps.refl _ _) | (with_reducible refine Keeps.drew ?_) | (with_reducible refine Keeps.drewN ?_ _) | (with_reducible refine Keeps.alloc ?_ _) | (with_reducible refine Keeps.setCell ?_ (by first | exact Or.inl rfl | exact Or.inr (Nat.le_refl _) | exact Or.inr (by first | (simp; done) | (simp; omega))) _)))) hk2)
      go_wp2_with fail
      (try simp only [Exit.inBlock, Exit.then])
      refine bodyPost_ret (v := .tuple #[plcV ⟨pn, pd, pm⟩, .int .i64 (mayE d pd 128)]) ?_ rfl ?_
      ·rw [results_cell_tmp rfl]; unfold plcV; go_simp
      ·refine ⟨by rw [HOF.out], ?_⟩
       (repeat (first | with_reducible assumption | (with_reducible exact Keeps.refl _ _) | (with_reducible refine Keeps.drew ?_) | (with_reducible refine Keeps.drewN ?_ _) | (with_reducible refine Keeps.alloc ?_ _) | (with_reducible refine Keeps.setCell ?_ (by first | exact Or.inl rfl | exact Or.inr (Nat.le_refl _) | exact Or.inr (by first | (simp; done) | (simp; omega))) _)))
    have hb : (ik != 2) = true := by simpa using hk
    replace HOF := Lib.hid (show O = (.no, 14) by rw [HOF.out, if_pos ⟨rfl, hk⟩])
    clear hk
    have r0 := HR.out.cell 0 _ rfl
    have r1 := HR.out.cell 1 _ rfl
    have r2 := HR.out.cell 2 _ rfl
    have rf := HR.out.fz
    have rl := HR.out.lt
    have kk := HK.out
    go_wp2_with fail
    (try simp only [Exit.inBlock, Exit.then])
    refine bodyPost_ret (v := .tuple #[plcV .no, .int .i64 14]) ?_ rfl ?_
    ·rw [results_cell_tmp rfl]; unfold plcV Plc.no; go_simp
    ·refine ⟨by rw [HOF.out], ?_⟩
     (repeat (first | with_reducible assumption | (with_reducible exact Keeps.refl _ _) | (with_reducible refine Keeps.drew ?_) | (with_reducible refine Keeps.drewN ?_ _) | (with_reducible refine Keeps.alloc ?_ _) | (with_reducible refine Keeps.setCell ?_ (by first | exact Or.inl rfl | exact Or.inr (Nat.le_refl _) | exact Or.inr (by first | (simp; done) | (simp; omega))) _)))
end
end Go.Proofs.YtijbhmledmnifaaGreatDoor
