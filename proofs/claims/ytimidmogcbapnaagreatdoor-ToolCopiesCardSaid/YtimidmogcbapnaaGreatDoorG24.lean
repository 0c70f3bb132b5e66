/-
  Layer 6: contracts of files: Rename. (Printed by genfiles.py.)
-/
import Derived.Test.YtimidmogcbapnaaGreatDoorG16

set_option linter.unusedSimpArgs false
set_option linter.unusedVariables false
set_option maxRecDepth 100000
set_option maxHeartbeats 4000000
namespace Go.Proofs.YtimidmogcbapnaaGreatDoor
open Go Go.RowKit
section
variable {N : Nat -> Prop} {w w' : World} {F a : Nat} {d d' : Nds} {room calls fail : Int}
theorem rename_any (h : FSt N w F a d room calls fail) (hc0 : 0 <= calls) (hc1 : calls <= 4611686018427387904) (at' mask : Int) (s b : ByteArray) (hsz : s.size <= 4294967280) (hszb : b.size <= 4294967280) :
 Calls Tryz.prog 73 #[.pointer (some ⟨F, 0, none⟩), .agg #[.int .i64 at', .int .i64 mask], .string s, .string b] w
  (FTo N w F a (orFail calls fail d (renR d room at' s b)).1 room (calls + 1) fail (.int .i64 (orFail calls fail d (renR d room at' s b)).2)) := by
 have kz0 : Keeps NoB w (w.alloc (.cells #[.int .i64 at', .int .i64 mask] 28)) := (Keeps.refl _ _).alloc _
 obtain ⟨N1, hsub, hnew, FS⟩ := h.wider kz0
 have HW := Lib.hid (Bx.new (Keeps.refl NoB (w.alloc (.cells #[.int .i64 at', .int .i64 mask] 28))))
 have HNW := Lib.hid (hnew w.heap.size (Nat.le_refl _) (by simp))
 have HK := Lib.hid (kz0.of_none (F := fun g => ¬ N g))
 have HSub := Lib.hid hsub
 clear hsub hnew h kz0
 have HC := Lib.hid (call_any FS hc0 hc1)
 obtain ⟨ce, hce⟩ : ∃ ce, callE calls fail = ce := ⟨_, rfl⟩
 obtain ⟨O, hO⟩ : ∃ O, orFail calls fail d (renR d room at' s b) = O := ⟨_, rfl⟩
 have HOF := Lib.hid (show O = if ce ≠ 0 then (d, ce) else renR d room at' s b by rw [<- hO]; unfold orFail; rw [hce])
 rw [hO]
 clear hO
 rw [hce] at HC
 clear hce FS hc0 hc1
 go_enter Tryz.func73, Tryz.ntmps73
 go_upto_region 1 with fail
 generalize w.alloc (.cells #[.int .i64 at', .int .i64 mask] 28) = w0 at *
 generalize w.heap.size = W at *
 go_upto_region 2 with (go_at_call 20; go_loud (refine HC.out.mono ?_); rintro e wc ⟨rfl, FS, k1⟩; replace HW := Lib.hid (HW.out.keep k1 (fun hh => hh HNW.out)); replace HK := Lib.hid (HK.out.trans (k1.mono (fun g _ hg hN => hg (HSub.out g hN)))))
 have HFS := Lib.hid FS
 clear HC k1 FS
 by_cases hz : ce ≠ 0
 ·have hb : (ce != 0) = true := by simpa using hz
  rw [if_pos hz] at HOF
  clear hz
  go_wp2_with fail
  go_ret
  exact ⟨ret_i64 (by rw [HOF.out]), (by rw [HOF.out]; exact HFS.out.less HSub.out), HK.out⟩
 rw [if_neg hz] at HOF
 obtain rfl : ce = 0 := Classical.not_not.1 hz
 clear hz
 unfold renR at HOF
 obtain ⟨X, hX⟩ : ∃ X, thrR d at' s false = X := ⟨_, rfl⟩
 have HFi := Lib.hid (fun (w1 : World) (hk : Keeps NoB wc w1) => (HFS.out.on hk).thr at' s false hsz)
 rw [hX] at HFi HOF
 obtain ⟨⟨pn, pd, pm⟩, pe⟩ := X
 unfold plcV at HFi
 simp only at HFi HOF
 have HXp := Lib.hid hX
 clear hX
 have f0 := HFS.out.c0
 have b0 := HW.out.cell 0 _ rfl
 go_upto_region 4 with fail
 go_cut [10, 11] from 10 to 32 (fun x y wx => ∃ G : Nat, wc.heap.size <= G ∧ x = .pointer (some ⟨G, 0, none⟩) ∧ y = .int .i64 pe ∧ Bx wx G [.int .i64 pn, .int .i64 pd, .string pm] ∧ Keeps NoB wc wx)
 case first =>
  have kr := Keeps.refl NoB wc
  have krd := kr.drew
  have d0 := (HFS.out.on krd).c0
  have d1 := (HW.out.on krd).cell 0 _ rfl
  go_region_held3 (fun wz => wz.cell? ⟨F, 0, none⟩ = some (.pointer (some ⟨a, 0, none⟩)) ∧ wz.cell? ⟨W, 0, none⟩ = some (.int .i64 at') ∧ Keeps NoB wc wz) (refine ⟨?_, ?_, ?_⟩ <;> first | with_reducible assumption | (with_reducible refine (HFS.out.on ?_).c0; (repeat (first | with_reducible assumption | (with_reducible exact Keeps.refl _ _) | (with_reducible refine Keeps.drew ?_) | (with_reducible refine Keeps.drewN ?_ _) | (with_reducible refine Keeps.alloc ?_ _) | (with_reducible refine Keeps.setCell ?_ (by first | exact Or.inl rfl | exact Or.inr (Nat.le_refl _) | exact Or.inr (by first | (simp; done) | (simp; omega))) _))); done) | (with_reducible refine (HW.out.on ?_).cell 0 _ rfl; (repeat (first | with_reducible assumption | (with_reducible exact Keeps.refl _ _) | (with_reducible refine Keeps.drew ?_) | (with_reducible refine Keeps.drewN ?_ _) | (with_reducible refine Keeps.alloc ?_ _) | (with_reducible refine Keeps.setCell ?_ (by first | exact Or.inl rfl | exact Or.inr (Nat.le_refl _) | exact Or.inr (by first | (simp; done) | (simp; omega))) _))); done) | ((repeat (first | with_reducible assumption | (with_reducible exact Keeps.refl _ _) | (with_reducible refine Keeps.drew ?_) | (with_reducible refine Keeps.drewN ?_ _) | (with_reducible refine Keeps.alloc ?_ _) | (with_reducible refine Keeps.setCell ?_ (by first | exact Or.inl rfl | exact Or.inr (Nat.le_refl _) | exact Or.inr (by first | (simp; done) | (simp; omega))) _))); done))
   (first | (go_at_call 26; refine (HFi.out _ (by (repeat (first | with_reducible assumption | (with_reducible exact Keeps.refl _ _) | (with_reducible refine Keeps.drew ?_) | (with_reducible refine Keeps.drewN ?_ _) | (with_reducible refine Keeps.alloc ?_ _) | (with_reducible refine Keeps.setCell ?_ (by first | exact Or.inl rfl | exact Or.inr (Nat.le_refl _) | exact Or.inr (by first | (simp; done) | (simp; omega))) _))))).mono ?_; rintro e w2 ⟨rfl, hk2⟩; have zky : Keeps NoB wc w2 := Keeps.trans (by (repeat (first | with_reducible assumption | (with_reducible exact Keeps.refl _ _) | (with_reducible refine Keeps.drew ?_) | (with_reducible refine Keeps.drewN ?_ _) | (with_reducible refine Keeps.alloc ?_ _) | (with_reducible refine Keeps.setCell ?_ (by first | exact Or.inl rfl | exact Or.inr (Nat.le_refl _) | exact Or.inr (by first | (simp; done) | (simp; omega))) _)))) hk2; have zs := zky.size; have z0 := (HFS.out.on zky).c0; have z1 := (HW.out.on zky).cell 0 _ rfl; (try (have yb := Bx.newD hk2; have y0 := yb.cell 0 _ rfl; have y1 := yb.cell 1 _ rfl; have y2 := yb.cell 2 _ rfl; have yf := yb.fz))))
  all_goals (go_wp2_with fail; go_meet; refine ⟨_, ?_, rfl, rfl, ?_, ?_⟩)
  all_goals first
   | exact Nat.le_refl _
   | exact zs
   | (with_reducible exact Bx.new (Keeps.refl NoB _))
   | (exact ((yb.put 0 _).put 1 _).put 2 _)
   | ((repeat (first | with_reducible assumption | (with_reducible exact Keeps.refl _ _) | (with_reducible refine Keeps.drew ?_) | (with_reducible refine Keeps.drewN ?_ _) | (with_reducible refine Keeps.alloc ?_ _) | (with_reducible refine Keeps.setCell ?_ (by first | exact Or.inl rfl | exact Or.inr (Nat.le_refl _) | exact Or.inr (by first | (simp; done) | (simp; omega))) _))); done)
   | skip
 case rest =>
  obtain ⟨HPB, hG, rfl, rfl, HP, hk1⟩ := hcut
  replace HP := Lib.hid HP
  clear f0 b0 HFi hG
  replace HFS := Lib.hid (HFS.out.on hk1)
  replace HK := Lib.hid (HK.out.trans hk1.of_none)
  replace HW := Lib.hid (HW.out.on hk1)
  by_cases hz : pe ≠ 0
  ·have hb : (pe != 0) = true := by simpa using hz
   rw [if_pos hz] at HOF
   clear hz
   go_wp2_with fail
   go_ret
   exact ⟨ret_i64 (by rw [HOF.out]), (by rw [HOF.out]; exact HFS.out.less HSub.out), HK.out⟩
  rw [if_neg hz] at HOF
  obtain rfl : pe = 0 := Classical.not_not.1 hz
  clear hz
  obtain ⟨X, hX⟩ : ∃ X, fndR d at' b false = X := ⟨_, rfl⟩
  have HFi := Lib.hid (fun (w1 : World) (hk : Keeps NoB wc w1) => (HFS.out.on hk).fnd at' b false hszb)
  rw [hX] at HFi HOF
  obtain ⟨⟨qn, qd, qm⟩, qe⟩ := X
  unfold plcV at HFi
  simp only at HFi HOF
  have HXq := Lib.hid hX
  clear hX
  have f0 := HFS.out.c0
  have b0 := HW.out.cell 0 _ rfl
  go_upto_region 7 with fail
  go_cut [12, 11] from 11 to 46 (fun x y wx => ∃ G : Nat, wc.heap.size <= G ∧ x = .pointer (some ⟨G, 0, none⟩) ∧ y = .int .i64 qe ∧ Bx wx G [.int .i64 qn, .int .i64 qd, .string qm] ∧ Keeps NoB wc wx)
  case first =>
   have kr := Keeps.refl NoB wc
   have krd := kr.drew
   have d0 := (HFS.out.on krd).c0
   have d1 := (HW.out.on krd).cell 0 _ rfl
   go_region_held3 (fun wz => wz.cell? ⟨F, 0, none⟩ = some (.pointer (some ⟨a, 0, none⟩)) ∧ wz.cell? ⟨W, 0, none⟩ = some (.int .i64 at') ∧ Keeps NoB wc wz) (refine ⟨?_, ?_, ?_⟩ <;> first | with_reducible assumption | (with_reducible refine (HFS.out.on ?_).c0; (repeat (first | with_reducible assumption | (with_reducible exact Keeps.refl _ _) | (with_reducible refine Keeps.drew ?_) | (with_reducible refine Keeps.drewN ?_ _) | (with_reducible refine Keeps.alloc ?_ _) | (with_reducible refine Keeps.setCell ?_ (by first | exact Or.inl rfl | exact Or.inr (Nat.le_refl _) | exact Or.inr (by first | (simp; done) | (simp; omega))) _))); done) | (with_reducible refine (HW.out.on ?_).cell 0 _ rfl; (repeat (first | with_reducible assumption | (with_reducible exact Keeps.refl _ _) | (with_reducible refine Keeps.drew ?_) | (with_reducible refine Keeps.drewN ?_ _) | (with_reducible refine Keeps.alloc ?_ _) | (with_reducible refine Keeps.setCell ?_ (by first | exact Or.inl rfl | exact Or.inr (Nat.le_refl _) | exact Or.inr (by first | (simp; done) | (simp; omega))) _))); done) | ((repeat (first | with_reducible assumption | (with_reducible exact Keeps.refl _ _) | (with_reducible refine Keeps.drew ?_) | (with_reducible refine Keeps.drewN ?_ _) | (with_reducible refine Keeps.alloc ?_ _) | (with_reducible refine Keeps.setCell ?_ (by first | exact Or.inl rfl | exact Or.inr (Nat.le_refl _) | exact Or.inr (by first | (simp; done) | (simp; omega))) _))); done))
    (first | (go_at_call 21; refine (HFi.out _ (by (repeat (first | with_reducible assumption | (with_reducible exact Keeps.refl _ _) | (with_reducible refine Keeps.drew ?_) | (with_reducible refine Keeps.drewN ?_ _) | (with_reducible refine Keeps.alloc ?_ _) | (with_reducible refine Keeps.setCell ?_ (by first | exact Or.inl rfl | exact Or.inr (Nat.le_refl _) | exact Or.inr (by first | (simp; done) | (simp; omega))) _))))).mono ?_; rintro e w2 ⟨rfl, hk2⟩; have zky : Keeps NoB wc w2 := Keeps.trans (by (repeat (first | with_reducible assumption | (with_reducible exact Keeps.refl _ _) | (with_reducible refine Keeps.drew ?_) | (with_reducible refine Keeps.drewN ?_ _) | (with_reducible refine Keeps.alloc ?_ _) | (with_reducible refine Keeps.setCell ?_ (by first | exact Or.inl rfl | exact Or.inr (Nat.le_refl _) | exact Or.inr (by first | (simp; done) | (simp; omega))) _)))) hk2; have zs := zky.size; have z0 := (HFS.out.on zky).c0; have z1 := (HW.out.on zky).cell 0 _ rfl; (try (have yb := Bx.newD hk2; have y0 := yb.cell 0 _ rfl; have y1 := yb.cell 1 _ rfl; have y2 := yb.cell 2 _ rfl; have yf := yb.fz))))
   all_goals (go_wp2_with fail; go_meet; refine ⟨_, ?_, rfl, rfl, ?_, ?_⟩)
   all_goals first
    | exact Nat.le_refl _
    | exact zs
    | (with_reducible exact Bx.new (Keeps.refl NoB _))
    | (exact ((yb.put 0 _).put 1 _).put 2 _)
    | ((repeat (first | with_reducible assumption | (with_reducible exact Keeps.refl _ _) | (with_reducible refine Keeps.drew ?_) | (with_reducible refine Keeps.drewN ?_ _) | (with_reducible refine Keeps.alloc ?_ _) | (with_reducible refine Keeps.setCell ?_ (by first | exact Or.inl rfl | exact Or.inr (Nat.le_refl _) | exact Or.inr (by first | (simp; done) | (simp; omega))) _))); done)
    | skip
  case rest =>
   obtain ⟨HQB, hG, rfl, rfl, HQ, hk1⟩ := hcut
   replace HQ := Lib.hid HQ
   clear f0 b0 HFi hG
   replace HFS := Lib.hid (HFS.out.on hk1)
   replace HK := Lib.hid (HK.out.trans hk1.of_none)
   replace HW := Lib.hid (HW.out.on hk1)
   replace HP := Lib.hid (HP.out.on hk1)
   by_cases hz : qe ≠ 0
   ·have hb : (qe != 0) = true := by simpa using hz
    rw [if_pos hz] at HOF
    clear hz
    go_wp2_with fail
    go_ret
    exact ⟨ret_i64 (by rw [HOF.out]), (by rw [HOF.out]; exact HFS.out.less HSub.out), HK.out⟩
   rw [if_neg hz] at HOF
   obtain rfl : qe = 0 := Classical.not_not.1 hz
   clear hz
   obtain ⟨ik, im, il, ih, iz, hik, him, _, hie⟩ := HFS.out.tell pn
   obtain ⟨ie, hie2⟩ : ∃ ie, (if has d pn then 0 else 12 : Int) = ie := ⟨_, rfl⟩
   have HIn := Lib.hid (fun (w1 : World) (hk : Keeps NoB wc w1) => (HFS.out.on hk).info pn)
   rw [hie, hie2] at HIn
   rw [<- hik] at HOF
   have HIk := Lib.hid hik
   have HIm := Lib.hid him
   have HIE := Lib.hid hie
   have HIE2 := Lib.hid hie2
   clear hie hie2 hik him
   have f0 := HFS.out.c0
   have b0 := HP.out.cell 0 _ rfl
   go_upto_region 10 with fail
   go_cut [13, 14] from 13 to 59 (fun x y wx => ∃ G : Nat, wc.heap.size <= G ∧ x = .pointer (some ⟨G, 0, none⟩) ∧ y = .int .i64 ie ∧ Bx wx G [.int .i64 ik, .int .i64 im, .int .i64 il, .int .i64 ih, .int .i64 iz] ∧ Keeps NoB wc wx)
   case first =>
    have kr := Keeps.refl NoB wc
    have krd := kr.drew
    have d0 := (HFS.out.on krd).c0
    have d1 := (HP.out.on krd).cell 0 _ rfl
    go_region_held3 (fun wz => wz.cell? ⟨F, 0, none⟩ = some (.pointer (some ⟨a, 0, none⟩)) ∧ wz.cell? ⟨HPB, 0, none⟩ = some (.int .i64 pn) ∧ Keeps NoB wc wz) (refine ⟨?_, ?_, ?_⟩ <;> first | with_reducible assumption | (with_reducible refine (HFS.out.on ?_).c0; (repeat (first | with_reducible assumption | (with_reducible exact Keeps.refl _ _) | (with_reducible refine Keeps.drew ?_) | (with_reducible refine Keeps.drewN ?_ _) | (with_reducible refine Keeps.alloc ?_ _) | (with_reducible refine Keeps.setCell ?_ (by first | exact Or.inl rfl | exact Or.inr (Nat.le_refl _) | exact Or.inr (by first | (simp; done) | (simp; omega))) _))); done) | (with_reducible refine (HP.out.on ?_).cell 0 _ rfl; (repeat (first | with_reducible assumption | (with_reducible exact Keeps.refl _ _) | (with_reducible refine Keeps.drew ?_) | (with_reducible refine Keeps.drewN ?_ _) | (with_reducible refine Keeps.alloc ?_ _) | (with_reducible refine Keeps.setCell ?_ (by first | exact Or.inl rfl | exact Or.inr (Nat.le_refl _) | exact Or.inr (by first | (simp; done) | (simp; omega))) _))); done) | ((repeat (first | with_reducible assumption | (with_reducible exact Keeps.refl _ _) | (with_reducible refine Keeps.drew ?_) | (with_reducible refine Keeps.drewN ?_ _) | (with_reducible refine Keeps.alloc ?_ _) | (with_reducible refine Keeps.setCell ?_ (by first | exact Or.inl rfl | exact Or.inr (Nat.le_refl _) | exact Or.inr (by first | (simp; done) | (simp; omega))) _))); done))
     (first | (go_at_call 37; refine (HIn.out _ (by (repeat (first | with_reducible assumption | (with_reducible exact Keeps.refl _ _) | (with_reducible refine Keeps.drew ?_) | (with_reducible refine Keeps.drewN ?_ _) | (with_reducible refine Keeps.alloc ?_ _) | (with_reducible refine Keeps.setCell ?_ (by first | exact Or.inl rfl | exact Or.inr (Nat.le_refl _) | exact Or.inr (by first | (simp; done) | (simp; omega))) _))))).mono ?_; rintro e w2 ⟨rfl, hk2⟩; have zky : Keeps NoB wc w2 := Keeps.trans (by (repeat (first | with_reducible assumption | (with_reducible exact Keeps.refl _ _) | (with_reducible refine Keeps.drew ?_) | (with_reducible refine Keeps.drewN ?_ _) | (with_reducible refine Keeps.alloc ?_ _) | (with_reducible refine Keeps.setCell ?_ (by first | exact Or.inl rfl | exact Or.inr (Nat.le_refl _) | exact Or.inr (by first | (simp; done) | (simp; omega))) _)))) hk2; have zs := zky.size; have z0 := (HFS.out.on zky).c0; have z1 := (HP.out.on zky).cell 0 _ rfl; (try (have yb := Bx.newD hk2; have y0 := yb.cell 0 _ rfl; have y1 := yb.cell 1 _ rfl; have y2 := yb.cell 2 _ rfl; have y3 := yb.cell 3 _ rfl; have y4 := yb.cell 4 _ rfl; have yf := yb.fz))))
    all_goals (go_wp2_with fail; go_meet; refine ⟨_, ?_, rfl, rfl, ?_, ?_⟩)
    all_goals first
     | exact Nat.le_refl _
     | exact zs
     | (with_reducible exact Bx.new (Keeps.refl NoB _))
     | (exact ((((yb.put 0 _).put 1 _).put 2 _).put 3 _).put 4 _)
     | ((repeat (first | with_reducible assumption | (with_reducible exact Keeps.refl _ _) | (with_reducible refine Keeps.drew ?_) | (with_reducible refine Keeps.drewN ?_ _) | (with_reducible refine Keeps.alloc ?_ _) | (with_reducible refine Keeps.setCell ?_ (by first | exact Or.inl rfl | exact Or.inr (Nat.le_refl _) | exact Or.inr (by first | (simp; done) | (simp; omega))) _))); done)
     | skip
   case rest =>
    obtain ⟨HIB, hG, rfl, rfl, HI, hk1⟩ := hcut
    replace HI := Lib.hid HI
    clear f0 b0 HIn hG
    replace HFS := Lib.hid (HFS.out.on hk1)
    replace HK := Lib.hid (HK.out.trans hk1.of_none)
    replace HW := Lib.hid (HW.out.on hk1)
    replace HP := Lib.hid (HP.out.on hk1)
    replace HQ := Lib.hid (HQ.out.on hk1)
    clear hk1
    have i0 := HI.out.cell 0 _ rfl
    have p1 := HP.out.cell 1 _ rfl
    have p2 := HP.out.cell 2 _ rfl
    have q0 := HQ.out.cell 0 _ rfl
    have q1 := HQ.out.cell 1 _ rfl
    have q2 := HQ.out.cell 2 _ rfl
    have HSZ := Lib.hid (show qm.size <= 4294967296 by have := fndR_size d at' b false; rw [HXq.out] at this; exact Nat.le_trans this (by decide))
    have hep := isEmpty_eq pm
    by_cases p0 : pm = ⟨#[]⟩
    ·rw [decide_eq_true p0] at hep
     replace HOF := Lib.hid (show O = (d, 23) by rw [HOF.out, if_pos (.inl p0)])
     clear p0
     go_wp2_with fail
     go_ret
     exact ⟨ret_i64 (by rw [HOF.out]), (by rw [HOF.out]; exact HFS.out.less HSub.out), HK.out⟩
    rw [decide_eq_false p0] at hep
    have heq := isEmpty_eq qm
    by_cases c0 : qm = ⟨#[]⟩
    ·rw [decide_eq_true c0] at heq
     replace HOF := Lib.hid (show O = (d, 23) by rw [HOF.out, if_pos (.inr c0)])
     clear p0 c0
     go_wp2_with fail
     go_ret
     exact ⟨ret_i64 (by rw [HOF.out]), (by rw [HOF.out]; exact HFS.out.less HSub.out), HK.out⟩
    rw [decide_eq_false c0] at heq
    rw [if_neg (fun x => x.elim p0 c0)] at HOF
    clear p0 c0
    have HSS := Lib.hid (fun wx : World => hs1 b wx (Nat.le_trans hszb (by decide)))
    have hn0 : (qn == 0) = decide (qn = 0) := by rw [Bool.eq_iff_iff]; simp
    have hi2 : (ik != 2) = decide (ik ≠ 2) := by rw [Bool.eq_iff_iff]; simp
    by_cases hz : qn = 0 ∧ endS b = true ∧ ik ≠ 2
    ·rw [decide_eq_true hz.1] at hn0
     rw [decide_eq_true hz.2.2] at hi2
     rw [hz.2.1] at HSS
     rw [if_pos hz] at HOF
     clear hz
     go_wp2_with (go_at_call 45; refine (HSS.out _).mono ?_; rintro e w' ⟨rfl, rfl⟩)
     go_ret
     exact ⟨ret_i64 (by rw [HOF.out]), (by rw [HOF.out]; exact HFS.out.less HSub.out), HK.out⟩
    rw [if_neg hz] at HOF
    have HM1 := Lib.hid (fun (wx : World) (k : Keeps NoB wc wx) => may_any (HFS.out.on k) pd 128 (by decide))
    have HM2 := Lib.hid (fun (wx : World) (k : Keeps NoB wc wx) => may_any (HFS.out.on k) qd 128 (by decide))
    have HML := Lib.hid (fun (wx : World) (k : Keeps NoB wc wx) => (HFS.out.on k).prog2 fun R hR => moveD_any hR pd pm qd qm (HSZ.out))
    have HP12 := Lib.hid (fun (wx : World) (k : Keeps NoB wc wx) => (⟨(HFS.out.on k).c0, (HP.out.on k).cell 1 _ rfl, (HP.out.on k).cell 2 _ rfl, (HQ.out.on k).cell 1 _ rfl, (HQ.out.on k).cell 2 _ rfl⟩ :
     wx.cell? ⟨F, 0, none⟩ = some (.pointer (some ⟨a, 0, none⟩)) ∧ wx.cell? ⟨HPB, 1, none⟩ = some (.int .i64 pd) ∧ wx.cell? ⟨HPB, 2, none⟩ = some (.string pm) ∧ wx.cell? ⟨HQB, 1, none⟩ = some (.int .i64 qd) ∧ wx.cell? ⟨HQB, 2, none⟩ = some (.string qm)))
    obtain ⟨m1, hm1⟩ : ∃ m1, mayE d pd 128 = m1 := ⟨_, rfl⟩
    obtain ⟨m2, hm2⟩ : ∃ m2, mayE d qd 128 = m2 := ⟨_, rfl⟩
    simp only [show ((128 : Nat) : Int) = 128 from rfl, hm1] at HM1
    simp only [show ((128 : Nat) : Int) = 128 from rfl, hm2] at HM2
    rw [hm1, hm2] at HOF
    have hcs : qn ≠ 0 ∨ (qn = 0 ∧ endS b = false) ∨ (qn = 0 ∧ endS b = true ∧ ik = 2) := by
     by_cases x1 : qn = 0
     ·right
      by_cases x2 : endS b = true
      ·right; exact ⟨x1, x2, Classical.not_not.1 (fun x3 => hz ⟨x1, x2, x3⟩)⟩
      ·left; exact ⟨x1, by simpa using x2⟩
     ·left; exact x1
    clear hz hm1 hm2 HXp HXq HIk HIm HI HW
    rcases hcs with x1 | ⟨x1, x2⟩ | ⟨x1, x2, x3⟩
    ·rw [decide_eq_false x1] at hn0
     clear x1
     by_cases z1 : m1 ≠ 0
     ·have hb1 : (m1 != 0) = true := by simpa using z1
      rw [if_pos z1] at HOF
      clear z1
      go_wp2_with (first | (go_at_call 45; refine (HSS.out _).mono ?_; rintro e w' ⟨rfl, rfl⟩) | (go_at_call 50; go_loud (refine (HM1.out _ (Keeps.refl _ _)).mono ?_); rintro e w2 ⟨rfl, hk2⟩; obtain ⟨g0, g1, g2, g3, g4⟩ := HP12.out _ hk2; clear p1 p2 q0 q1 q2; clear HM1) | (go_at_call 50; go_loud (refine (HM2.out _ hk2).mono ?_); rintro e w3 ⟨rfl, hk3⟩; obtain ⟨l0, l1, l2, l3, l4⟩ := HP12.out _ (hk2.trans hk3); clear g0 g1 g2 g3 g4; clear HM2))
      go_ret
      exact ⟨ret_i64 (by rw [HOF.out]), (by rw [HOF.out]; exact (HFS.out.on hk2).less HSub.out), HK.out.trans hk2.of_none⟩
     rw [if_neg z1] at HOF
     obtain rfl : m1 = 0 := Classical.not_not.1 z1
     clear z1
     by_cases z2 : m2 ≠ 0
     ·have hb1 : (m2 != 0) = true := by simpa using z2
      rw [if_pos z2] at HOF
      clear z2
      go_wp2_with (first | (go_at_call 45; refine (HSS.out _).mono ?_; rintro e w' ⟨rfl, rfl⟩) | (go_at_call 50; go_loud (refine (HM1.out _ (Keeps.refl _ _)).mono ?_); rintro e w2 ⟨rfl, hk2⟩; obtain ⟨g0, g1, g2, g3, g4⟩ := HP12.out _ hk2; clear p1 p2 q0 q1 q2; clear HM1) | (go_at_call 50; go_loud (refine (HM2.out _ hk2).mono ?_); rintro e w3 ⟨rfl, hk3⟩; obtain ⟨l0, l1, l2, l3, l4⟩ := HP12.out _ (hk2.trans hk3); clear g0 g1 g2 g3 g4; clear HM2))
      go_ret
      exact ⟨ret_i64 (by rw [HOF.out]), (by rw [HOF.out]; exact (HFS.out.on (hk2.trans hk3)).less HSub.out), HK.out.trans (hk2.trans hk3).of_none⟩
     rw [if_neg z2] at HOF
     obtain rfl : m2 = 0 := Classical.not_not.1 z2
     clear z2
     go_upto_region 21 with (first | (go_at_call 45; refine (HSS.out _).mono ?_; rintro e w' ⟨rfl, rfl⟩) | (go_at_call 50; go_loud (refine (HM1.out _ (Keeps.refl _ _)).mono ?_); rintro e w2 ⟨rfl, hk2⟩; obtain ⟨g0, g1, g2, g3, g4⟩ := HP12.out _ hk2; clear p1 p2 q0 q1 q2; clear HM1) | (go_at_call 50; go_loud (refine (HM2.out _ hk2).mono ?_); rintro e w3 ⟨rfl, hk3⟩; obtain ⟨l0, l1, l2, l3, l4⟩ := HP12.out _ (hk2.trans hk3); clear g0 g1 g2 g3 g4; clear HM2))
     have HL := Lib.hid (HML.out _ (hk2.trans hk3).drew)
     rw [show moveD d room pd pm qd qm = (O : Nds × Int).1 by rw [HOF.out] <;> rfl, show moveErr d room pd pm qd qm = (O : Nds × Int).2 by rw [HOF.out] <;> rfl] at HL
     have hkz := HK.out.trans (hk2.trans hk3).drew.of_none
     clear HML HP12 hk2 hk3
     go_still_tail 12, (by kernel_rfl)
     change wpList _ _ _ _ _ w3.drew
     generalize w3.drew = wd at *
     go_wp2_with (go_at_call 107; go_loud (refine HL.out.mono ?_); rintro e w5 ⟨rfl, FS5, k5⟩)
     go_ret
     exact ⟨rfl, FS5.less HSub.out, hkz.trans (k5.mono (fun g _ hg hN => hg (HSub.out g hN)))⟩
    ·rw [decide_eq_true x1] at hn0
     rw [x2] at HSS
     clear x1 x2
     by_cases z1 : m1 ≠ 0
     ·have hb1 : (m1 != 0) = true := by simpa using z1
      rw [if_pos z1] at HOF
      clear z1
      go_wp2_with (first | (go_at_call 45; refine (HSS.out _).mono ?_; rintro e w' ⟨rfl, rfl⟩) | (go_at_call 50; go_loud (refine (HM1.out _ (Keeps.refl _ _)).mono ?_); rintro e w2 ⟨rfl, hk2⟩; obtain ⟨g0, g1, g2, g3, g4⟩ := HP12.out _ hk2; clear p1 p2 q0 q1 q2; clear HM1) | (go_at_call 50; go_loud (refine (HM2.out _ hk2).mono ?_); rintro e w3 ⟨rfl, hk3⟩; obtain ⟨l0, l1, l2, l3, l4⟩ := HP12.out _ (hk2.trans hk3); clear g0 g1 g2 g3 g4; clear HM2))
      go_ret
      exact ⟨ret_i64 (by rw [HOF.out]), (by rw [HOF.out]; exact (HFS.out.on hk2).less HSub.out), HK.out.trans hk2.of_none⟩
     rw [if_neg z1] at HOF
     obtain rfl : m1 = 0 := Classical.not_not.1 z1
     clear z1
     by_cases z2 : m2 ≠ 0
     ·have hb1 : (m2 != 0) = true := by simpa using z2
      rw [if_pos z2] at HOF
      clear z2
      go_wp2_with (first | (go_at_call 45; refine (HSS.out _).mono ?_; rintro e w' ⟨rfl, rfl⟩) | (go_at_call 50; go_loud (refine (HM1.out _ (Keeps.refl _ _)).mono ?_); rintro e w2 ⟨rfl, hk2⟩; obtain ⟨g0, g1, g2, g3, g4⟩ := HP12.out _ hk2; clear p1 p2 q0 q1 q2; clear HM1) | (go_at_call 50; go_loud (refine (HM2.out _ hk2).mono ?_); rintro e w3 ⟨rfl, hk3⟩; obtain ⟨l0, l1, l2, l3, l4⟩ := HP12.out _ (hk2.trans hk3); clear g0 g1 g2 g3 g4; clear HM2))
      go_ret
      exact ⟨ret_i64 (by rw [HOF.out]), (by rw [HOF.out]; exact (HFS.out.on (hk2.trans hk3)).less HSub.out), HK.out.trans (hk2.trans hk3).of_none⟩
     rw [if_neg z2] at HOF
     obtain rfl : m2 = 0 := Classical.not_not.1 z2
     clear z2
     go_upto_region 21 with (first | (go_at_call 45; refine (HSS.out _).mono ?_; rintro e w' ⟨rfl, rfl⟩) | (go_at_call 50; go_loud (refine (HM1.out _ (Keeps.refl _ _)).mono ?_); rintro e w2 ⟨rfl, hk2⟩; obtain ⟨g0, g1, g2, g3, g4⟩ := HP12.out _ hk2; clear p1 p2 q0 q1 q2; clear HM1) | (go_at_call 50; go_loud (refine (HM2.out _ hk2).mono ?_); rintro e w3 ⟨rfl, hk3⟩; obtain ⟨l0, l1, l2, l3, l4⟩ := HP12.out _ (hk2.trans hk3); clear g0 g1 g2 g3 g4; clear HM2))
     have HL := Lib.hid (HML.out _ (hk2.trans hk3).drew)
     rw [show moveD d room pd pm qd qm = (O : Nds × Int).1 by rw [HOF.out] <;> rfl, show moveErr d room pd pm qd qm = (O : Nds × Int).2 by rw [HOF.out] <;> rfl] at HL
     have hkz := HK.out.trans (hk2.trans hk3).drew.of_none
     clear HML HP12 hk2 hk3
     go_still_tail 12, (by kernel_rfl)
     change wpList _ _ _ _ _ w3.drew
     generalize w3.drew = wd at *
     go_wp2_with (go_at_call 107; go_loud (refine HL.out.mono ?_); rintro e w5 ⟨rfl, FS5, k5⟩)
     go_ret
     exact ⟨rfl, FS5.less HSub.out, hkz.trans (k5.mono (fun g _ hg hN => hg (HSub.out g hN)))⟩
    ·rw [decide_eq_true x1] at hn0
     rw [x2] at HSS
     rw [decide_eq_false (by simpa using x3)] at hi2
     clear x1 x2 x3
     by_cases z1 : m1 ≠ 0
     ·have hb1 : (m1 != 0) = true := by simpa using z1
      rw [if_pos z1] at HOF
      clear z1
      go_wp2_with (first | (go_at_call 45; refine (HSS.out _).mono ?_; rintro e w' ⟨rfl, rfl⟩) | (go_at_call 50; go_loud (refine (HM1.out _ (Keeps.refl _ _)).mono ?_); rintro e w2 ⟨rfl, hk2⟩; obtain ⟨g0, g1, g2, g3, g4⟩ := HP12.out _ hk2; clear p1 p2 q0 q1 q2; clear HM1) | (go_at_call 50; go_loud (refine (HM2.out _ hk2).mono ?_); rintro e w3 ⟨rfl, hk3⟩; obtain ⟨l0, l1, l2, l3, l4⟩ := HP12.out _ (hk2.trans hk3); clear g0 g1 g2 g3 g4; clear HM2))
      go_ret
      exact ⟨ret_i64 (by rw [HOF.out]), (by rw [HOF.out]; exact (HFS.out.on hk2).less HSub.out), HK.out.trans hk2.of_none⟩
     rw [if_neg z1] at HOF
     obtain rfl : m1 = 0 := Classical.not_not.1 z1
     clear z1
     by_cases z2 : m2 ≠ 0
     ·have hb1 : (m2 != 0) = true := by simpa using z2
      rw [if_pos z2] at HOF
      clear z2
      go_wp2_with (first | (go_at_call 45; refine (HSS.out _).mono ?_; rintro e w' ⟨rfl, rfl⟩) | (go_at_call 50; go_loud (refine (HM1.out _ (Keeps.refl _ _)).mono ?_); rintro e w2 ⟨rfl, hk2⟩; obtain ⟨g0, g1, g2, g3, g4⟩ := HP12.out _ hk2; clear p1 p2 q0 q1 q2; clear HM1) | (go_at_call 50; go_loud (refine (HM2.out _ hk2).mono ?_); rintro e w3 ⟨rfl, hk3⟩; obtain ⟨l0, l1, l2, l3, l4⟩ := HP12.out _ (hk2.trans hk3); clear g0 g1 g2 g3 g4; clear HM2))
      go_ret
      exact ⟨ret_i64 (by rw [HOF.out]), (by rw [HOF.out]; exact (HFS.out.on (hk2.trans hk3)).less HSub.out), HK.out.trans (hk2.trans hk3).of_none⟩
     rw [if_neg z2] at HOF
     obtain rfl : m2 = 0 := Classical.not_not.1 z2
     clear z2
     go_upto_region 21 with (first | (go_at_call 45; refine (HSS.out _).mono ?_; rintro e w' ⟨rfl, rfl⟩) | (go_at_call 50; go_loud (refine (HM1.out _ (Keeps.refl _ _)).mono ?_); rintro e w2 ⟨rfl, hk2⟩; obtain ⟨g0, g1, g2, g3, g4⟩ := HP12.out _ hk2; clear p1 p2 q0 q1 q2; clear HM1) | (go_at_call 50; go_loud (refine (HM2.out _ hk2).mono ?_); rintro e w3 ⟨rfl, hk3⟩; obtain ⟨l0, l1, l2, l3, l4⟩ := HP12.out _ (hk2.trans hk3); clear g0 g1 g2 g3 g4; clear HM2))
     have HL := Lib.hid (HML.out _ (hk2.trans hk3).drew)
     rw [show moveD d room pd pm qd qm = (O : Nds × Int).1 by rw [HOF.out] <;> rfl, show moveErr d room pd pm qd qm = (O : Nds × Int).2 by rw [HOF.out] <;> rfl] at HL
     have hkz := HK.out.trans (hk2.trans hk3).drew.of_none
     clear HML HP12 hk2 hk3
     go_still_tail 12, (by kernel_rfl)
     change wpList _ _ _ _ _ w3.drew
     generalize w3.drew = wd at *
     go_wp2_with (go_at_call 107; go_loud (refine HL.out.mono ?_); rintro e w5 ⟨rfl, FS5, k5⟩)
     go_ret
     exact ⟨rfl, FS5.less HSub.out, hkz.trans (k5.mono (fun g _ hg hN => hg (HSub.out g hN)))⟩
end
end Go.Proofs.YtimidmogcbapnaaGreatDoor
