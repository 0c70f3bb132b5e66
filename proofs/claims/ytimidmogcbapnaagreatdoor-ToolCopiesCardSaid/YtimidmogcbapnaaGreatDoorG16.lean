/-
  Layer 6: contracts of files: Chmod, Rmdir, Unlink. (Printed by genfiles.py.)
-/
import Derived.Test.YtimidmogcbapnaaGreatDoorG14
import Derived.Deep.RegionHeld3

set_option linter.unusedSimpArgs false
set_option linter.unusedVariables false
set_option maxRecDepth 100000
set_option maxHeartbeats 4000000
namespace Go.Proofs.YtimidmogcbapnaaGreatDoor
open Go Go.RowKit
section
variable {N : Nat -> Prop} {w w' : World} {F a : Nat} {d d' : Nds} {room calls fail : Int}
theorem chmod_anyF (h : FSt N w F a d room calls fail) (hc0 : 0 <= calls) (hc1 : calls <= 4611686018427387904) (at' mask : Int) (s : ByteArray) (m : Int) (hsz : s.size <= 4294967280) :
 Calls Tryz.prog 10 #[.pointer (some ⟨F, 0, none⟩), .agg #[.int .i64 at', .int .i64 mask], .string s, .int .i64 m] w
  (FTo N w F a (orFail calls fail d (chmR d at' s m)).1 room (calls + 1) fail (.int .i64 (orFail calls fail d (chmR d at' s m)).2)) := by
 have kz0 : Keeps NoB w (w.alloc (.cells #[.int .i64 at', .int .i64 mask] 28)) := (Keeps.refl _ _).alloc _
 obtain ⟨N1, hsub, hnew, FS⟩ := h.wider kz0
 have HW := Lib.hid (Bx.new (Keeps.refl NoB (w.alloc (.cells #[.int .i64 at', .int .i64 mask] 28))))
 have HNW := Lib.hid (hnew w.heap.size (Nat.le_refl _) (by simp))
 have HK := Lib.hid (kz0.of_none (F := fun g => ¬ N g))
 have HSub := Lib.hid hsub
 clear hsub hnew h kz0
 have HC := Lib.hid (call_any FS hc0 hc1)
 obtain ⟨ce, hce⟩ : ∃ ce, callE calls fail = ce := ⟨_, rfl⟩
 obtain ⟨O, hO⟩ : ∃ O, orFail calls fail d (chmR d at' s m) = O := ⟨_, rfl⟩
 have HOF := Lib.hid (show O = if ce ≠ 0 then (d, ce) else chmR d at' s m by rw [<- hO]; unfold orFail; rw [hce])
 rw [hO]
 clear hO
 rw [hce] at HC
 clear hce FS hc0 hc1
 go_enter Tryz.func10, Tryz.ntmps10
 go_upto_region 1 with fail
 generalize w.alloc (.cells #[.int .i64 at', .int .i64 mask] 28) = w0 at *
 generalize w.heap.size = W at *
 go_upto_region 2 with (go_at_call 20; go_loud (refine HC.out.mono ?_); rintro e wc ⟨rfl, FS, k1⟩; replace HW := Lib.hid (HW.out.keep k1 (fun hh => hh HNW.out)); replace HK := Lib.hid (HK.out.trans (k1.mono (fun g _ hg hN => hg (HSub.out g hN)))))
 have HFS := Lib.hid FS
 clear HC k1 FS
 by_cases hz : ce ≠ 0
 ·have hb : (ce != 0) = true := by simpa using hz
  rw [if_pos hz] at HOF
  clear hz
  go_wp2_with fail
  go_ret
  exact ⟨ret_i64 (by rw [HOF.out]), (by rw [HOF.out]; exact HFS.out.less HSub.out), HK.out⟩
 rw [if_neg hz] at HOF
 obtain rfl : ce = 0 := Classical.not_not.1 hz
 clear hz
 unfold chmR at HOF
 obtain ⟨X, hX⟩ : ∃ X, thrR d at' s true = X := ⟨_, rfl⟩
 have HFi := Lib.hid (fun (w1 : World) (hk : Keeps NoB wc w1) => (HFS.out.on hk).thr at' s true hsz)
 rw [hX] at HFi HOF
 obtain ⟨⟨pn, pd, pm⟩, pe⟩ := X
 unfold plcV at HFi
 simp only at HFi HOF
 have HXp := Lib.hid hX
 clear hX
 have f0 := HFS.out.c0
 have b0 := HW.out.cell 0 _ rfl
 go_upto_region 4 with fail
 go_cut [10, 11] from 10 to 27 (fun x y wx => ∃ G : Nat, wc.heap.size <= G ∧ x = .pointer (some ⟨G, 0, none⟩) ∧ y = .int .i64 pe ∧ Bx wx G [.int .i64 pn, .int .i64 pd, .string pm] ∧ Keeps NoB wc wx)
 case first =>
  have kr := Keeps.refl NoB wc
  have krd := kr.drew
  have d0 := (HFS.out.on krd).c0
  have d1 := (HW.out.on krd).cell 0 _ rfl
  go_region_held3 (fun wz => wz.cell? ⟨F, 0, none⟩ = some (.pointer (some ⟨a, 0, none⟩)) ∧ wz.cell? ⟨W, 0, none⟩ = some (.int .i64 at') ∧ Keeps NoB wc wz) (refine ⟨?_, ?_, ?_⟩ <;> first | with_reducible assumption | (with_reducible refine (HFS.out.on ?_).c0; (repeat (first | with_reducible assumption | (with_reducible exact Keeps.refl _ _) | (with_reducible refine Keeps.drew ?_) | (with_reducible refine Keeps.drewN ?_ _) | (with_reducible refine Keeps.alloc ?_ _) | (with_reducible refine Keeps.setCell ?_ (by first | exact Or.inl rfl | exact Or.inr (Nat.le_refl _) | exact Or.inr (by first | (simp; done) | (simp; omega))) _))); done) | (with_reducible refine (HW.out.on ?_).cell 0 _ rfl; (repeat (first | with_reducible assumption | (with_reducible exact Keeps.refl _ _) | (with_reducible refine Keeps.drew ?_) | (with_reducible refine Keeps.drewN ?_ _) | (with_reducible refine Keeps.alloc ?_ _) | (with_reducible refine Keeps.setCell ?_ (by first | exact Or.inl rfl | exact Or.inr (Nat.le_refl _) | exact Or.inr (by first | (simp; done) | (simp; omega))) _))); done) | ((repeat (first | with_reducible assumption | (with_reducible exact Keeps.refl _ _) | (with_reducible refine Keeps.drew ?_) | (with_reducible refine Keeps.drewN ?_ _) | (with_reducible refine Keeps.alloc ?_ _) | (with_reducible refine Keeps.setCell ?_ (by first | exact Or.inl rfl | exact Or.inr (Nat.le_refl _) | exact Or.inr (by first | (simp; done) | (simp; omega))) _))); done))
   (first | (go_at_call 26; refine (HFi.out _ (by (repeat (first | with_reducible assumption | (with_reducible exact Keeps.refl _ _) | (with_reducible refine Keeps.drew ?_) | (with_reducible refine Keeps.drewN ?_ _) | (with_reducible refine Keeps.alloc ?_ _) | (with_reducible refine Keeps.setCell ?_ (by first | exact Or.inl rfl | exact Or.inr (Nat.le_refl _) | exact Or.inr (by first | (simp; done) | (simp; omega))) _))))).mono ?_; rintro e w2 ⟨rfl, hk2⟩; have zky : Keeps NoB wc w2 := Keeps.trans (by (repeat (first | with_reducible assumption | (with_reducible exact Keeps.refl _ _) | (with_reducible refine Keeps.drew ?_) | (with_reducible refine Keeps.drewN ?_ _) | (with_reducible refine Keeps.alloc ?_ _) | (with_reducible refine Keeps.setCell ?_ (by first | exact Or.inl rfl | exact Or.inr (Nat.le_refl _) | exact Or.inr (by first | (simp; done) | (simp; omega))) _)))) hk2; have zs := zky.size; have z0 := (HFS.out.on zky).c0; have z1 := (HW.out.on zky).cell 0 _ rfl; (try (have yb := Bx.newD hk2; have y0 := yb.cell 0 _ rfl; have y1 := yb.cell 1 _ rfl; have y2 := yb.cell 2 _ rfl; have yf := yb.fz))))
  all_goals (go_wp2_with fail; go_meet; refine ⟨_, ?_, rfl, rfl, ?_, ?_⟩)
  all_goals first
   | exact Nat.le_refl _
   | exact zs
   | (with_reducible exact Bx.new (Keeps.refl NoB _))
   | (exact ((yb.put 0 _).put 1 _).put 2 _)
   | ((repeat (first | with_reducible assumption | (with_reducible exact Keeps.refl _ _) | (with_reducible refine Keeps.drew ?_) | (with_reducible refine Keeps.drewN ?_ _) | (with_reducible refine Keeps.alloc ?_ _) | (with_reducible refine Keeps.setCell ?_ (by first | exact Or.inl rfl | exact Or.inr (Nat.le_refl _) | exact Or.inr (by first | (simp; done) | (simp; omega))) _))); done)
   | skip
 case rest =>
  obtain ⟨HPB, hG, rfl, rfl, HP, hk1⟩ := hcut
  replace HP := Lib.hid HP
  clear f0 b0 HFi hG
  replace HFS := Lib.hid (HFS.out.on hk1)
  replace HK := Lib.hid (HK.out.trans hk1.of_none)
  replace HW := Lib.hid (HW.out.on hk1)
  by_cases hz : pe ≠ 0
  ·have hb : (pe != 0) = true := by simpa using hz
   rw [if_pos hz] at HOF
   clear hz
   go_wp2_with fail
   go_ret
   exact ⟨ret_i64 (by rw [HOF.out]), (by rw [HOF.out]; exact HFS.out.less HSub.out), HK.out⟩
  rw [if_neg hz] at HOF
  obtain rfl : pe = 0 := Classical.not_not.1 hz
  clear hz
  have f0 := HFS.out.c0
  have b0 := HP.out.cell 0 _ rfl
  have HL := Lib.hid ((HFS.out.on (Keeps.refl NoB wc).drew).prog2 fun R hR => chmodD_any hR pn m)
  rw [show (if chmodErr d pn m = 0 then chmodTo d pn m else d) = (O : Nds × Int).1 by rw [HOF.out] <;> rfl, show chmodErr d pn m = (O : Nds × Int).2 by rw [HOF.out] <;> rfl] at HL
  go_upto_region 7 with fail
  go_still_tail 7, (by kernel_rfl)
  change wpList _ _ _ _ _ wc.drew
  replace HK : Hid (Keeps (fun g => ¬ N g) w wc.drew) := HK.out.drew
  generalize wc.drew = wd at *
  go_wp2_with (go_at_call 27; go_loud (refine HL.out.mono ?_); rintro e w5 ⟨rfl, FS5, k5⟩)
  go_ret
  exact ⟨rfl, FS5.less HSub.out, HK.out.trans (k5.mono (fun g _ hg hN => hg (HSub.out g hN)))⟩
end
end Go.Proofs.YtimidmogcbapnaaGreatDoor
