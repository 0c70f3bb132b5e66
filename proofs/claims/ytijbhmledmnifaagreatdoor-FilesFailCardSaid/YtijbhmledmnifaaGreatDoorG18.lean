/-
 Layer 6: contracts of files: Chmod, Rmdir, Unlink. (Printed by genfiles.py.)
-/
import Derived.Test.YtijbhmledmnifaaGreatDoorG17
import Derived.Test.YtijbhmledmnifaaGreatDoorG16
import Derived.Test.YtijbhmledmnifaaGreatDoorG01

set_option linter.unusedSimpArgs false
set_option linter.unusedVariables false
set_option maxRecDepth 100000
set_option maxHeartbeats 4000000
namespace Go.Proofs.YtijbhmledmnifaaGreatDoor
open Go Go.RowKit
section
variable {N : Nat -> Prop} {w w' : World} {F a : Nat} {d d' : Nds} {room calls fail : Int}
theorem chmod_anyF (h : FSt N w F a d room calls fail) (hc0 : 0 <= calls) (hc1 : calls <= 4611686018427387904) (at' mask : Int) (s : ByteArray) (m : Int) (hsz : s.size <= 4294967280) :
  Calls Tryz.prog 47 #[.pointer (some ⟨F, 0, none⟩), .agg #[.int .i64 at', .int .i64 mask], .string s, .int .i64 m] w
   (FTo N w F a (orFail calls fail d (chmR d at' s m)).1 room (calls + 1) fail (.int .i64 (orFail calls fail d (chmR d at' s m)).2)) := by
 have kz0 : Keeps NoB w (w.alloc (.cells #[.int .i64 at', .int .i64 mask] 43)) := (Keeps.refl _ _).alloc _
 obtain ⟨N1, hsub, hnew, FS⟩ := h.wider kz0
 have HW := Lib.hid (Bx.new (Keeps.refl NoB (w.alloc (.cells #[.int .i64 at', .int .i64 mask] 43))))
 have HNW := Lib.hid (hnew w.heap.size (Nat.le_refl _) (by simp))
 have HK := Lib.hid (kz0.of_none (F := fun g => ¬ N g))
 have HSub := Lib.hid hsub
 clear hsub hnew h kz0
 have HC := Lib.hid (call_any FS hc0 hc1)
 obtain ⟨ce, hce⟩ : ∃ ce, callE calls fail = ce := ⟨_, rfl⟩
 obtain ⟨O, hO⟩ : ∃ O, orFail calls fail d (chmR d at' s m) = O := ⟨_, rfl⟩
 have HOF := Lib.hid (show O = if ce ≠ 0 then (d, ce) else chmR d at' s m by rw [<- hO]; unfold orFail; rw [hce])
 rw [hO]
 clear hO
 rw [hce] at HC
 clear hce FS hc0 hc1
 go_enter Tryz.func47, Tryz.ntmps47
 go_upto_region 1 with fail
 generalize w.alloc (.cells #[.int .i64 at', .int .i64 mask] 43) = w0 at *
 generalize w.heap.size = W at *
 go_upto_region 2 with (go_at_call 100; go_loud (refine HC.out.mono ?_); rintro e wc ⟨rfl, FS, k1⟩; replace HW := Lib.hid (HW.out.keep k1 (fun hh => hh HNW.out)); replace HK := Lib.hid (HK.out.trans (k1.mono (fun g _ hg hN => hg (HSub.out g hN)))))
 have HFS := Lib.hid FS
 clear HC k1 FS
 by_cases hz : ce ≠ 0
 ·have hb : (ce != 0) = true := by simpa using hz
  rw [if_pos hz] at HOF
  clear hz
  go_wp2_with fail
  go_ret
  exact ⟨ret_i64 (by rw [HOF.out]), (by rw [HOF.out]; exact HFS.out.less HSub.out), HK.out⟩
 rw [if_neg hz] at HOF
 obtain rfl : ce = 0 := Classical.not_not.1 hz
 clear hz
 unfold chmR at HOF
 obtain ⟨X, hX⟩ : ∃ X, thrR d at' s true = X := ⟨_, rfl⟩
 have HFi := Lib.hid (fun (w1 : World) (hk : Keeps NoB wc w1) => (HFS.out.on hk).thr at' s true hsz)
 rw [hX] at HFi HOF
 obtain ⟨⟨pn, pd, pm⟩, pe⟩ := X
 unfold plcV at HFi
 simp only at HFi HOF
 have HXp := Lib.hid hX
 clear hX
 have f0 := HFS.out.c0
 have b0 := HW.out.cell 0 _ rfl
 go_upto_region 4 with fail
 go_cut [10, 11] from 10 to 27 (fun x y wx => ∃ G : Nat, wc.heap.size <= G ∧ x = .pointer (some ⟨G, 0, none⟩) ∧ y = .int .i64 pe ∧ Bx wx G [.int .i64 pn, .int .i64 pd, .string pm] ∧ Keeps NoB wc wx)
 case first =>
  have kr := Keeps.refl NoB wc
  have krd := kr.drew
  have d0 := (HFS.out.on krd).c0
  have d1 := (HW.out.on krd).cell 0 _ rfl
  go_region_held3 (fun wz => wz.cell? ⟨F, 0, none⟩ = some (.pointer (some ⟨a, 0, none⟩)) ∧ wz.cell? ⟨W, 0, none⟩ = some (.int .i64 at') ∧ Keeps NoB wc wz) (refine ⟨?_, ?_, ?_⟩ <;> first | with_reducible assumption | (with_reducible refine (HFS.out.on ?_).c0; (repeat (first | with_reducible assumption | (with_reducible exact Keeps.refl _ _) | (with_reducible refine Keeps.drew ?_) | (with_reducible refine Keeps.drewN ?_ _) | (with_reducible refine Keeps.alloc ?_ _) | (with_reducible refine Keeps.setCell ?_ (by first | exact Or.inl rfl | exact Or.inr (Nat.le_refl _) | exact Or.inr (by first | (simp; done) | (simp; omega))) _))); done) | (with_reducible refine (HW.out.on ?_).cell 0 _ rfl; (repeat (first | with_reducible assumption | (with_reducible exact Keeps.refl _ _) | (with_reducible refine Keeps.drew ?_) | (with_reducible refine Keeps.drewN ?_ _) | (with_reducible refine Keeps.alloc ?_ _) | (with_reducible refine Keeps.setCell ?_ (by first | exact Or.inl rfl | exact Or.inr (Nat.le_refl _) | exact Or.inr (by first | (simp; done) | (simp; omega))) _))); done) | ((repeat (first | with_reducible assumption | (with_reducible exact Keeps.refl _ _) | (with_reducible refine Keeps.drew ?_) | (with_reducible refine Keeps.drewN ?_ _) | (with_reducible refine Keeps.alloc ?_ _) | (with_reducible refine Keeps.setCell ?_ (by first | exact Or.inl rfl | exact Or.inr (Nat.le_refl _) | exact Or.inr (by first | (simp; done) | (simp; omega))) _))); done))
   (first | (go_at_call 72; refine (HFi.out _ (by (repeat (first | with_reducible assumption | (with_reducible exact Keeps.refl _ _) | (with_reducible refine Keeps.drew ?_) | (with_reducible refine Keeps.drewN ?_ _) | (with_reducible refine Keeps.alloc ?_ _) | (with_reducible refine Keeps.setCell ?_ (by first | exact Or.inl rfl | exact Or.inr (Nat.le_refl _) | exact Or.inr (by first | (simp; done) | (simp; omega))) _))))).mono ?_; rintro e w2 ⟨rfl, hk2⟩; have zky : Keeps NoB wc w2 := Keeps.trans (by (repeat (first | with_reducible assumption | (with_reducible exact Keeps.refl _ _) | (with_reducible refine Keeps.drew ?_) | (with_reducible refine Keeps.drewN ?_ _) | (with_reducible refine Keeps.alloc ?_ _) | (with_reducible refine Keeps.setCell ?_ (by first | exact Or.inl rfl | exact Or.inr (Nat.le_refl _) | exact Or.inr (by first | (simp; done) | (simp; omega))) _)))) hk2; have zs := zky.size; have z0 := (HFS.out.on zky).c0; have z1 := (HW.out.on zky).cell 0 _ rfl; (try (have yb := Bx.newD hk2; have y0 := yb.cell 0 _ rfl; have y1 := yb.cell 1 _ rfl; have y2 := yb.cell 2 _ rfl; have yf := yb.fz))))
  all_goals (go_wp2_with fail; go_meet; refine ⟨_, ?_, rfl, rfl, ?_, ?_⟩)
  all_goals first
   | exact Nat.le_refl _
   | exact zs
   | (with_reducible exact Bx.new (Keeps.refl NoB _))
   | (exact ((yb.put 0 _).put 1 _).put 2 _)
   | ((repeat (first | with_reducible assumption | (with_reducible exact Keeps.refl _ _) | (with_reducible refine Keeps.drew ?_) | (with_reducible refine Keeps.drewN ?_ _) | (with_reducible refine Keeps.alloc ?_ _) | (with_reducible refine Keeps.setCell ?_ (by first | exact Or.inl rfl | exact Or.inr (Nat.le_refl _) | exact Or.inr (by first | (simp; done) | (simp; omega))) _))); done)
   | skip
 case rest =>
  obtain ⟨HPB, hG, rfl, rfl, HP, hk1⟩ := hcut
  replace HP := Lib.hid HP
  clear f0 b0 HFi hG
  replace HFS := Lib.hid (HFS.out.on hk1)
  replace HK := Lib.hid (HK.out.trans hk1.of_none)
  replace HW := Lib.hid (HW.out.on hk1)
  by_cases hz : pe ≠ 0
  ·have hb : (pe != 0) = true := by simpa using hz
   rw [if_pos hz] at HOF
   clear hz
   go_wp2_with fail
   go_ret
   exact ⟨ret_i64 (by rw [HOF.out]), (by rw [HOF.out]; exact HFS.out.less HSub.out), HK.out⟩
  rw [if_neg hz] at HOF
  obtain rfl : pe = 0 := Classical.not_not.1 hz
  clear hz
  have f0 := HFS.out.c0
  have b0 := HP.out.cell 0 _ rfl
  have HL := Lib.hid ((HFS.out.on (Keeps.refl NoB wc).drew).prog2 fun R hR => chmodD_any hR pn m)
  rw [show (if chmodErr d pn m = 0 then chmodTo d pn m else d) = (O : Nds × Int).1 by rw [HOF.out] <;> rfl, show chmodErr d pn m = (O : Nds × Int).2 by rw [HOF.out] <;> rfl] at HL
  go_upto_region 7 with fail
  go_still_tail 7, (by kernel_rfl)
  change wpList _ _ _ _ _ wc.drew
  replace HK : Hid (Keeps (fun g => ¬ N g) w wc.drew) := HK.out.drew
  generalize wc.drew = wd at *
  go_wp2_with (go_at_call 109; go_loud (refine HL.out.mono ?_); rintro e w5 ⟨rfl, FS5, k5⟩)
  go_ret
  exact ⟨rfl, FS5.less HSub.out, HK.out.trans (k5.mono (fun g _ hg hN => hg (HSub.out g hN)))⟩
theorem rmdir_any (h : FSt N w F a d room calls fail) (hc0 : 0 <= calls) (hc1 : calls <= 4611686018427387904) (at' mask : Int) (s : ByteArray) (hsz : s.size <= 4294967280) :
  Calls Tryz.prog 61 #[.pointer (some ⟨F, 0, none⟩), .agg #[.int .i64 at', .int .i64 mask], .string s] w
   (FTo N w F a (orFail calls fail d (remR d at' s true)).1 room (calls + 1) fail (.int .i64 (orFail calls fail d (remR d at' s true)).2)) := by
 have kz0 : Keeps NoB w (w.alloc (.cells #[.int .i64 at', .int .i64 mask] 43)) := (Keeps.refl _ _).alloc _
 obtain ⟨N1, hsub, hnew, FS⟩ := h.wider kz0
 have HW := Lib.hid (Bx.new (Keeps.refl NoB (w.alloc (.cells #[.int .i64 at', .int .i64 mask] 43))))
 have HNW := Lib.hid (hnew w.heap.size (Nat.le_refl _) (by simp))
 have HK := Lib.hid (kz0.of_none (F := fun g => ¬ N g))
 have HSub := Lib.hid hsub
 clear hsub hnew h kz0
 have HC := Lib.hid (call_any FS hc0 hc1)
 obtain ⟨ce, hce⟩ : ∃ ce, callE calls fail = ce := ⟨_, rfl⟩
 obtain ⟨O, hO⟩ : ∃ O, orFail calls fail d (remR d at' s true) = O := ⟨_, rfl⟩
 have HOF := Lib.hid (show O = if ce ≠ 0 then (d, ce) else remR d at' s true by rw [<- hO]; unfold orFail; rw [hce])
 rw [hO]
 clear hO
 rw [hce] at HC
 clear hce FS hc0 hc1
 go_enter Tryz.func61, Tryz.ntmps61
 go_upto_region 1 with fail
 generalize w.alloc (.cells #[.int .i64 at', .int .i64 mask] 43) = w0 at *
 generalize w.heap.size = W at *
 go_upto_region 2 with (go_at_call 100; go_loud (refine HC.out.mono ?_); rintro e wc ⟨rfl, FS, k1⟩; replace HW := Lib.hid (HW.out.keep k1 (fun hh => hh HNW.out)); replace HK := Lib.hid (HK.out.trans (k1.mono (fun g _ hg hN => hg (HSub.out g hN)))))
 have HFS := Lib.hid FS
 clear HC k1 FS
 by_cases hz : ce ≠ 0
 ·have hb : (ce != 0) = true := by simpa using hz
  rw [if_pos hz] at HOF
  clear hz
  go_wp2_with fail
  go_ret
  exact ⟨ret_i64 (by rw [HOF.out]), (by rw [HOF.out]; exact HFS.out.less HSub.out), HK.out⟩
 rw [if_neg hz] at HOF
 obtain rfl : ce = 0 := Classical.not_not.1 hz
 clear hz
 unfold remR at HOF
 have b0 := HW.out.cell 0 _ rfl
 have b1 := HW.out.cell 1 _ rfl
 have HFr := Lib.hid (gone_any HFS.out at' mask s true hsz)
 obtain ⟨X, hX⟩ : ∃ X, goneR d at' s true = X := ⟨_, rfl⟩
 rw [hX] at HFr HOF
 obtain ⟨⟨pn, pd, pm⟩, pe⟩ := X
 unfold plcV at HFr
 simp only at HFr HOF
 clear hX
 go_upto_region 5 with (go_at_call 128; go_loud (refine HFr.out.mono ?_); rintro e w2 ⟨rfl, k2⟩)
 have HP := Lib.hid (Bx.new (Keeps.refl NoB (w2.alloc (.cells #[.int .i64 pn, .int .i64 pd, .string pm] 143))))
 have hk1 : Keeps NoB wc (w2.alloc (.cells #[.int .i64 pn, .int .i64 pd, .string pm] 143)) := k2.alloc _
 clear b0 b1 HFr k2
 replace HFS := Lib.hid (HFS.out.on hk1)
 replace HK := Lib.hid (HK.out.trans hk1.of_none)
 replace HW := Lib.hid (HW.out.on hk1)
 clear hk1
 generalize w2.alloc (.cells #[.int .i64 pn, .int .i64 pd, .string pm] 143) = wc at *
 generalize w2.heap.size = HPB at *
 by_cases hz : pe ≠ 0
 ·have hb : (pe != 0) = true := by simpa using hz
  rw [if_pos hz] at HOF
  clear hz
  go_wp2_with fail
  go_ret
  exact ⟨ret_i64 (by rw [HOF.out]), (by rw [HOF.out]; exact HFS.out.less HSub.out), HK.out⟩
 rw [if_neg hz] at HOF
 obtain rfl : pe = 0 := Classical.not_not.1 hz
 clear hz
 have f0 := HFS.out.c0
 have b0 := HP.out.cell 1 _ rfl
 have b1 := HP.out.cell 2 _ rfl
 have HL := Lib.hid ((HFS.out.on (Keeps.refl NoB wc).drew).prog2 fun R hR => leaveD_any hR pd pm)
 rw [show leaveTo d pd pm = (O : Nds × Int).1 by rw [HOF.out] <;> rfl, show leaveErr d pd pm = (O : Nds × Int).2 by rw [HOF.out] <;> rfl] at HL
 go_upto_region 7 with fail
 go_still_tail 8, (by kernel_rfl)
 change wpList _ _ _ _ _ wc.drew
 replace HK : Hid (Keeps (fun g => ¬ N g) w wc.drew) := HK.out.drew
 generalize wc.drew = wd at *
 go_wp2_with (go_at_call 129; go_loud (refine HL.out.mono ?_); rintro e w5 ⟨rfl, FS5, k5⟩)
 go_ret
 exact ⟨rfl, FS5.less HSub.out, HK.out.trans (k5.mono (fun g _ hg hN => hg (HSub.out g hN)))⟩
theorem unlink_any (h : FSt N w F a d room calls fail) (hc0 : 0 <= calls) (hc1 : calls <= 4611686018427387904) (at' mask : Int) (s : ByteArray) (hsz : s.size <= 4294967280) :
  Calls Tryz.prog 63 #[.pointer (some ⟨F, 0, none⟩), .agg #[.int .i64 at', .int .i64 mask], .string s] w
   (FTo N w F a (orFail calls fail d (remR d at' s false)).1 room (calls + 1) fail (.int .i64 (orFail calls fail d (remR d at' s false)).2)) := by
 have kz0 : Keeps NoB w (w.alloc (.cells #[.int .i64 at', .int .i64 mask] 43)) := (Keeps.refl _ _).alloc _
 obtain ⟨N1, hsub, hnew, FS⟩ := h.wider kz0
 have HW := Lib.hid (Bx.new (Keeps.refl NoB (w.alloc (.cells #[.int .i64 at', .int .i64 mask] 43))))
 have HNW := Lib.hid (hnew w.heap.size (Nat.le_refl _) (by simp))
 have HK := Lib.hid (kz0.of_none (F := fun g => ¬ N g))
 have HSub := Lib.hid hsub
 clear hsub hnew h kz0
 have HC := Lib.hid (call_any FS hc0 hc1)
 obtain ⟨ce, hce⟩ : ∃ ce, callE calls fail = ce := ⟨_, rfl⟩
 obtain ⟨O, hO⟩ : ∃ O, orFail calls fail d (remR d at' s false) = O := ⟨_, rfl⟩
 have HOF := Lib.hid (show O = if ce ≠ 0 then (d, ce) else remR d at' s false by rw [<- hO]; unfold orFail; rw [hce])
 rw [hO]
 clear hO
 rw [hce] at HC
 clear hce FS hc0 hc1
 go_enter Tryz.func63, Tryz.ntmps63
 go_upto_region 1 with fail
 generalize w.alloc (.cells #[.int .i64 at', .int .i64 mask] 43) = w0 at *
 generalize w.heap.size = W at *
 go_upto_region 2 with (go_at_call 100; go_loud (refine HC.out.mono ?_); rintro e wc ⟨rfl, FS, k1⟩; replace HW := Lib.hid (HW.out.keep k1 (fun hh => hh HNW.out)); replace HK := Lib.hid (HK.out.trans (k1.mono (fun g _ hg hN => hg (HSub.out g hN)))))
 have HFS := Lib.hid FS
 clear HC k1 FS
 by_cases hz : ce ≠ 0
 ·have hb : (ce != 0) = true := by simpa using hz
  rw [if_pos hz] at HOF
  clear hz
  go_wp2_with fail
  go_ret
  exact ⟨ret_i64 (by rw [HOF.out]), (by rw [HOF.out]; exact HFS.out.less HSub.out), HK.out⟩
 rw [if_neg hz] at HOF
 obtain rfl : ce = 0 := Classical.not_not.1 hz
 clear hz
 unfold remR at HOF
 have b0 := HW.out.cell 0 _ rfl
 have b1 := HW.out.cell 1 _ rfl
 have HFr := Lib.hid (gone_any HFS.out at' mask s false hsz)
 obtain ⟨X, hX⟩ : ∃ X, goneR d at' s false = X := ⟨_, rfl⟩
 rw [hX] at HFr HOF
 obtain ⟨⟨pn, pd, pm⟩, pe⟩ := X
 unfold plcV at HFr
 simp only at HFr HOF
 clear hX
 go_upto_region 5 with (go_at_call 128; go_loud (refine HFr.out.mono ?_); rintro e w2 ⟨rfl, k2⟩)
 have HP := Lib.hid (Bx.new (Keeps.refl NoB (w2.alloc (.cells #[.int .i64 pn, .int .i64 pd, .string pm] 143))))
 have hk1 : Keeps NoB wc (w2.alloc (.cells #[.int .i64 pn, .int .i64 pd, .string pm] 143)) := k2.alloc _
 clear b0 b1 HFr k2
 replace HFS := Lib.hid (HFS.out.on hk1)
 replace HK := Lib.hid (HK.out.trans hk1.of_none)
 replace HW := Lib.hid (HW.out.on hk1)
 clear hk1
 generalize w2.alloc (.cells #[.int .i64 pn, .int .i64 pd, .string pm] 143) = wc at *
 generalize w2.heap.size = HPB at *
 by_cases hz : pe ≠ 0
 ·have hb : (pe != 0) = true := by simpa using hz
  rw [if_pos hz] at HOF
  clear hz
  go_wp2_with fail
  go_ret
  exact ⟨ret_i64 (by rw [HOF.out]), (by rw [HOF.out]; exact HFS.out.less HSub.out), HK.out⟩
 rw [if_neg hz] at HOF
 obtain rfl : pe = 0 := Classical.not_not.1 hz
 clear hz
 have f0 := HFS.out.c0
 have b0 := HP.out.cell 1 _ rfl
 have b1 := HP.out.cell 2 _ rfl
 have HL := Lib.hid ((HFS.out.on (Keeps.refl NoB wc).drew).prog2 fun R hR => leaveD_any hR pd pm)
 rw [show leaveTo d pd pm = (O : Nds × Int).1 by rw [HOF.out] <;> rfl, show leaveErr d pd pm = (O : Nds × Int).2 by rw [HOF.out] <;> rfl] at HL
 go_upto_region 7 with fail
 go_still_tail 8, (by kernel_rfl)
 change wpList _ _ _ _ _ wc.drew
 replace HK : Hid (Keeps (fun g => ¬ N g) w wc.drew) := HK.out.drew
 generalize wc.drew = wd at *
 go_wp2_with (go_at_call 129; go_loud (refine HL.out.mono ?_); rintro e w5 ⟨rfl, FS5, k5⟩)
 go_ret
 exact ⟨rfl, FS5.less HSub.out, HK.out.trans (k5.mono (fun g _ hg hN => hg (HSub.out g hN)))⟩
end
section
variable {N : Nat -> Prop} {w w' : World} {F a : Nat} {d d' : Nds} {room calls fail : Int}
theorem link_any (h : FSt N w F a d room calls fail) (hc0 : 0 <= calls) (hc1 : calls <= 4611686018427387904) (hbm : mass d + 1 <= 2147483648) (at' mask : Int) (old s : ByteArray) (hsz2 : old.size <= 4294967280) (hsz : s.size <= 4294967280) :
  Calls Tryz.prog 59 #[.pointer (some ⟨F, 0, none⟩), .agg #[.int .i64 at', .int .i64 mask], .string old, .string s] w
   (FTo N w F a (orFail calls fail d (linkR d room at' old s)).1 room (calls + 1) fail (.int .i64 (orFail calls fail d (linkR d room at' old s)).2)) := by
 have kz0 : Keeps NoB w (w.alloc (.cells #[.int .i64 at', .int .i64 mask] 43)) := (Keeps.refl _ _).alloc _
 obtain ⟨N1, hsub, hnew, FS⟩ := h.wider kz0
 have HW := Lib.hid (Bx.new (Keeps.refl NoB (w.alloc (.cells #[.int .i64 at', .int .i64 mask] 43))))
 have HNW := Lib.hid (hnew w.heap.size (Nat.le_refl _) (by simp))
 have HK := Lib.hid (kz0.of_none (F := fun g => ¬ N g))
 have HSub := Lib.hid hsub
 clear hsub hnew h kz0
 have HC := Lib.hid (call_any FS hc0 hc1)
 obtain ⟨ce, hce⟩ : ∃ ce, callE calls fail = ce := ⟨_, rfl⟩
 obtain ⟨O, hO⟩ : ∃ O, orFail calls fail d (linkR d room at' old s) = O := ⟨_, rfl⟩
 have HOF := Lib.hid (show O = if ce ≠ 0 then (d, ce) else linkR d room at' old s by rw [<- hO]; unfold orFail; rw [hce])
 rw [hO]
 clear hO
 rw [hce] at HC
 clear hce FS hc0 hc1
 go_enter Tryz.func59, Tryz.ntmps59
 go_upto_region 1 with fail
 generalize w.alloc (.cells #[.int .i64 at', .int .i64 mask] 43) = w0 at *
 generalize w.heap.size = W at *
 go_upto_region 2 with (go_at_call 100; go_loud (refine HC.out.mono ?_); rintro e wc ⟨rfl, FS, k1⟩; replace HW := Lib.hid (HW.out.keep k1 (fun hh => hh HNW.out)); replace HK := Lib.hid (HK.out.trans (k1.mono (fun g _ hg hN => hg (HSub.out g hN)))))
 have HFS := Lib.hid FS
 clear HC k1 FS
 by_cases hz : ce ≠ 0
 ·have hb : (ce != 0) = true := by simpa using hz
  rw [if_pos hz] at HOF
  clear hz
  go_wp2_with fail
  go_ret
  exact ⟨ret_i64 (by rw [HOF.out]), (by rw [HOF.out]; exact HFS.out.less HSub.out), HK.out⟩
 rw [if_neg hz] at HOF
 obtain rfl : ce = 0 := Classical.not_not.1 hz
 clear hz
 unfold linkR at HOF
 obtain ⟨X, hX⟩ : ∃ X, thrR d at' old false = X := ⟨_, rfl⟩
 have HFi := Lib.hid (fun (w1 : World) (hk : Keeps NoB wc w1) => (HFS.out.on hk).thr at' old false hsz2)
 rw [hX] at HFi HOF
 obtain ⟨⟨pn, pd, pm⟩, pe⟩ := X
 unfold plcV at HFi
 simp only at HFi HOF
 have HXp := Lib.hid hX
 clear hX
 have f0 := HFS.out.c0
 have b0 := HW.out.cell 0 _ rfl
 go_upto_region 4 with fail
 go_cut [10, 11] from 10 to 30 (fun x y wx => ∃ G : Nat, wc.heap.size <= G ∧ x = .pointer (some ⟨G, 0, none⟩) ∧ y = .int .i64 pe ∧ Bx wx G [.int .i64 pn, .int .i64 pd, .string pm] ∧ Keeps NoB wc wx)
 case first =>
  have kr := Keeps.refl NoB wc
  have krd := kr.drew
  have d0 := (HFS.out.on krd).c0
  have d1 := (HW.out.on krd).cell 0 _ rfl
  go_region_held3 (fun wz => wz.cell? ⟨F, 0, none⟩ = some (.pointer (some ⟨a, 0, none⟩)) ∧ wz.cell? ⟨W, 0, none⟩ = some (.int .i64 at') ∧ Keeps NoB wc wz) (refine ⟨?_, ?_, ?_⟩ <;> first | with_reducible assumption | (with_reducible refine (HFS.out.on ?_).c0; (repeat (first | with_reducible assumption | (with_reducible exact Keeps.refl _ _) | (with_reducible refine Keeps.drew ?_) | (with_reducible refine Keeps.drewN ?_ _) | (with_reducible refine Keeps.alloc ?_ _) | (with_reducible refine Keeps.setCell ?_ (by first | exact Or.inl rfl | exact Or.inr (Nat.le_refl _) | exact Or.inr (by first | (simp; done) | (simp; omega))) _))); done) | (with_reducible refine (HW.out.on ?_).cell 0 _ rfl; (repeat (first | with_reducible assumption | (with_reducible exact Keeps.refl _ _) | (with_reducible refine Keeps.drew ?_) | (with_reducible refine Keeps.drewN ?_ _) | (with_reducible refine Keeps.alloc ?_ _) | (with_reducible refine Keeps.setCell ?_ (by first | exact Or.inl rfl | exact Or.inr (Nat.le_refl _) | exact Or.inr (by first | (simp; done) | (simp; omega))) _))); done) | ((repeat (first | with_reducible assumption | (with_reducible exact Keeps.refl _ _) | (with_reducible refine Keeps.drew ?_) | (with_reducible refine Keeps.drewN ?_ _) | (with_reducible refine Keeps.alloc ?_ _) | (with_reducible refine Keeps.setCell ?_ (by first | exact Or.inl rfl | exact Or.inr (Nat.le_refl _) | exact Or.inr (by first | (simp; done) | (simp; omega))) _))); done))
   (first | (go_at_call 72; refine (HFi.out _ (by (repeat (first | with_reducible assumption | (with_reducible exact Keeps.refl _ _) | (with_reducible refine Keeps.drew ?_) | (with_reducible refine Keeps.drewN ?_ _) | (with_reducible refine Keeps.alloc ?_ _) | (with_reducible refine Keeps.setCell ?_ (by first | exact Or.inl rfl | exact Or.inr (Nat.le_refl _) | exact Or.inr (by first | (simp; done) | (simp; omega))) _))))).mono ?_; rintro e w2 ⟨rfl, hk2⟩; have zky : Keeps NoB wc w2 := Keeps.trans (by (repeat (first | with_reducible assumption | (with_reducible exact Keeps.refl _ _) | (with_reducible refine Keeps.drew ?_) | (with_reducible refine Keeps.drewN ?_ _) | (with_reducible refine Keeps.alloc ?_ _) | (with_reducible refine Keeps.setCell ?_ (by first | exact Or.inl rfl | exact Or.inr (Nat.le_refl _) | exact Or.inr (by first | (simp; done) | (simp; omega))) _)))) hk2; have zs := zky.size; have z0 := (HFS.out.on zky).c0; have z1 := (HW.out.on zky).cell 0 _ rfl; (try (have yb := Bx.newD hk2; have y0 := yb.cell 0 _ rfl; have y1 := yb.cell 1 _ rfl; have y2 := yb.cell 2 _ rfl; have yf := yb.fz))))
  all_goals (go_wp2_with fail; go_meet; refine ⟨_, ?_, rfl, rfl, ?_, ?_⟩)
  all_goals first
   | exact Nat.le_refl _
   | exact zs
   | (with_reducible exact Bx.new (Keeps.refl NoB _))
   | (exact ((yb.put 0 _).put 1 _).put 2 _)
   | ((repeat (first | with_reducible assumption | (with_reducible exact Keeps.refl _ _) | (with_reducible refine Keeps.drew ?_) | (with_reducible refine Keeps.drewN ?_ _) | (with_reducible refine Keeps.alloc ?_ _) | (with_reducible refine Keeps.setCell ?_ (by first | exact Or.inl rfl | exact Or.inr (Nat.le_refl _) | exact Or.inr (by first | (simp; done) | (simp; omega))) _))); done)
   | skip
 case rest =>
  obtain ⟨HPB, hG, rfl, rfl, HP, hk1⟩ := hcut
  replace HP := Lib.hid HP
  clear f0 b0 HFi hG
  replace HFS := Lib.hid (HFS.out.on hk1)
  replace HK := Lib.hid (HK.out.trans hk1.of_none)
  replace HW := Lib.hid (HW.out.on hk1)
  by_cases hz : pe ≠ 0
  ·have hb : (pe != 0) = true := by simpa using hz
   rw [if_pos hz] at HOF
   clear hz
   go_wp2_with fail
   go_ret
   exact ⟨ret_i64 (by rw [HOF.out]), (by rw [HOF.out]; exact HFS.out.less HSub.out), HK.out⟩
  rw [if_neg hz] at HOF
  obtain rfl : pe = 0 := Classical.not_not.1 hz
  clear hz
  obtain ⟨ik, im, il, ih, iz, hik, him, _, hie⟩ := HFS.out.tell pn
  obtain ⟨ie, hie2⟩ : ∃ ie, (if has d pn then 0 else 12 : Int) = ie := ⟨_, rfl⟩
  have HIn := Lib.hid (fun (w1 : World) (hk : Keeps NoB wc w1) => (HFS.out.on hk).info pn)
  rw [hie, hie2] at HIn
  rw [<- hik] at HOF
  have HIk := Lib.hid hik
  have HIm := Lib.hid him
  have HIE := Lib.hid hie
  have HIE2 := Lib.hid hie2
  clear hie hie2 hik him
  have f0 := HFS.out.c0
  have b0 := HP.out.cell 0 _ rfl
  go_upto_region 7 with fail
  go_cut [12, 13] from 12 to 43 (fun x y wx => ∃ G : Nat, wc.heap.size <= G ∧ x = .pointer (some ⟨G, 0, none⟩) ∧ y = .int .i64 ie ∧ Bx wx G [.int .i64 ik, .int .i64 im, .int .i64 il, .int .i64 ih, .int .i64 iz] ∧ Keeps NoB wc wx)
  case first =>
   have kr := Keeps.refl NoB wc
   have krd := kr.drew
   have d0 := (HFS.out.on krd).c0
   have d1 := (HP.out.on krd).cell 0 _ rfl
   go_region_held3 (fun wz => wz.cell? ⟨F, 0, none⟩ = some (.pointer (some ⟨a, 0, none⟩)) ∧ wz.cell? ⟨HPB, 0, none⟩ = some (.int .i64 pn) ∧ Keeps NoB wc wz) (refine ⟨?_, ?_, ?_⟩ <;> first | with_reducible assumption | (with_reducible refine (HFS.out.on ?_).c0; (repeat (first | with_reducible assumption | (with_reducible exact Keeps.refl _ _) | (with_reducible refine Keeps.drew ?_) | (with_reducible refine Keeps.drewN ?_ _) | (with_reducible refine Keeps.alloc ?_ _) | (with_reducible refine Keeps.setCell ?_ (by first | exact Or.inl rfl | exact Or.inr (Nat.le_refl _) | exact Or.inr (by first | (simp; done) | (simp; omega))) _))); done) | (with_reducible refine (HP.out.on ?_).cell 0 _ rfl; (repeat (first | with_reducible assumption | (with_reducible exact Keeps.refl _ _) | (with_reducible refine Keeps.drew ?_) | (with_reducible refine Keeps.drewN ?_ _) | (with_reducible refine Keeps.alloc ?_ _) | (with_reducible refine Keeps.setCell ?_ (by first | exact Or.inl rfl | exact Or.inr (Nat.le_refl _) | exact Or.inr (by first | (simp; done) | (simp; omega))) _))); done) | ((repeat (first | with_reducible assumption | (with_reducible exact Keeps.refl _ _) | (with_reducible refine Keeps.drew ?_) | (with_reducible refine Keeps.drewN ?_ _) | (with_reducible refine Keeps.alloc ?_ _) | (with_reducible refine Keeps.setCell ?_ (by first | exact Or.inl rfl | exact Or.inr (Nat.le_refl _) | exact Or.inr (by first | (simp; done) | (simp; omega))) _))); done))
    (first | (go_at_call 42; refine (HIn.out _ (by (repeat (first | with_reducible assumption | (with_reducible exact Keeps.refl _ _) | (with_reducible refine Keeps.drew ?_) | (with_reducible refine Keeps.drewN ?_ _) | (with_reducible refine Keeps.alloc ?_ _) | (with_reducible refine Keeps.setCell ?_ (by first | exact Or.inl rfl | exact Or.inr (Nat.le_refl _) | exact Or.inr (by first | (simp; done) | (simp; omega))) _))))).mono ?_; rintro e w2 ⟨rfl, hk2⟩; have zky : Keeps NoB wc w2 := Keeps.trans (by (repeat (first | with_reducible assumption | (with_reducible exact Keeps.refl _ _) | (with_reducible refine Keeps.drew ?_) | (with_reducible refine Keeps.drewN ?_ _) | (with_reducible refine Keeps.alloc ?_ _) | (with_reducible refine Keeps.setCell ?_ (by first | exact Or.inl rfl | exact Or.inr (Nat.le_refl _) | exact Or.inr (by first | (simp; done) | (simp; omega))) _)))) hk2; have zs := zky.size; have z0 := (HFS.out.on zky).c0; have z1 := (HP.out.on zky).cell 0 _ rfl; (try (have yb := Bx.newD hk2; have y0 := yb.cell 0 _ rfl; have y1 := yb.cell 1 _ rfl; have y2 := yb.cell 2 _ rfl; have y3 := yb.cell 3 _ rfl; have y4 := yb.cell 4 _ rfl; have yf := yb.fz))))
   all_goals (go_wp2_with fail; go_meet; refine ⟨_, ?_, rfl, rfl, ?_, ?_⟩)
   all_goals first
    | exact Nat.le_refl _
    | exact zs
    | (with_reducible exact Bx.new (Keeps.refl NoB _))
    | (exact ((((yb.put 0 _).put 1 _).put 2 _).put 3 _).put 4 _)
    | ((repeat (first | with_reducible assumption | (with_reducible exact Keeps.refl _ _) | (with_reducible refine Keeps.drew ?_) | (with_reducible refine Keeps.drewN ?_ _) | (with_reducible refine Keeps.alloc ?_ _) | (with_reducible refine Keeps.setCell ?_ (by first | exact Or.inl rfl | exact Or.inr (Nat.le_refl _) | exact Or.inr (by first | (simp; done) | (simp; omega))) _))); done)
    | skip
  case rest =>
   obtain ⟨HIB, hG, rfl, rfl, HI, hk1⟩ := hcut
   replace HI := Lib.hid HI
   clear f0 b0 HIn hG
   replace HFS := Lib.hid (HFS.out.on hk1)
   replace HK := Lib.hid (HK.out.trans hk1.of_none)
   replace HW := Lib.hid (HW.out.on hk1)
   replace HP := Lib.hid (HP.out.on hk1)
   clear hk1
   have i0 := HI.out.cell 0 _ rfl
   by_cases hz : ik = 2
   ·have hb : (ik == 2) = true := by simpa using hz
    rw [if_pos hz] at HOF
 
    clear hz
    go_wp2_with fail
    go_ret
    exact ⟨ret_i64 (by rw [HOF.out]), (by rw [HOF.out]; exact HFS.out.less HSub.out), HK.out⟩
   rw [if_neg hz] at HOF
   have hb : (ik == 2) = false := by simpa using hz
   have Hk := Lib.hid hz
   clear hz
   have b0 := HW.out.cell 0 _ rfl
   have b1 := HW.out.cell 1 _ rfl
   have HFr := Lib.hid (free_any HFS.out at' mask s false hsz)
   obtain ⟨X, hX⟩ : ∃ X, freeR d at' s false = X := ⟨_, rfl⟩
   rw [hX] at HFr HOF
   obtain ⟨⟨qn, qd, qm⟩, qe⟩ := X
   unfold plcV at HFr
   simp only at HFr HOF
   have HXq := Lib.hid hX
   clear hX
   go_upto_region 11 with (go_at_call 101; go_loud (refine HFr.out.mono ?_); rintro e w2 ⟨rfl, k2⟩)
   have HQ := Lib.hid (Bx.new (Keeps.refl NoB (w2.alloc (.cells #[.int .i64 qn, .int .i64 qd, .string qm] 143))))
   have hk1 : Keeps NoB wc (w2.alloc (.cells #[.int .i64 qn, .int .i64 qd, .string qm] 143)) := k2.alloc _
   clear b0 b1 HFr k2
   replace HFS := Lib.hid (HFS.out.on hk1)
   replace HK := Lib.hid (HK.out.trans hk1.of_none)
   replace HW := Lib.hid (HW.out.on hk1)
   replace HP := Lib.hid (HP.out.on hk1)
   replace HI := Lib.hid (HI.out.on hk1)
   clear hk1
   generalize w2.alloc (.cells #[.int .i64 qn, .int .i64 qd, .string qm] 143) = wc at *
   generalize w2.heap.size = HQB at *
   by_cases hz : qe ≠ 0
   ·have hb : (qe != 0) = true := by simpa using hz
    rw [if_pos hz] at HOF
    clear hz
    go_wp2_with fail
    go_ret
    exact ⟨ret_i64 (by rw [HOF.out]), (by rw [HOF.out]; exact HFS.out.less HSub.out), HK.out⟩
   rw [if_neg hz] at HOF
   obtain rfl : qe = 0 := Classical.not_not.1 hz
   clear hz
   have f0 := HFS.out.c0
   have b0 := HQ.out.cell 1 _ rfl
   have b1 := HQ.out.cell 2 _ rfl
   have b2 := HP.out.cell 0 _ rfl
   obtain ⟨x1, x2, _⟩ := freeR_ok HXq.out
   have HL := Lib.hid ((HFS.out.on (Keeps.refl NoB wc).drew).prog2 fun R hR => enterD_any hR qd qm pn (Nat.le_trans x2 (by decide)) hbm (fun _ h2 => absurd (HIk.out.trans h2) Hk.out))
   rw [show enterD d room qd qm pn = (O : Nds × Int).1 by rw [HOF.out] <;> rfl, show enterErr d room qd qm pn = (O : Nds × Int).2 by rw [HOF.out] <;> rfl] at HL
   go_upto_region 13 with fail
   go_still_tail 10, (by kernel_rfl)
   change wpList _ _ _ _ _ wc.drew
   replace HK : Hid (Keeps (fun g => ¬ N g) w wc.drew) := HK.out.drew
   generalize wc.drew = wd at *
   go_wp2_with (go_at_call 126; go_loud (refine HL.out.mono ?_); rintro e w5 ⟨rfl, FS5, k5⟩)
   go_ret
   exact ⟨rfl, FS5.less HSub.out, HK.out.trans (k5.mono (fun g _ hg hN => hg (HSub.out g hN)))⟩
end
structure FSx (W : World) (P : Nat -> Prop) (w : World) (F a : Nat) (d : Nds) (room calls fail : Int) : Prop where
 ex : ∃ N : Nat -> Prop, (∀ g, g < W.heap.size -> N g) ∧ (∀ g, P g -> N g) ∧ FSt N w F a d room calls fail
 keeps : Keeps NoB W w
section
variable {W w w' : World} {P P' : Nat -> Prop} {F a : Nat} {d d' : Nds} {room calls calls' fail : Int}
theorem FSx.inv (h : FSx W P w F a d room calls fail) : DInv d := by obtain ⟨N, _, _, h⟩ := h.ex; exact h.pd.inv
theorem FSx.clean (h : FSx W P w F a d room calls fail) : NoGarb d := by obtain ⟨N, _, _, h⟩ := h.ex; exact h.pd.clean
theorem FSx.small (h : FSx W P w F a d room calls fail) : smallD d := by obtain ⟨N, _, _, h⟩ := h.ex; exact h.pd.small
theorem FSx.lt (h : FSx W P w F a d room calls fail) : F < w.heap.size := by obtain ⟨N, _, _, h⟩ := h.ex; exact h.lt
theorem FSx.low (h : FSx W P w F a d room calls fail) (g : Nat) (hg : P g) : g < w.heap.size := by obtain ⟨N, _, h1, h⟩ := h.ex; exact h.low g (h1 g hg)
theorem FSx.new {W : World} (h : FSt (fun g => g < W.heap.size) w F a d room calls fail) (k : Keeps NoB W w) : FSx W NoB w F a d room calls fail :=
 ⟨⟨_, fun _ hg => hg, fun _ hg => hg.elim, h⟩, k⟩
theorem FSx.more (h : FSx W P w F a d room calls fail) (k : Keeps NoB w w') (hP : ∀ g, P' g -> P g ∨ (w.heap.size <= g ∧ g < w'.heap.size)) : FSx W P' w' F a d room calls fail := by
 obtain ⟨N, h1, h2, h3⟩ := h.ex
 obtain ⟨N1, g1, g2, g3⟩ := h3.wider k
 exact ⟨⟨N1, fun g hg => g1 g (h1 g hg), fun g hg => (hP g hg).elim (fun h => g1 g (h2 g h)) (fun h => g2 g h.1 h.2), g3⟩, h.keeps.trans k⟩
theorem FSx.on (h : FSx W P w F a d room calls fail) (k : Keeps NoB w w') : FSx W P w' F a d room calls fail := h.more k (fun _ hg => .inl hg)
theorem FSx.turn {G : Nat -> Prop} (h : FSx W P w F a d room calls fail) (k : Keeps G w w') (hG : ∀ g, G g -> P g ∧ W.heap.size <= g) : FSx W P w' F a d room calls fail := by
 obtain ⟨N, h1, h2, h3⟩ := h.ex
 exact ⟨⟨N, h1, h2, h3.keep k (fun g hg => h2 g (hG g hg).1)⟩, h.keeps.step k (fun g hg => .inr (hG g hg).2)⟩
def FXo (W : World) (P : Nat -> Prop) (w : World) (F a : Nat) (d' : Nds) (room calls' fail : Int) (V : Value) : Ending -> World -> Prop := fun e w' =>
 e = .returned V ∧ FSx W P w' F a d' room calls' fail ∧ Keeps (fun g => ¬ (g < W.heap.size ∨ P g)) w w'
theorem FSx.call {f : Nat} {args : Array Value} {V : Value} (h : FSx W P w F a d room calls fail) (hc : ∀ N : Nat -> Prop, FSt N w F a d room calls fail -> Calls Tryz.prog f args w (FTo N w F a d' room calls' fail V)) :
  Calls Tryz.prog f args w (FXo W P w F a d' room calls' fail V) := by
 obtain ⟨N, h1, h2, h3⟩ := h.ex
 refine (hc N h3).mono ?_
 rintro e w' ⟨rfl, h4, h5⟩
 have k : Keeps (fun g => ¬ (g < W.heap.size ∨ P g)) w w' := h5.mono (fun g _ hg hn => hg (hn.elim (h1 g) (h2 g)))
 exact ⟨rfl, ⟨⟨N, h1, h2, h4⟩, h.keeps.step k (fun g hg => .inr (by
  rcases Nat.lt_or_ge g W.heap.size with h | h
  ·exact absurd (.inl h) hg
  ·exact h))⟩, k⟩
theorem FSx.asks {f : Nat} {args : Array Value} {Q : Ending -> World -> Prop} (h : FSx W P w F a d room calls fail) (hc : ∀ N : Nat -> Prop, FSt N w F a d room calls fail -> Calls Tryz.prog f args w Q) : Calls Tryz.prog f args w Q := by
 obtain ⟨N, _, _, h3⟩ := h.ex
 exact hc N h3
theorem FSx.kept (h : FSx W P w F a d room calls fail) {B : Nat} {l : List Value} (hb : Bx w B l) (k : Keeps (fun g => ¬ (g < W.heap.size ∨ P g)) w w') (hB : P B) : Bx w' B l := hb.keep k (fun hn => hn (.inr hB))
end
structure OpS where
 kind : Int
 s : ByteArray
 t : ByteArray
 m : Int
 n : Int
 k : Int
def encOpS : Enc OpS where
 enc := fun o => [.int .i64 o.kind, .string o.s, .string o.t, .int .i64 o.m, .int .i64 o.n, .int .i64 o.k]
 k := 6
 pos := by decide
 len := fun _ => rfl
 one := fun x v hv => by simp at hv; rcases hv with rfl | rfl | rfl | rfl | rfl | rfl <;> rfl
def okO (o : OpS) : Bool := decide ((o.s.size : Int) <= 5000 ∧ (o.t.size : Int) <= 5000 ∧ 0 <= o.m ∧ o.m <= 4095 ∧ 0 <= o.n ∧ o.n <= 31 ∧ (o.k < 1000 ∨ 4194304 < o.k))
theorem l6right_any (kd m n k : Int) (s t : ByteArray) (hs : s.size <= 9223372036854775807) (ht : t.size <= 9223372036854775807) (w : World) :
  Calls Tryz.prog 58 #[.agg #[.int .i64 kd, .string s, .string t, .int .i64 m, .int .i64 n, .int .i64 k]] w fun e w' => e = .returned (.bool (okO ⟨kd, s, t, m, n, k⟩)) ∧ Keeps NoB w w' := by
 by_cases h1 : (s.size : Int) <= 5000
 case neg =>
  have HO : Hid (okO ⟨kd, s, t, m, n, k⟩ = false) := Lib.hid (by unfold okO; exact decide_eq_false (fun x => h1 (x.1)))
  go_enter Tryz.func58, Tryz.ntmps58
  go_wp2_with fail
  go_ret
  exact ⟨by rw [HO.out]; rfl, (Keeps.refl _ _).alloc _⟩
 by_cases h2 : (t.size : Int) <= 5000
 case neg =>
  have HO : Hid (okO ⟨kd, s, t, m, n, k⟩ = false) := Lib.hid (by unfold okO; exact decide_eq_false (fun x => h2 (x.2.1)))
  go_enter Tryz.func58, Tryz.ntmps58
  go_wp2_with fail
  go_ret
  exact ⟨by rw [HO.out]; rfl, (Keeps.refl _ _).alloc _⟩
 by_cases h3 : 0 <= m
 case neg =>
  have HO : Hid (okO ⟨kd, s, t, m, n, k⟩ = false) := Lib.hid (by unfold okO; exact decide_eq_false (fun x => h3 (x.2.2.1)))
  go_enter Tryz.func58, Tryz.ntmps58
  go_wp2_with fail
  go_ret
  exact ⟨by rw [HO.out]; rfl, (Keeps.refl _ _).alloc _⟩
 by_cases h4 : m <= 4095
 case neg =>
  have HO : Hid (okO ⟨kd, s, t, m, n, k⟩ = false) := Lib.hid (by unfold okO; exact decide_eq_false (fun x => h4 (x.2.2.2.1)))
  go_enter Tryz.func58, Tryz.ntmps58
  go_wp2_with fail
  go_ret
  exact ⟨by rw [HO.out]; rfl, (Keeps.refl _ _).alloc _⟩
 by_cases h5 : 0 <= n
 case neg =>
  have HO : Hid (okO ⟨kd, s, t, m, n, k⟩ = false) := Lib.hid (by unfold okO; exact decide_eq_false (fun x => h5 (x.2.2.2.2.1)))
  go_enter Tryz.func58, Tryz.ntmps58
  go_wp2_with fail
  go_ret
  exact ⟨by rw [HO.out]; rfl, (Keeps.refl _ _).alloc _⟩
 by_cases h6 : n <= 31
 case neg =>
  have HO : Hid (okO ⟨kd, s, t, m, n, k⟩ = false) := Lib.hid (by unfold okO; exact decide_eq_false (fun x => h6 (x.2.2.2.2.2.1)))
  go_enter Tryz.func58, Tryz.ntmps58
  go_wp2_with fail
  go_ret
  exact ⟨by rw [HO.out]; rfl, (Keeps.refl _ _).alloc _⟩
 by_cases h7 : k < 1000
 case pos =>
  have HO : Hid (okO ⟨kd, s, t, m, n, k⟩ = true) := Lib.hid (by unfold okO; exact decide_eq_true ⟨h1, h2, h3, h4, h5, h6, .inl h7⟩)
  go_enter Tryz.func58, Tryz.ntmps58
  go_wp2_with fail
  go_ret
  exact ⟨by rw [HO.out]; rfl, (Keeps.refl _ _).alloc _⟩
 by_cases h8 : 4194304 < k
 case pos =>
  have HO : Hid (okO ⟨kd, s, t, m, n, k⟩ = true) := Lib.hid (by unfold okO; exact decide_eq_true ⟨h1, h2, h3, h4, h5, h6, .inr h8⟩)
  go_enter Tryz.func58, Tryz.ntmps58
  go_wp2_with fail
  go_ret
  exact ⟨by rw [HO.out]; rfl, (Keeps.refl _ _).alloc _⟩
 case neg =>
  have HO : Hid (okO ⟨kd, s, t, m, n, k⟩ = false) := Lib.hid (by unfold okO; exact decide_eq_false (fun x => x.2.2.2.2.2.2.elim h7 h8))
  go_enter Tryz.func58, Tryz.ntmps58
  go_wp2_with fail
  go_ret
  exact ⟨by rw [HO.out]; rfl, (Keeps.refl _ _).alloc _⟩
theorem SlAt.op6 {S : Nat -> Prop} {w : World} {p : Option Addr} {c : Nat} {l : List OpS} (h : SlAt encOpS S w p c l) {i : Nat} {x : OpS} (hi : l[i]? = some x) :
  ∃ g off, p = some ⟨g, off, none⟩ ∧ S g ∧ g < w.heap.size ∧ w.cell? ⟨g, off + i * 6, none⟩ = some (.int .i64 x.kind) ∧ w.cell? ⟨g, off + i * 6 + 1, none⟩ = some (.string x.s) ∧ w.cell? ⟨g, off + i * 6 + 2, none⟩ = some (.string x.t) ∧
   w.cell? ⟨g, off + i * 6 + 3, none⟩ = some (.int .i64 x.m) ∧ w.cell? ⟨g, off + i * 6 + 4, none⟩ = some (.int .i64 x.n) ∧ w.cell? ⟨g, off + i * 6 + 5, none⟩ = some (.int .i64 x.k) := by
 obtain ⟨g, off, hp, hS, hg, hc⟩ := h.at hi
 refine ⟨g, off, hp, hS, hg, hc 0 _ rfl, ?_, ?_, ?_, ?_, ?_⟩
 ·have := hc 1 _ rfl; rwa [<- Nat.add_assoc] at this
 ·have := hc 2 _ rfl; rwa [<- Nat.add_assoc] at this
 ·have := hc 3 _ rfl; rwa [<- Nat.add_assoc] at this
 ·have := hc 4 _ rfl; rwa [<- Nat.add_assoc] at this
 ·have := hc 5 _ rfl; rwa [<- Nat.add_assoc] at this
def smallO (l : List OpS) : Bool := l.all okO && decide (l.length <= 40)
theorem l6small_any {S : Nat -> Prop} {w : World} {p : Option Addr} {c : Nat} {l : List OpS} (h : SlAt encOpS S w p c l) (hz : ∀ o ∈ l, o.s.size <= 9223372036854775807 ∧ o.t.size <= 9223372036854775807) :
  Calls Tryz.prog 16 #[.slice p l.length c] w fun e w' => e = .returned (.bool (smallO l)) ∧ Keeps NoB w w' := by
 have HH := Lib.hid h
 have HZ := Lib.hid hz
 have hcap := h.cap
 have hmax := h.max
 unfold maxLen at hmax
 clear h hz
 go_enter Tryz.func16, Tryz.ntmps16
 go_wp2
 go_loopw [7] (fun i wr => ∃ k : Nat, k <= l.length ∧ i = .int .i64 k ∧ (∀ o ∈ l.take k, okO o = true) ∧ Keeps NoB w wr) (fun i _ => l.length + 1 - (intOf i).toNat)
 case atStart => exact ⟨0, Nat.zero_le _, rfl, fun o ho => by simp at ho, Keeps.refl _ _⟩
 case round =>
  obtain ⟨k, hk, rfl, hall, hkp⟩ := hrel
  have HA := Lib.hid hall
  have HK := Lib.hid hkp
  clear hall hkp
  by_cases hlt : k < l.length
  case pos =>
   have hlz : (k : Int) < (l.length : Int) := by omega
   obtain ⟨x, hx⟩ : ∃ x, l[k]? = some x := ⟨_, List.getElem?_eq_getElem hlt⟩
   obtain ⟨g, off, rfl, _, _, c0, c1, c2, c3, c4, c5⟩ := (HH.out.keepN HK.out).op6 hx
   obtain ⟨hs1, hs2⟩ := HZ.out x (List.mem_of_getElem? hx)
   have HN : okO x = true -> ∀ o ∈ l.take (k + 1), okO o = true := fun e o ho => by
    obtain ⟨h1, h2⟩ := List.getElem?_eq_some_iff.1 hx
    rw [List.take_succ_eq_append_getElem h1, h2] at ho
    rcases List.mem_append.1 ho with h | h
    ·exact HA.out o h
    ·rw [List.mem_singleton.1 h]; exact e
   have HM : okO x = false -> smallO l = false := fun e => by
    unfold smallO
    rw [Bool.and_eq_false_iff]
    left
    rw [List.all_eq_false]
    exact ⟨x, List.mem_of_getElem? hx, by rw [e]; decide⟩
   replace HN := Lib.hid HN
   replace HM := Lib.hid HM
   obtain ⟨kd, s, t, m, n, kk⟩ := x
   simp only at c0 c1 c2 c3 c4 c5 hs1 hs2
   have HR := Lib.hid (l6right_any kd m n kk s t hs1 hs2)
   clear hx
   obtain ⟨bo, hbo⟩ : ∃ bo, okO ⟨kd, s, t, m, n, kk⟩ = bo := ⟨_, rfl⟩
   rw [hbo] at HN HM HR
   clear hbo
   cases bo with
   | true =>
    go_wp2_with (go_at_call 58; go_loud (refine (HR.out _).mono ?_); rintro e w4 ⟨rfl, hk4⟩)
    go_roundw
    case rel => exact ⟨k + 1, by omega, by go_num, (by first | exact HN.out trivial | exact HN.out rfl), (HK.out.alloc _).trans hk4⟩
    case measure => simp [intOf]; omega
   | false =>
    go_wp2_with (go_at_call 58; go_loud (refine (HR.out _).mono ?_); rintro e w4 ⟨rfl, hk4⟩)
    go_ret
    exact ⟨by rw [show smallO l = false by first | exact HM.out trivial | exact HM.out rfl]; rfl, (HK.out.alloc _).trans hk4⟩
  case neg =>
   obtain rfl : k = l.length := by omega
   have hlz : ¬ (l.length : Int) < (l.length : Int) := by omega
   have HS : Hid (smallO l = decide ((l.length : Int) <= 40)) := Lib.hid (by
    unfold smallO
    rw [List.all_eq_true.2 (fun o ho => HA.out o (by rw [List.take_length]; exact ho)), Bool.true_and]
    exact decide_eq_decide.2 (by omega))
   go_wp2_with fail
   go_ret
   exact ⟨by rw [HS.out]; rfl, HK.out⟩
end Go.Proofs.YtijbhmledmnifaaGreatDoor
