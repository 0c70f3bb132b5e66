/-
  Layer 6: contracts of files: enter, free, gone.
-/
import Derived.Test.YtimidmogcbapnaaGreatDoorG13
import Derived.Deep.RegionHeld3
import Derived.BigQuiet
import Derived.Deep.QuietTactic
import Derived.Test.YtimidmogcbapnaaGreatDoorG12
import Derived.Test.YtimidmogcbapnaaGreatDoorG05
import Derived.Test.YtimidmogcbapnaaGreatDoorG06

set_option linter.unusedSimpArgs false
set_option linter.unusedVariables false
set_option maxRecDepth 100000
set_option maxHeartbeats 4000000
namespace Go.Proofs.YtimidmogcbapnaaGreatDoor
open Go Go.RowKit
section
variable {N : Nat -> Prop} {w w' : World} {F a : Nat} {d d' : Nds} {room calls fail : Int}
theorem ret_two {a b c e : Int} (h1 : a = c) (h2 : b = e) : Ending.returned (.tuple #[.int .i64 a, .int .i64 b]) = Ending.returned (.tuple #[.int .i64 c, .int .i64 e]) := by rw [h1, h2]
theorem flg_zero (f n : Int) : (bits BinOp.and IntKind.i64 f n == 0) = !flg f n := by unfold flg; simp [bne]
theorem flg_one (f n : Int) : (bits BinOp.and IntKind.i64 f n != 0) = flg f n := rfl
theorem pathErr_zero (s : ByteArray) : decide (pathErr s = 0) = (!s.toList.isEmpty && decide ((s.size : Int) <= 4095) && decide (bIdx s 0 < 0)) := by
 rw [isEmpty_eq]
 unfold pathErr
 by_cases h1 : s = ⟨#[]⟩
 ·simp [h1]
 ·by_cases h2 : 4095 < s.size
  ·simp [h1, h2]; intro; omega
  ·by_cases h3 : 0 <= bIdx s 0
   ·have : ¬ bIdx s 0 < 0 := by omega
    simp [h1, h2, h3, this]
   ·have h4 : bIdx s 0 < 0 := by omega
    have h5 : (s.size : Int) <= 4095 := by omega
    simp [h1, h2, h3, h4, h5]
theorem pathright_any (s : ByteArray) (w : World) :
 Calls Tryz.prog 109 #[.string s] w fun e w' => e = .returned (.bool (decide (pathErr s = 0))) ∧ w = w' := by
 have H := Lib.hid (pathErr_zero s)
 go_enter Tryz.func109, Tryz.ntmps109
 go_wp2_with (go_at_call 42; refine (ib_any _ _ _).mono ?_; rintro e w' ⟨rfl, rfl⟩)
 all_goals
  go_ret
  refine ⟨ret_bool ?_, rfl⟩
  rw [H.out]
  first | (simp [*]; done) | (simp [*]; omega) | (simp [*]; intros; omega)
theorem enter_anyF (h : FSt N w F a d room calls fail) (p : Plc) (k : Int) (hb : mass d + 1 <= 2147483648) (hsz : p.name.size <= 4294967296) (hno : folderErr d p.dir = 0 -> (nd d k).kind = 2 -> ¬ Above d k p.dir) :
 Calls Tryz.prog 41 #[.pointer (some ⟨F, 0, none⟩), plcV p, .int .i64 k] w (FTo N w F a (entrR d room p k).1 room calls fail (.int .i64 (entrR d room p k).2)) := by
 obtain ⟨pn, pd, pm⟩ := p
 unfold plcV entrR
 simp only at hsz hno ⊢
 have kz : Keeps NoB w (w.alloc (.cells #[.int .i64 pn, .int .i64 pd, .string pm] 60)) := (Keeps.refl _ _).alloc _
 have FS := h.on kz
 have b1 := boxed (Keeps.refl NoB (w.alloc (.cells #[.int .i64 pn, .int .i64 pd, .string pm] 60))) 1 (.int .i64 pd) rfl
 have b2 := boxed (Keeps.refl NoB (w.alloc (.cells #[.int .i64 pn, .int .i64 pd, .string pm] 60))) 2 (.string pm) rfl
 have HR := Lib.hid (fun (w1 : World) (h1 : FSt N w1 F a (enterD d room pd pm k) room calls fail) => h1.prog2 fun R hR => release_any hR k)
 have hf : Hid (∀ w1 : World, FSt N w1 F a (enterD d room pd pm k) room calls fail -> w1.cell? ⟨F, 0, none⟩ = some (.pointer (some ⟨a, 0, none⟩))) := fun w1 h => h.c0
 clear h
 have f0 := FS.c0; have f1 := FS.c1; have f2 := FS.c2; have fz := FS.fz; have fl := FS.lt
 go_enter Tryz.func41, Tryz.ntmps41
 go_upto_region 1 with fail
 generalize w.alloc (.cells #[.int .i64 pn, .int .i64 pd, .string pm] 60) = w1 at *
 generalize w.heap.size = hz at *
 have HE := Lib.hid ((FS.on (Keeps.refl NoB w1).drew).prog2 fun R hR => enterD_any hR pd pm k hsz hb hno)
 clear FS hno
 go_still_tail 9, (by kernel_rfl)
 change wpList _ _ _ _ _ w1.drew
 replace kz : Keeps NoB w w1.drew := kz.drew
 generalize w1.drew = w2 at *
 go_wp2_with (first | (go_at_call 51; go_loud (refine HE.out.mono ?_); rintro e w3 ⟨rfl, hs3, hk3⟩; have f30 := hf.out _ hs3; have hr3 := HR.out _ hs3) | (go_at_call 25; go_loud (refine hr3.mono ?_); rintro e w4 ⟨rfl, hs4, hk4⟩))
 go_ret
 exact ⟨rfl, hs4, (kz.of_none.trans hk3).trans hk4⟩
theorem free_any (h : FSt N w F a d room calls fail) (at' mask : Int) (s : ByteArray) (slash : Bool) (hsz : s.size <= 4294967280) :
 Calls Tryz.prog 38 #[.pointer (some ⟨F, 0, none⟩), .agg #[.int .i64 at', .int .i64 mask], .string s, .bool slash] w fun e w' =>
  e = .returned (.tuple #[plcV (freeR d at' s slash).1, .int .i64 (freeR d at' s slash).2]) ∧ Keeps NoB w w' := by
 have ks : Keeps NoB w (w.alloc (.cells #[.int .i64 at', .int .i64 mask] 28)) := (Keeps.refl _ _).alloc _
 have kz : Keeps NoB w ((w.alloc (.cells #[.int .i64 at', .int .i64 mask] 28)).alloc (.cells #[.int .i64 0, .int .i64 0, .string ⟨#[]⟩] 60)) := ks.alloc _
 have FS := h.on kz
 have b0 := boxed (w := w) ((Keeps.refl NoB (w.alloc (.cells #[.int .i64 at', .int .i64 mask] 28))).alloc (.cells #[.int .i64 0, .int .i64 0, .string ⟨#[]⟩] 60)) 0 (.int .i64 at') rfl
 have KB := c3_new (v0 := .int .i64 0) (v1 := .int .i64 0) (v2 := .string ⟨#[]⟩) (Keeps.refl NoB ((w.alloc (.cells #[.int .i64 at', .int .i64 mask] 28)).alloc (.cells #[.int .i64 0, .int .i64 0, .string ⟨#[]⟩] 60)))
 have ew : (w.alloc (.cells #[.int .i64 at', .int .i64 mask] 28)).heap.size = w.heap.size + 1 := by simp
 rw [ew] at KB
 have HFi := Lib.hid (fun (w1 : World) (hk : Keeps NoB ((w.alloc (.cells #[.int .i64 at', .int .i64 mask] 28)).alloc (.cells #[.int .i64 0, .int .i64 0, .string ⟨#[]⟩] 60)) w1) => (FS.on hk).find at' s false hsz)
 have HM := Lib.hid (fun (w1 : World) (hk : Keeps NoB ((w.alloc (.cells #[.int .i64 at', .int .i64 mask] 28)).alloc (.cells #[.int .i64 0, .int .i64 0, .string ⟨#[]⟩] 60)) w1) (i : Int) => may_any (FS.on hk) i 128 (by decide))
 obtain ⟨⟨⟨node, dir, name⟩, fe⟩, hF⟩ : ∃ X, findR d (upC d) false 41 at' s 0 = X := ⟨_, rfl⟩
 have HQ := Lib.hid (show freeR d at' s slash = if fe ≠ 0 then (.no, fe) else if node ≠ 0 then (.no, 13) else if slash = false ∧ endS s = true then (.no, 12) else (⟨node, dir, name⟩, mayE d dir 128) by unfold freeR fndR; rw [hF])
 rw [hF] at HFi
 clear hF h ks ew
 unfold plcV at HFi
 simp only at HFi
 have HFS := Lib.hid FS
 have f0 := FS.c0; have f1 := FS.c1; have f2 := FS.c2; have fz := FS.fz; have fl := FS.lt
 clear FS
 go_enter Tryz.func38, Tryz.ntmps38
 go_upto_region 1 with fail
 generalize ((w.alloc (.cells #[.int .i64 at', .int .i64 mask] 28)).alloc (.cells #[.int .i64 0, .int .i64 0, .string ⟨#[]⟩] 60)) = w1 at *
 go_cut [10, 11] from 10 to 22 (fun x y wx => ∃ G : Nat, w1.heap.size <= G ∧ x = .pointer (some ⟨G, 0, none⟩) ∧ y = .int .i64 fe ∧ wx.cell? ⟨G, 0, none⟩ = some (.int .i64 node) ∧ wx.cell? ⟨G, 1, none⟩ = some (.int .i64 dir) ∧ wx.cell? ⟨G, 2, none⟩ = some (.string name) ∧ Keeps NoB w1 wx)
 case first =>
  have kr := Keeps.refl NoB w1
  have krd := kr.drew
  have d0 := (HFS.out.on krd).c0
  have HB0 := Lib.hid (fun (wx : World) (k : Keeps NoB w1 wx) => (k.cell (p := ⟨w.heap.size, 0, none⟩) (lt_of_cell b0) (fun h => h)).trans b0)
  have d1 := HB0.out _ krd
  go_region_held3 (fun wz => wz.cell? ⟨F, 0, none⟩ = some (.pointer (some ⟨a, 0, none⟩)) ∧ wz.cell? ⟨w.heap.size, 0, none⟩ = some (.int .i64 at') ∧ Keeps NoB w1 wz) (refine ⟨?_, ?_, ?_⟩ <;> first | with_reducible assumption | (with_reducible refine (HFS.out.on ?_).c0; (repeat (first | with_reducible assumption | (with_reducible exact Keeps.refl _ _) | (with_reducible refine Keeps.drew ?_) | (with_reducible refine Keeps.drewN ?_ _) | (with_reducible refine Keeps.alloc ?_ _) | (with_reducible refine Keeps.setCell ?_ (by first | exact Or.inl rfl | exact Or.inr (Nat.le_refl _) | exact Or.inr (by first | (simp; done) | (simp; omega))) _))); done) | (with_reducible refine HB0.out _ ?_; (repeat (first | with_reducible assumption | (with_reducible exact Keeps.refl _ _) | (with_reducible refine Keeps.drew ?_) | (with_reducible refine Keeps.drewN ?_ _) | (with_reducible refine Keeps.alloc ?_ _) | (with_reducible refine Keeps.setCell ?_ (by first | exact Or.inl rfl | exact Or.inr (Nat.le_refl _) | exact Or.inr (by first | (simp; done) | (simp; omega))) _))); done) | ((repeat (first | with_reducible assumption | (with_reducible exact Keeps.refl _ _) | (with_reducible refine Keeps.drew ?_) | (with_reducible refine Keeps.drewN ?_ _) | (with_reducible refine Keeps.alloc ?_ _) | (with_reducible refine Keeps.setCell ?_ (by first | exact Or.inl rfl | exact Or.inr (Nat.le_refl _) | exact Or.inr (by first | (simp; done) | (simp; omega))) _))); done))
   (first | (go_at_call 21; refine (HFi.out _ (by (repeat (first | with_reducible assumption | (with_reducible exact Keeps.refl _ _) | (with_reducible refine Keeps.drew ?_) | (with_reducible refine Keeps.drewN ?_ _) | (with_reducible refine Keeps.alloc ?_ _) | (with_reducible refine Keeps.setCell ?_ (by first | exact Or.inl rfl | exact Or.inr (Nat.le_refl _) | exact Or.inr (by first | (simp; done) | (simp; omega))) _))))).mono ?_; rintro e w2 ⟨rfl, hk2⟩; have zky : Keeps NoB w1 w2 := Keeps.trans (by (repeat (first | with_reducible assumption | (with_reducible exact Keeps.refl _ _) | (with_reducible refine Keeps.drew ?_) | (with_reducible refine Keeps.drewN ?_ _) | (with_reducible refine Keeps.alloc ?_ _) | (with_reducible refine Keeps.setCell ?_ (by first | exact Or.inl rfl | exact Or.inr (Nat.le_refl _) | exact Or.inr (by first | (simp; done) | (simp; omega))) _)))) hk2; have zs := zky.size; have z0 := (HFS.out.on zky).c0; have z1 := HB0.out _ zky; (try (have y0 := boxedD hk2 0 _ rfl; have y1 := boxedD hk2 1 _ rfl; have y2 := boxedD hk2 2 _ rfl; have yf := boxedF hk2))))
  all_goals (go_wp2_with fail; go_meet; refine ⟨_, ?_, rfl, rfl, ?_, ?_, ?_, ?_⟩)
  all_goals first
   | exact Nat.le_refl _
   | exact zs
   | (with_reducible exact boxed (Keeps.refl NoB _) 0 _ rfl)
   | (with_reducible exact boxed (Keeps.refl NoB _) 1 _ rfl)
   | (with_reducible exact boxed (Keeps.refl NoB _) 2 _ rfl)
   | ((repeat (first | with_reducible assumption | (with_reducible exact Keeps.refl _ _) | (with_reducible refine Keeps.drew ?_) | (with_reducible refine Keeps.drewN ?_ _) | (with_reducible refine Keeps.alloc ?_ _) | (with_reducible refine Keeps.setCell ?_ (by first | exact Or.inl rfl | exact Or.inr (Nat.le_refl _) | exact Or.inr (by first | (simp; done) | (simp; omega))) _))); done)
   | (go_simp; done)
   | skip
 case rest =>
  obtain ⟨G, hG, rfl, rfl, g0, g1, g2, hk1⟩ := hcut
  have hGn : ¬ G = w.heap.size + 1 := by have := KB.lt; omega
  have hGl := lt_of_cell g0
  have r0 := (KB.on hk1).c0
  have r1 := (KB.on hk1).c1
  have r2 := (KB.on hk1).c2
  have rf := (KB.on hk1).fz
  have rl := (KB.on hk1).lt
  have hms := Lib.hid (fun (wx : World) (k : Keeps NoB w1 wx) => HM.out wx k dir)
  have HL : Hid (s.size <= 4294967296) := (Nat.le_trans hsz (by decide) : s.size <= 4294967296)
  clear HM HFi HFS KB f0 f1 f2 fz fl b0 hsz
  replace kz := kz.trans hk1
  by_cases he : fe ≠ 0
  ·have hne : (fe != 0) = true := by simpa using he
   rw [if_pos he] at HQ
   clear he
   go_wp2_with fail
   (try simp only [Exit.inBlock, Exit.then])
   refine bodyPost_ret (v := .tuple #[plcV .no, .int .i64 fe]) ?_ rfl ?_
   ·rw [results_cell_tmp rfl]; unfold plcV Plc.no; go_simp
   ·refine ⟨by rw [HQ.out], ?_⟩
    (repeat (first | with_reducible assumption | (with_reducible exact Keeps.refl _ _) | (with_reducible refine Keeps.drew ?_) | (with_reducible refine Keeps.drewN ?_ _) | (with_reducible refine Keeps.alloc ?_ _) | (with_reducible refine Keeps.setCell ?_ (by first | exact Or.inl rfl | exact Or.inr (Nat.le_refl _) | exact Or.inr (by first | (simp; done) | (simp; omega))) _)))
  rw [if_neg he] at HQ
  have he0 : fe = 0 := Classical.not_not.1 he
  subst he0
  by_cases hn : node ≠ 0
  ·have hne : (node != 0) = true := by simpa using hn
   rw [if_pos hn] at HQ
   clear hn he
   go_wp2_with fail
   (try simp only [Exit.inBlock, Exit.then])
   refine bodyPost_ret (v := .tuple #[plcV .no, .int .i64 13]) ?_ rfl ?_
   ·rw [results_cell_tmp rfl]; unfold plcV Plc.no; go_simp
   ·refine ⟨by rw [HQ.out], ?_⟩
    (repeat (first | with_reducible assumption | (with_reducible exact Keeps.refl _ _) | (with_reducible refine Keeps.drew ?_) | (with_reducible refine Keeps.drewN ?_ _) | (with_reducible refine Keeps.alloc ?_ _) | (with_reducible refine Keeps.setCell ?_ (by first | exact Or.inl rfl | exact Or.inr (Nat.le_refl _) | exact Or.inr (by first | (simp; done) | (simp; omega))) _)))
  have hne : (node != 0) = false := by simpa using hn
  rw [if_neg hn] at HQ
  clear hn he
  have HSS := Lib.hid (fun wx : World => hs1 s wx HL.out)
  by_cases hsl : slash = false ∧ endS s = true
  ·rw [if_pos hsl] at HQ
   obtain ⟨e1, e2⟩ := hsl
   subst e1
   rw [e2] at HSS
   clear e2
   go_wp2_with (go_at_call 45; refine (HSS.out _).mono ?_; rintro e w' ⟨rfl, rfl⟩)
   (try simp only [Exit.inBlock, Exit.then])
   refine bodyPost_ret (v := .tuple #[plcV .no, .int .i64 12]) ?_ rfl ?_
   ·rw [results_cell_tmp rfl]; unfold plcV Plc.no; go_simp
   ·refine ⟨by rw [HQ.out], ?_⟩
    (repeat (first | with_reducible assumption | (with_reducible exact Keeps.refl _ _) | (with_reducible refine Keeps.drew ?_) | (with_reducible refine Keeps.drewN ?_ _) | (with_reducible refine Keeps.alloc ?_ _) | (with_reducible refine Keeps.setCell ?_ (by first | exact Or.inl rfl | exact Or.inr (Nat.le_refl _) | exact Or.inr (by first | (simp; done) | (simp; omega))) _)))
  rw [if_neg hsl] at HQ
  have hcs : slash = true ∨ (slash = false ∧ endS s = false) := by
   cases slash
   ·right; refine ⟨rfl, ?_⟩; simpa using hsl
   ·exact .inl rfl
  clear hsl hG
  have hgs := Lib.hid (fun (wx : World) (k : Keeps NoB wc wx) => (⟨(k.cell (p := ⟨G, 0, none⟩) hGl (fun h => h)).trans g0, (k.cell (p := ⟨G, 1, none⟩) hGl (fun h => h)).trans g1, (k.cell (p := ⟨G, 2, none⟩) hGl (fun h => h)).trans g2,
   (k.cell (p := ⟨w.heap.size + 1, 0, none⟩) rl (fun h => h)).trans r0, (k.cell (p := ⟨w.heap.size + 1, 1, none⟩) rl (fun h => h)).trans r1, (k.cell (p := ⟨w.heap.size + 1, 2, none⟩) rl (fun h => h)).trans r2, fun j => (k.frozen (p := ⟨w.heap.size + 1, j, none⟩) rl (fun h => h)).trans (rf j)⟩ :
   wx.cell? ⟨G, 0, none⟩ = some (.int .i64 node) ∧ wx.cell? ⟨G, 1, none⟩ = some (.int .i64 dir) ∧ wx.cell? ⟨G, 2, none⟩ = some (.string name) ∧ wx.cell? ⟨w.heap.size + 1, 0, none⟩ = some (.int .i64 0) ∧ wx.cell? ⟨w.heap.size + 1, 1, none⟩ = some (.int .i64 0) ∧ wx.cell? ⟨w.heap.size + 1, 2, none⟩ = some (.string ⟨#[]⟩) ∧ ∀ j, wx.frozen? ⟨w.heap.size + 1, j, none⟩ = false))
  have kc := Keeps.refl NoB wc
  rcases hcs with rfl | ⟨rfl, he2⟩
  ·clear HSS
   go_upto_region 8 with fail
   go_region_with (go_at_call 50; refine (hms.out _ (hk1.trans (by (repeat (first | with_reducible assumption | (with_reducible exact Keeps.refl _ _) | (with_reducible refine Keeps.drew ?_) | (with_reducible refine Keeps.drewN ?_ _) | (with_reducible refine Keeps.alloc ?_ _) | (with_reducible refine Keeps.setCell ?_ (by first | exact Or.inl rfl | exact Or.inr (Nat.le_refl _) | exact Or.inr (by first | (simp; done) | (simp; omega))) _)))))).mono ?_; rintro e w2 ⟨rfl, hk2⟩; obtain ⟨z0, z1, z2, x0, x1, x2, xf⟩ := hgs.out w2 (Keeps.trans (by (repeat (first | with_reducible assumption | (with_reducible exact Keeps.refl _ _) | (with_reducible refine Keeps.drew ?_) | (with_reducible refine Keeps.drewN ?_ _) | (with_reducible refine Keeps.alloc ?_ _) | (with_reducible refine Keeps.setCell ?_ (by first | exact Or.inl rfl | exact Or.inr (Nat.le_refl _) | exact Or.inr (by first | (simp; done) | (simp; omega))) _)))) hk2))
   all_goals
    replace kz := kz.trans (Keeps.trans (by (repeat (first | with_reducible assumption | (with_reducible exact Keeps.refl _ _) | (with_reducible refine Keeps.drew ?_) | (with_reducible refine Keeps.drewN ?_ _) | (with_reducible refine Keeps.alloc ?_ _) | (with_reducible refine Keeps.setCell ?_ (by first | exact Or.inl rfl | exact Or.inr (Nat.le_refl _) | exact Or.inr (by first | (simp; done) | (simp; omega))) _)))) hk2)
    go_wp2_with fail
    (try simp only [Exit.inBlock, Exit.then])
    refine bodyPost_ret (v := .tuple #[plcV ⟨node, dir, name⟩, .int .i64 (mayE d dir 128)]) ?_ rfl ?_
    ·rw [results_cell_tmp rfl]; unfold plcV; go_simp
    ·refine ⟨by rw [HQ.out], ?_⟩
     (repeat (first | with_reducible assumption | (with_reducible exact Keeps.refl _ _) | (with_reducible refine Keeps.drew ?_) | (with_reducible refine Keeps.drewN ?_ _) | (with_reducible refine Keeps.alloc ?_ _) | (with_reducible refine Keeps.setCell ?_ (by first | exact Or.inl rfl | exact Or.inr (Nat.le_refl _) | exact Or.inr (by first | (simp; done) | (simp; omega))) _)))
  ·rw [he2] at HSS
   clear he2
   go_upto_region 8 with (go_at_call 45; refine (HSS.out _).mono ?_; rintro e w' ⟨rfl, rfl⟩)
   go_region_with (go_at_call 50; refine (hms.out _ (hk1.trans (by (repeat (first | with_reducible assumption | (with_reducible exact Keeps.refl _ _) | (with_reducible refine Keeps.drew ?_) | (with_reducible refine Keeps.drewN ?_ _) | (with_reducible refine Keeps.alloc ?_ _) | (with_reducible refine Keeps.setCell ?_ (by first | exact Or.inl rfl | exact Or.inr (Nat.le_refl _) | exact Or.inr (by first | (simp; done) | (simp; omega))) _)))))).mono ?_; rintro e w2 ⟨rfl, hk2⟩; obtain ⟨z0, z1, z2, x0, x1, x2, xf⟩ := hgs.out w2 (Keeps.trans (by (repeat (first | with_reducible assumption | (with_reducible exact Keeps.refl _ _) | (with_reducible refine Keeps.drew ?_) | (with_reducible refine Keeps.drewN ?_ _) | (with_reducible refine Keeps.alloc ?_ _) | (with_reducible refine Keeps.setCell ?_ (by first | exact Or.inl rfl | exact Or.inr (Nat.le_refl _) | exact Or.inr (by first | (simp; done) | (simp; omega))) _)))) hk2))
   all_goals
    replace kz := kz.trans (Keeps.trans (by (repeat (first | with_reducible assumption | (with_reducible exact Keeps.refl _ _) | (with_reducible refine Keeps.drew ?_) | (with_reducible refine Keeps.drewN ?_ _) | (with_reducible refine Keeps.alloc ?_ _) | (with_reducible refine Keeps.setCell ?_ (by first | exact Or.inl rfl | exact Or.inr (Nat.le_refl _) | exact Or.inr (by first | (simp; done) | (simp; omega))) _)))) hk2)
    go_wp2_with fail
    (try simp only [Exit.inBlock, Exit.then])
    refine bodyPost_ret (v := .tuple #[plcV ⟨node, dir, name⟩, .int .i64 (mayE d dir 128)]) ?_ rfl ?_
    ·rw [results_cell_tmp rfl]; unfold plcV; go_simp
    ·refine ⟨by rw [HQ.out], ?_⟩
     (repeat (first | with_reducible assumption | (with_reducible exact Keeps.refl _ _) | (with_reducible refine Keeps.drew ?_) | (with_reducible refine Keeps.drewN ?_ _) | (with_reducible refine Keeps.alloc ?_ _) | (with_reducible refine Keeps.setCell ?_ (by first | exact Or.inl rfl | exact Or.inr (Nat.le_refl _) | exact Or.inr (by first | (simp; done) | (simp; omega))) _)))
end
end Go.Proofs.YtimidmogcbapnaaGreatDoor
namespace Go.Proofs.YtimidmogcbapnaaGreatDoor
theorem Kills.node {d d' : Nds} (h : Kills d d') (i : Int) : nd d' i = nd d i ∨ nd d' i = Nd.gone := by
 induction h with
 | refl => exact .inl rfl
 | step j hj _ ih =>
   rw [nd_kill hj.1] at ih
   split at ih
   ·exact .inr (ih.elim id id)
   ·exact ih
theorem relErr_ok {d : Nds} {i : Int} (h1 : has d i) (h2 : (nd d i).holds ≠ 0) : relErr d i = 0 := by
 unfold relErr
 rw [if_neg h1, if_neg h2]
theorem makeErr_kind {d : Nds} {room kind m : Int} {s : ByteArray} (h : makeErr d room kind m s = 0) : 1 <= kind ∧ kind <= 3 := by
 unfold makeErr at h
 split at h; · cases h
 split at h; · cases h
 omega
theorem enterErr_folder {d : Nds} {room i k : Int} {name : ByteArray} (h : enterErr d room i name k = 0) : folderErr d i = 0 ∧ putErr (nd d i).ents name = 0 := by
 unfold enterErr at h
 split at h
 ·next e => exact absurd h e
 ·next e =>
  refine ⟨Classical.not_not.1 e, ?_⟩
  split at h; · cases h
  split at h; · cases h
  split at h; · cases h
  split at h
  ·next e => exact absurd h e
  ·next e => exact Classical.not_not.1 e
theorem folderErr_has {d : Nds} {i : Int} (h : folderErr d i = 0) : has d i ∧ (nd d i).kind = 2 := by
 unfold folderErr at h
 split at h; · cases h
 split at h
 ·next e1 e2 => exact ⟨e1, e2⟩
 ·cases h
theorem fresh_above {d : Nds} {n : Nd} (hn : n.ents = []) {i : Int} (hi : i ≠ d.length) : ¬ Above (d ++ [n]) d.length i := by
 have : ∀ i, Above (d ++ [n]) d.length i -> i = d.length := by
  intro i h
  induction h with
  | self => rfl
  | step hp _ ih =>
    obtain ⟨_, e, he, _⟩ := hp
    rw [ih, nd_append, if_pos rfl, hn] at he
    cases he
 exact fun h => hi (this i h)
theorem nd_relTo {d : Nds} {i : Int} (hi : has d i) (j : Int) : nd (relTo d i) j = if j = i then (nd d i).setHolds ((nd d i).holds - 1) else nd d j := nd_upd (has_range hi).1 (has_range hi).2 _ _
theorem stepR_size (d : Nds) (up : Int -> Int) (at' : Int) (x : ByteArray) (follow : Bool) (n : Nat) : (stepR d up at' x follow n).p.name.size <= 255 := by
 unfold stepR
 split; · exact Nat.zero_le _
 split; · exact Nat.zero_le _
 split; · exact Nat.zero_le _
 split; · exact Nat.zero_le _
 split; · next h _ => exact Nat.le_of_not_lt h
 split; · next h _ _ => exact Nat.le_of_not_lt h
 split; · exact Nat.zero_le _
 next h _ _ _ => exact Nat.le_of_not_lt h
theorem scan_size (d : Nds) (up : Int -> Int) (slash follow : Bool) : ∀ (l : List ByteArray) (at' : Int) (n : Nat) (p q : Plc), p.name.size <= 255 -> scan d up slash follow l at' n p = .fin q -> q.name.size <= 255
 | [], _, _, p, q, hp, h => by
   unfold scan at h
   cases h
   exact hp
 | x :: r, at', n, p, q, hp, h => by
   unfold scan at h
   simp only at h
   split at h; · cases h
   split at h; · cases h
   split at h; · cases h
   exact scan_size d up slash follow r _ _ _ q (stepR_size _ _ _ _ _ _) h
theorem findR_size (d : Nds) (up : Int -> Int) (follow : Bool) : ∀ (fuel : Nat) (from' : Int) (s : ByteArray) (n : Nat), (findR d up follow fuel from' s n).1.name.size <= 255
 | 0, _, _, _ => by unfold findR; decide
 | fuel + 1, from', s, n => by
   unfold findR
   split; · exact Nat.zero_le _
   split; · exact Nat.zero_le _
   split
   ·next p hp =>
    have := scan_size d up (endS s) follow _ _ _ _ _ (Nat.zero_le _) hp
    unfold endR
    split; · exact this
    split; · exact Nat.zero_le _
    exact this
   ·exact Nat.zero_le _
   ·exact findR_size d up follow fuel _ _ _
theorem fndR_size (d : Nds) (at' : Int) (s : ByteArray) (follow : Bool) : (fndR d at' s follow).1.name.size <= 255 := findR_size _ _ _ _ _ _ _
theorem thrR_ok {d : Nds} {at' : Int} {s : ByteArray} {follow : Bool} (h : (thrR d at' s follow).2 = 0) : thrR d at' s follow = fndR d at' s follow ∧ (fndR d at' s follow).1.node ≠ 0 := by
 unfold thrR thereR at *
 split at h
 ·next h1 => exact absurd h h1
 ·next h1 =>
  rw [if_neg h1]
  split at h
  ·cases h
  ·next h2 => rw [if_neg h2]; exact ⟨rfl, h2⟩
theorem freeR_ok {d : Nds} {at' : Int} {s : ByteArray} {slash : Bool} {p : Plc} (h : freeR d at' s slash = (p, 0)) : has d p.dir ∧ p.name.size <= 255 ∧ p.node = 0 ∧ p = (fndR d at' s false).1 ∧ mayE d p.dir 128 = 0 := by
 have hsz := fndR_size d at' s false
 unfold freeR at h
 split at h
 ·next h1 => rw [Prod.mk.injEq] at h; exact absurd h.2 h1
 split at h
 ·rw [Prod.mk.injEq] at h; exact absurd h.2 (by decide)
 split at h
 ·rw [Prod.mk.injEq] at h; exact absurd h.2 (by decide)
 next h1 h2 h3 =>
 rw [Prod.mk.injEq] at h
 obtain ⟨rfl, h4⟩ := h
 refine ⟨?_, hsz, Classical.not_not.1 h2, rfl, h4⟩
 unfold mayE at h4
 split at h4
 ·cases h4
 ·next hh => exact Classical.not_not.1 hh
theorem makeTo_ok {d : Nds} {room kind m : Int} {s : ByteArray} (h : makeErr d room kind m s = 0) : makeTo d room kind m s = d ++ [newNd kind m s] ∧ makeId d room kind m s = d.length := by
 unfold makeTo makeId
 rw [if_pos h, if_pos h]
 exact ⟨rfl, rfl⟩
theorem mass_made (d : Nds) (kind m : Int) (s : ByteArray) : mass (d ++ [newNd kind m s]) = mass d + 2 := by
 rw [mass_append]
 rfl
theorem made_above {d : Nds} {kind m : Int} {s : ByteArray} {i : Int} (hi : has d i) : ¬ Above (d ++ [newNd kind m s]) d.length i := fresh_above rfl (fun e => by
 have := (has_range hi)
 omega)
end Go.Proofs.YtimidmogcbapnaaGreatDoor
namespace Go.Proofs.YtimidmogcbapnaaGreatDoor
open Go Go.RowKit
section
variable {N : Nat -> Prop} {w w' : World} {F a : Nat} {d d' : Nds} {room calls fail : Int}
theorem there_any (h : FSt N w F a d room calls fail) (hbm : mass d + 1 <= 2147483648) (k flags : Int) :
 Calls Tryz.prog 23 #[.pointer (some ⟨F, 0, none⟩), .int .i64 k, .int .i64 flags] w
  (FTo N w F a (openedR d k flags).1 room calls fail (.tuple #[.int .i64 (openedR d k flags).2.1, .int .i64 (openedR d k flags).2.2])) := by
 obtain ⟨O, hO⟩ : ∃ O, openedR d k flags = O := ⟨_, rfl⟩
 have HOF := Lib.hid (show O = openedR d k flags from hO.symm)
 rw [hO]
 unfold openedR at HOF
 obtain ⟨ik, im, il, ih, iz, hik, him, _, hie⟩ := h.tell k
 have hM : has d k -> 0 <= im ∧ im <= 4095 := fun hh => by rw [him hh]; exact ⟨(h.pd.inv.node k).mode0, (h.pd.inv.node k).mode1⟩
 obtain ⟨ie, hie2⟩ : ∃ ie, (if has d k then 0 else 12 : Int) = ie := ⟨_, rfl⟩
 have HIn := Lib.hid (h.info k)
 rw [hie, hie2] at HIn
 have f0 := h.c0
 obtain ⟨te, hte⟩ : ∃ te, thereErr d k flags = te := ⟨_, rfl⟩
 have HTE := Lib.hid (show te = if ik = 2 then 15 else if ik ≠ 1 then 17 else if (flg flags 1 = true ∧ (bits BinOp.and IntKind.i64 im 256 == 0) = true) ∨ (flg flags 10 = true ∧ (bits BinOp.and IntKind.i64 im 128 == 0) = true) then 19 else 0 by
  rw [<- hte]
  unfold thereErr
  rw [<- hik]
  by_cases k2 : ik = 2
  ·rw [if_pos k2, if_pos k2]
  rw [if_neg k2, if_neg k2]
  by_cases k1 : ik ≠ 1
  ·rw [if_pos k1, if_pos k1]
  rw [if_neg k1, if_neg k1]
  have hh : has d k := by unfold has; rw [<- hik]; have := Classical.not_not.1 k1; omega
  have e1 := bitsB_of 256 (by decide) im (hM hh).1 (hM hh).2
  have e2 := bitsB_of 128 (by decide) im (hM hh).1 (hM hh).2
  rw [show ((256 : Nat) : Int) = 256 from rfl] at e1
  rw [show ((128 : Nat) : Int) = 128 from rfl] at e2
  rw [e1, e2, him hh]
  simp only [decide_eq_true_eq])
 rw [hte] at HOF
 clear hO hie hie2 hik him hM hte
 have HFS0 := Lib.hid h
 clear h
 go_enter Tryz.func23, Tryz.ntmps23
 go_upto_region 2 with (go_at_call 37; go_loud (refine HIn.out.mono ?_); rintro e w2 ⟨rfl, k2⟩)
 have HI := Lib.hid (Bx.new (Keeps.refl NoB (w2.alloc (.cells #[.int .i64 ik, .int .i64 im, .int .i64 il, .int .i64 ih, .int .i64 iz] 42))))
 have hk1 : Keeps NoB w (w2.alloc (.cells #[.int .i64 ik, .int .i64 im, .int .i64 il, .int .i64 ih, .int .i64 iz] 42)) := k2.alloc _
 have HFS := Lib.hid (HFS0.out.on hk1)
 have HK := Lib.hid (hk1.of_none (F := fun g => ¬ N g))
 have HSub : Hid (∀ g, N g -> N g) := fun g hg => hg
 clear HIn k2 hk1 f0 HFS0
 generalize w2.alloc (.cells #[.int .i64 ik, .int .i64 im, .int .i64 il, .int .i64 ih, .int .i64 iz] 42) = wc at *
 generalize w2.heap.size = IB at *
 have i0 := HI.out.cell 0 _ rfl
 have i1 := HI.out.cell 1 _ rfl
 have hb2 : (ik == 2) = decide (ik = 2) := by rw [Bool.eq_iff_iff]; simp
 have hb1 : (ik != 1) = decide (ik ≠ 1) := by rw [Bool.eq_iff_iff]; simp
 by_cases k2 : ik = 2
 ·rw [decide_eq_true k2] at hb2
  replace HOF := Lib.hid (show O = (d, 0, 15) by rw [HOF.out, HTE.out, if_pos k2, if_pos (by decide)])
  clear k2 hb1
  go_wp2_with fail
  go_ret2
  exact ⟨ret_two (by rw [HOF.out]) (by rw [HOF.out]), (by rw [HOF.out]; exact HFS.out.less HSub.out), HK.out⟩
 rw [decide_eq_false k2] at hb2
 by_cases k1 : ik ≠ 1
 ·rw [decide_eq_true k1] at hb1
  replace HOF := Lib.hid (show O = (d, 0, 17) by rw [HOF.out, HTE.out, if_neg k2, if_pos k1, if_pos (by decide)])
  clear k2 k1
  go_wp2_with fail
  go_ret2
  exact ⟨ret_two (by rw [HOF.out]) (by rw [HOF.out]), (by rw [HOF.out]; exact HFS.out.less HSub.out), HK.out⟩
 rw [decide_eq_false k1] at hb1
 rw [if_neg k2, if_neg k1] at HTE
 clear k1 k2
 have g1 := flg_one flags 1
 have g10 := flg_one flags 10
 have g8 := flg_one flags 8
 obtain ⟨x1, hx1⟩ : ∃ x1, flg flags 1 = x1 := ⟨_, rfl⟩
 obtain ⟨x2, hx2⟩ : ∃ x2, flg flags 10 = x2 := ⟨_, rfl⟩
 obtain ⟨x8, hx8⟩ : ∃ x8, flg flags 8 = x8 := ⟨_, rfl⟩
 obtain ⟨y1, hy1⟩ : ∃ y1, (bits BinOp.and IntKind.i64 im 256 == 0) = y1 := ⟨_, rfl⟩
 obtain ⟨y2, hy2⟩ : ∃ y2, (bits BinOp.and IntKind.i64 im 128 == 0) = y2 := ⟨_, rfl⟩
 rw [hx1] at g1 HTE
 rw [hx2] at g10 HTE
 rw [hx8] at g8 HOF
 rw [hy1, hy2] at HTE
 clear hx1 hx2 hx8
 by_cases hz : (x1 = true ∧ y1 = true) ∨ (x2 = true ∧ y2 = true)
 ·replace HOF := Lib.hid (show O = (d, 0, 19) by rw [HOF.out, HTE.out, if_pos hz, if_pos (by decide)])
  clear HTE
  cases x1 <;> cases y1 <;> cases x2 <;> cases y2 <;> first
   | (exfalso; revert hz; decide)
   | (clear hz; go_wp2_with fail; go_ret2; exact ⟨ret_two (by rw [HOF.out]) (by rw [HOF.out]), (by rw [HOF.out]; exact HFS.out.less HSub.out), HK.out⟩)
 rw [if_neg hz] at HTE
 have HTE0 := HTE.out
 subst HTE0
 rw [if_neg (by simp)] at HOF
 have HEm := Lib.hid (HFS.out.prog2 fun R hR => empty_any hR k)
 have f0 := HFS.out.c0
 clear HTE
 cases x8 with
 | false =>
   simp only [Bool.false_eq_true, if_false] at HOF
   have HHo := Lib.hid (HFS.out.prog2 fun R hR => holdD_any hR k hbm)
   rw [show (if has d k then holdTo d k else d) = (O : Nds × Int × Int).1 by rw [HOF.out] <;> rfl, show (if has d k then 0 else 12 : Int) = (O : Nds × Int × Int).2.2 by rw [HOF.out] <;> rfl] at HHo
   cases x1 <;> cases y1 <;> cases x2 <;> cases y2 <;> first
    | (exfalso; revert hz; decide)
    | (clear hz; go_wp2_with (go_at_call 53; go_loud (refine HHo.out.mono ?_); rintro e w4 ⟨rfl, FS4, k4⟩); go_ret2; exact ⟨ret_two (by rw [HOF.out]) rfl, FS4, HK.out.trans k4⟩)
 | true =>
   simp only [if_true] at HOF
   have HHo := Lib.hid (fun (wx : World) (hx : FSt N wx F a (emptyD d k) room calls fail) => hx.prog2 fun R hR => holdD_any hR k (by
    have : mass (emptyD d k) <= mass d := by
     unfold emptyD
     split
     ·next hf =>
      obtain ⟨hi, _⟩ := fileErr_zero hf
      have := mass_upd (n := (nd d k).setData ⟨#[]⟩) hi
      have e : mass1 ((nd d k).setData ⟨#[]⟩) = mass1 (nd d k) := rfl
      unfold emptyTo
      omega
     ·exact Nat.le_refl _
    omega))
   rw [show (if has (emptyD d k) k then holdTo (emptyD d k) k else emptyD d k) = (O : Nds × Int × Int).1 by rw [HOF.out] <;> rfl, show (if has (emptyD d k) k then 0 else 12 : Int) = (O : Nds × Int × Int).2.2 by rw [HOF.out] <;> rfl] at HHo
   cases x1 <;> cases y1 <;> cases x2 <;> cases y2 <;> first
    | (exfalso; revert hz; decide)
    | (clear hz; go_wp2_with (first | (go_at_call 52; go_loud (refine HEm.out.mono ?_); rintro e w3 ⟨rfl, FS3, k3⟩; have f3 := FS3.c0; clear f0) | (go_at_call 53; go_loud (refine (HHo.out _ FS3).mono ?_); rintro e w4 ⟨rfl, FS4, k4⟩)); go_ret2; exact ⟨ret_two (by rw [HOF.out]) rfl, FS4, (HK.out.trans k3).trans k4⟩)
end
section
variable {N : Nat -> Prop} {w w' : World} {F a : Nat} {d d' : Nds} {room calls fail : Int}
theorem fresh_anyF (h : FSt N w F a d room calls fail) (hbm : mass d + 3 <= 2147483648) (at' mask : Int) (p : Plc) (hpz : p.name.size <= 255) (s : ByteArray) (flags m : Int) (hsz : s.size <= 4294967280) :
 Calls Tryz.prog 22 #[.pointer (some ⟨F, 0, none⟩), .agg #[.int .i64 at', .int .i64 mask], plcV p, .string s, .int .i64 flags, .int .i64 m] w
  (FTo N w F a (freshR d room mask p s flags m).1 room calls fail (.tuple #[.int .i64 (freshR d room mask p s flags m).2.1, .int .i64 (freshR d room mask p s flags m).2.2])) := by
 obtain ⟨pn, pd, pm⟩ := p
 unfold plcV
 simp only at hpz ⊢
 obtain ⟨O, hO⟩ : ∃ O, freshR d room mask ⟨pn, pd, pm⟩ s flags m = O := ⟨_, rfl⟩
 have HOF := Lib.hid (show O = freshR d room mask ⟨pn, pd, pm⟩ s flags m from hO.symm)
 rw [hO]
 unfold freshR at HOF
 simp only at HOF
 have ks : Keeps NoB w (w.alloc (.cells #[.int .i64 at', .int .i64 mask] 28)) := (Keeps.refl _ _).alloc _
 have kz : Keeps NoB w ((w.alloc (.cells #[.int .i64 at', .int .i64 mask] 28)).alloc (.cells #[.int .i64 pn, .int .i64 pd, .string pm] 60)) := ks.alloc _
 obtain ⟨N1, hsub, hnew, FS⟩ := h.wider kz
 have HW := Lib.hid (Bx.new (w := w) ((Keeps.refl NoB (w.alloc (.cells #[.int .i64 at', .int .i64 mask] 28))).alloc (.cells #[.int .i64 pn, .int .i64 pd, .string pm] 60)))
 have HP := Lib.hid (Bx.new (Keeps.refl NoB ((w.alloc (.cells #[.int .i64 at', .int .i64 mask] 28)).alloc (.cells #[.int .i64 pn, .int .i64 pd, .string pm] 60))))
 have esz : (w.alloc (.cells #[.int .i64 at', .int .i64 mask] 28)).heap.size = w.heap.size + 1 := by simp
 rw [esz] at HP
 have HNW := Lib.hid (hnew w.heap.size (Nat.le_refl _) (by first | (simp; done) | (simp; omega)))
 have HNP := Lib.hid (hnew (w.heap.size + 1) (by omega) (by first | (simp; done) | (simp; omega)))
 have HK := Lib.hid (kz.of_none (F := fun g => ¬ N g))
 have HSub := Lib.hid hsub
 have HFS := Lib.hid FS
 have HSS := Lib.hid (fun wx : World => hs1 s wx (Nat.le_trans hsz (by decide)))
 have g4 := flg_zero flags 4
 clear hO hsub hnew h ks kz FS hsz esz
 go_enter Tryz.func22, Tryz.ntmps22
 go_upto_region 1 with fail
 generalize ((w.alloc (.cells #[.int .i64 at', .int .i64 mask] 28)).alloc (.cells #[.int .i64 pn, .int .i64 pd, .string pm] 60)) = wc at *
 generalize w.heap.size = W at *
 obtain ⟨x4, hx4⟩ : ∃ x4, flg flags 4 = x4 := ⟨_, rfl⟩
 rw [hx4] at g4 HOF
 clear hx4
 cases x4 with
 | false =>
   replace HOF := Lib.hid (show O = (d, 0, 12) by rw [HOF.out, if_pos rfl])
   go_wp2_with fail
   go_ret2
   exact ⟨ret_two (by rw [HOF.out]) (by rw [HOF.out]), (by rw [HOF.out]; exact HFS.out.less HSub.out), HK.out⟩
 | true =>
 rw [if_neg (by simp)] at HOF
 obtain ⟨xs, hxs⟩ : ∃ xs, endS s = xs := ⟨_, rfl⟩
 rw [hxs] at HSS HOF
 clear hxs
 cases xs with
 | true =>
   replace HOF := Lib.hid (show O = (d, 0, 15) by rw [HOF.out, if_pos rfl])
   go_wp2_with (go_at_call 45; refine (HSS.out _).mono ?_; rintro e w' ⟨rfl, rfl⟩)
   go_ret2
   exact ⟨ret_two (by rw [HOF.out]) (by rw [HOF.out]), (by rw [HOF.out]; exact HFS.out.less HSub.out), HK.out⟩
 | false =>
 rw [if_neg (by simp)] at HOF
 have HMy := Lib.hid (may_any HFS.out pd 128 (by decide))
 rw [show ((128 : Nat) : Int) = 128 from rfl] at HMy
 obtain ⟨m1, hm1⟩ : ∃ m1, mayE d pd 128 = m1 := ⟨_, rfl⟩
 rw [hm1] at HMy HOF
 clear hm1
 have p1 := HP.out.cell 1 _ rfl
 go_upto_region 6 with (first | (go_at_call 45; refine (HSS.out _).mono ?_; rintro e w' ⟨rfl, rfl⟩) | (go_at_call 50; go_loud (refine HMy.out.mono ?_); rintro e w2 ⟨rfl, hk1⟩))
 clear p1 HMy HSS
 replace HFS := Lib.hid (HFS.out.on hk1)
 replace HK := Lib.hid (HK.out.trans hk1.of_none)
 replace HW := Lib.hid (HW.out.on hk1)
 replace HP := Lib.hid (HP.out.on hk1)
 clear hk1
 by_cases hz : m1 ≠ 0
 ·have hb : (m1 != 0) = true := by simpa using hz
  rw [if_pos hz] at HOF
  clear hz
  go_wp2_with fail
  go_ret2
  exact ⟨ret_two (by rw [HOF.out]) (by rw [HOF.out]), (by rw [HOF.out]; exact HFS.out.less HSub.out), HK.out⟩
 rw [if_neg hz] at HOF
 obtain rfl : m1 = 0 := Classical.not_not.1 hz
 clear hz
 have f0 := HFS.out.c0
 have b1 := HW.out.cell 1 _ rfl
 go_upto_region 8 with fail
 have HMk := Lib.hid ((HFS.out.on (Keeps.refl NoB w2).drew).prog2 fun R hR => makeD_any hR 1 (freshM m mask) ⟨#[]⟩ (by omega) (by decide))
 go_cut [15, 16] from 15 to 43 (fun x y wx => x = .int .i64 (makeId d room 1 (freshM m mask) ⟨#[]⟩) ∧ y = .int .i64 (makeErr d room 1 (freshM m mask) ⟨#[]⟩) ∧ FSt N1 wx F a (makeTo d room 1 (freshM m mask) ⟨#[]⟩) room calls fail ∧ Keeps (fun g => ¬ N1 g) w2 wx)
 case first =>
  generalize makeId d room 1 (freshM m mask) ⟨#[]⟩ = mi at *
  generalize makeErr d room 1 (freshM m mask) ⟨#[]⟩ = me at *
  generalize makeTo d room 1 (freshM m mask) ⟨#[]⟩ = mt at *
  have d0 := (HFS.out.on (Keeps.refl NoB w2).drew).c0
  have d1 := (HW.out.on (Keeps.refl NoB w2).drew).cell 1 _ rfl
  go_region_held3 (fun wz => wz.cell? ⟨F, 0, none⟩ = some (.pointer (some ⟨a, 0, none⟩)) ∧ wz.cell? ⟨W, 1, none⟩ = some (.int .i64 mask)) (refine ⟨?_, ?_⟩ <;> with_reducible assumption)
   (first | (go_at_call 40; refine (fresh_any _ _ _).mono ?_; rintro e wq ⟨rfl, rfl⟩) | (go_at_call 39; refine HMk.out.mono ?_; rintro e w4 ⟨rfl, FS4, k4⟩; have z0 := FS4.c0; have z1 := ((HW.out.on (Keeps.refl NoB w2).drew).keep k4 (fun hh => hh HNW.out)).cell 1 _ rfl))
  all_goals (go_wp2_with fail; go_meet; exact ⟨rfl, rfl, FS4, (Keeps.refl _ _).drew.trans k4⟩)
 case rest =>
  obtain ⟨rfl, rfl, FS, k4⟩ := hcut
  replace HK := Lib.hid (HK.out.trans (k4.mono (fun g _ hg hN => hg (HSub.out g hN))))
  replace HP := Lib.hid (HP.out.keep k4 (fun hh => hh HNP.out))
  clear f0 b1 HW HFS HMk k4
  obtain ⟨me, hme⟩ : ∃ me, makeErr d room 1 (freshM m mask) ⟨#[]⟩ = me := ⟨_, rfl⟩
  obtain ⟨mi, hmi⟩ : ∃ mi, makeId d room 1 (freshM m mask) ⟨#[]⟩ = mi := ⟨_, rfl⟩
  obtain ⟨mt, hmt⟩ : ∃ mt, makeTo d room 1 (freshM m mask) ⟨#[]⟩ = mt := ⟨_, rfl⟩
  rw [hmt] at FS
  rw [hme] at HOF ⊢
  rw [hmi]
  have HFS := Lib.hid FS
  clear FS
  by_cases hz : me ≠ 0
  ·have ht : mt = d := by rw [<- hmt]; unfold makeTo; rw [if_neg (by rw [hme]; exact hz)]
   subst ht
   rw [if_pos hz] at HOF
   have hb : (me != 0) = true := by simpa using hz
   clear hz hme hmi hmt
   go_wp2_with fail
   go_ret2
   exact ⟨ret_two (by rw [HOF.out]) (by rw [HOF.out]), (by rw [HOF.out]; exact HFS.out.less HSub.out), HK.out⟩
  rw [if_neg hz] at HOF
  obtain rfl : me = 0 := Classical.not_not.1 hz
  obtain ⟨e1, e2⟩ := makeTo_ok hme
  rw [<- hmt, e1] at HFS
  rw [<- hmi, e2]
  have HEn := Lib.hid ((HFS.out.on (Keeps.refl NoB wc).drew).prog2 fun R hR => enterD_any hR pd pm d.length (Nat.le_trans hpz (by decide)) (by rw [mass_made]; omega) (fun _ h2 => by rw [show nd (d ++ [newNd 1 (freshM m mask) ⟨#[]⟩]) d.length = newNd 1 (freshM m mask) ⟨#[]⟩ by rw [nd_append, if_pos rfl]] at h2; cases h2))
  obtain ⟨ee, hee⟩ : ∃ ee, enterErr (d ++ [newNd 1 (freshM m mask) ⟨#[]⟩]) room pd pm d.length = ee := ⟨_, rfl⟩
  obtain ⟨ed, hed⟩ : ∃ ed, enterD (d ++ [newNd 1 (freshM m mask) ⟨#[]⟩]) room pd pm d.length = ed := ⟨_, rfl⟩
  rw [hee, hed] at HEn HOF
  have HRl := Lib.hid (fun (wx : World) (hx : FSt N1 wx F a ed room calls fail) => hx.prog2 fun R hR => release_any hR d.length)
  rw [show (if relErr ed d.length = 0 then gc (relTo ed d.length) else ed) = relD ed d.length from rfl] at HRl
  have f0 := HFS.out.c0
  have p1 := HP.out.cell 1 _ rfl
  have p2 := HP.out.cell 2 _ rfl
  generalize (d.length : Int) = id at *
  clear hz hme hmi hmt hee hed e1 e2 HP
  go_upto_region 11 with fail
  go_still_tail 9, (by kernel_rfl)
  change wpList _ _ _ _ _ wc.drew
  replace HK : Hid (Keeps (fun g => ¬ N g) w wc.drew) := HK.out.drew
  clear f0 p1 p2 HFS
  generalize wc.drew = wd at *
  by_cases hz : ee ≠ 0
  ·have hb : (ee != 0) = true := by simpa using hz
   rw [if_pos hz] at HOF
   clear hz
   go_wp2_with (first | (go_at_call 51; go_loud (refine HEn.out.mono ?_); rintro e w5 ⟨rfl, FS5, k5⟩; have f5 := FS5.c0) | (go_at_call 25; go_loud (refine (HRl.out _ FS5).mono ?_); rintro e w6 ⟨rfl, FS6, k6⟩))
   go_ret2
   exact ⟨ret_two (by rw [HOF.out]) (by rw [HOF.out]), (by rw [HOF.out]; exact FS6.less HSub.out), HK.out.trans ((k5.trans k6).mono (fun g _ hg hN => hg (HSub.out g hN)))⟩
  rw [if_neg hz] at HOF
  obtain rfl : ee = 0 := Classical.not_not.1 hz
  clear hz
  go_wp2_with (go_at_call 51; go_loud (refine HEn.out.mono ?_); rintro e w5 ⟨rfl, FS5, k5⟩)
  go_ret2
  exact ⟨ret_two (by rw [HOF.out]) (by rw [HOF.out]), (by rw [HOF.out]; exact FS5.less HSub.out), HK.out.trans (k5.mono (fun g _ hg hN => hg (HSub.out g hN)))⟩
end
end Go.Proofs.YtimidmogcbapnaaGreatDoor
namespace Go.Proofs.YtimidmogcbapnaaGreatDoor
noncomputable def openF (calls fail : Int) (d : Nds) (room at' mask : Int) (s : ByteArray) (flags m : Int) : Nds × Int × Int :=
 if openC flags = true ∧ callE calls fail ≠ 0 then (d, 0, callE calls fail) else openR d room at' mask s flags m
def openN (calls flags : Int) : Int := if openC flags = true then calls + 1 else calls
end Go.Proofs.YtimidmogcbapnaaGreatDoor
