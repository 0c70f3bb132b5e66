/-
  Layer 6: contracts of files: enter, free, gone.
-/
import Derived.Test.YtnaenhekjdmlaaaGreatDoorG08
import Derived.Deep.RegionHeld3
import Derived.BigQuiet
import Derived.Deep.QuietTactic
import Derived.Test.YtnaenhekjdmlaaaGreatDoorG07
import Derived.BigRegion
import Derived.Test.YtnaenhekjdmlaaaGreatDoorProg
import Derived.Test.YtnaenhekjdmlaaaGreatDoorG01
import Derived.Shelf.Strings.Repeat
import Derived.Lib.Builder
import Derived.Lib.AppendStr
import Derived.Lib.ConvBytes
import Derived.Laws.IdiomStrings
import Derived.Deep.Cut
import Derived.Test.YtnaenhekjdmlaaaGreatDoorG03
import Derived.Deep.AppendLies
import Derived.Deep.RegionLaw
import Derived.Deep.RegionWith
import Derived.StillTailTactics
import Derived.Deep.CutRange

set_option linter.unusedSimpArgs false
set_option linter.unusedVariables false
set_option maxRecDepth 100000
set_option maxHeartbeats 4000000
namespace Go.Proofs.YtnaenhekjdmlaaaGreatDoor
open Go Go.RowKit
section
variable {N : Nat -> Prop} {w w' : World} {F a : Nat} {d d' : Nds} {room calls fail : Int}
theorem enter_anyF (h : FSt N w F a d room calls fail) (p : Plc) (k : Int) (hb : mass d + 1 <= 2147483648) (hsz : p.name.size <= 4294967296) (hno : folderErr d p.dir = 0 -> (nd d k).kind = 2 -> ¬ Above d k p.dir) :
 Calls Tryz.prog 68 #[.pointer (some ⟨F, 0, none⟩), plcV p, .int .i64 k] w (FTo N w F a (entrR d room p k).1 room calls fail (.int .i64 (entrR d room p k).2)) := by
 obtain ⟨pn, pd, pm⟩ := p
 unfold plcV entrR
 simp only at hsz hno ⊢
 have kz : Keeps NoB w (w.alloc (.cells #[.int .i64 pn, .int .i64 pd, .string pm] 90)) := (Keeps.refl _ _).alloc _
 have FS := h.on kz
 have b1 := boxed (Keeps.refl NoB (w.alloc (.cells #[.int .i64 pn, .int .i64 pd, .string pm] 90))) 1 (.int .i64 pd) rfl
 have b2 := boxed (Keeps.refl NoB (w.alloc (.cells #[.int .i64 pn, .int .i64 pd, .string pm] 90))) 2 (.string pm) rfl
 have HR := Lib.hid (fun (w1 : World) (h1 : FSt N w1 F a (enterD d room pd pm k) room calls fail) => h1.prog2 fun R hR => release_any hR k)
 have hf : Hid (∀ w1 : World, FSt N w1 F a (enterD d room pd pm k) room calls fail -> w1.cell? ⟨F, 0, none⟩ = some (.pointer (some ⟨a, 0, none⟩))) := fun w1 h => h.c0
 clear h
 have f0 := FS.c0; have f1 := FS.c1; have f2 := FS.c2; have fz := FS.fz; have fl := FS.lt
 go_enter Tryz.func68, Tryz.ntmps68
 go_upto_region 1 with fail
 generalize w.alloc (.cells #[.int .i64 pn, .int .i64 pd, .string pm] 90) = w1 at *
 generalize w.heap.size = hz at *
 have HE := Lib.hid ((FS.on (Keeps.refl NoB w1).drew).prog2 fun R hR => enterD_any hR pd pm k hsz hb hno)
 clear FS hno
 go_still_tail 9, (by kernel_rfl)
 change wpList _ _ _ _ _ w1.drew
 replace kz : Keeps NoB w w1.drew := kz.drew
 generalize w1.drew = w2 at *
 go_wp2_with (first | (go_at_call 101; go_loud (refine HE.out.mono ?_); rintro e w3 ⟨rfl, hs3, hk3⟩; have f30 := hf.out _ hs3; have hr3 := HR.out _ hs3) | (go_at_call 52; go_loud (refine hr3.mono ?_); rintro e w4 ⟨rfl, hs4, hk4⟩))
 go_ret
 exact ⟨rfl, hs4, (kz.of_none.trans hk3).trans hk4⟩
theorem free_any (h : FSt N w F a d room calls fail) (at' mask : Int) (s : ByteArray) (slash : Bool) (hsz : s.size <= 4294967280) :
 Calls Tryz.prog 65 #[.pointer (some ⟨F, 0, none⟩), .agg #[.int .i64 at', .int .i64 mask], .string s, .bool slash] w fun e w' =>
  e = .returned (.tuple #[plcV (freeR d at' s slash).1, .int .i64 (freeR d at' s slash).2]) ∧ Keeps NoB w w' := by
 have ks : Keeps NoB w (w.alloc (.cells #[.int .i64 at', .int .i64 mask] 52)) := (Keeps.refl _ _).alloc _
 have kz : Keeps NoB w ((w.alloc (.cells #[.int .i64 at', .int .i64 mask] 52)).alloc (.cells #[.int .i64 0, .int .i64 0, .string ⟨#[]⟩] 90)) := ks.alloc _
 have FS := h.on kz
 have b0 := boxed (w := w) ((Keeps.refl NoB (w.alloc (.cells #[.int .i64 at', .int .i64 mask] 52))).alloc (.cells #[.int .i64 0, .int .i64 0, .string ⟨#[]⟩] 90)) 0 (.int .i64 at') rfl
 have KB := c3_new (v0 := .int .i64 0) (v1 := .int .i64 0) (v2 := .string ⟨#[]⟩) (Keeps.refl NoB ((w.alloc (.cells #[.int .i64 at', .int .i64 mask] 52)).alloc (.cells #[.int .i64 0, .int .i64 0, .string ⟨#[]⟩] 90)))
 have ew : (w.alloc (.cells #[.int .i64 at', .int .i64 mask] 52)).heap.size = w.heap.size + 1 := by simp
 rw [ew] at KB
 have HFi := Lib.hid (fun (w1 : World) (hk : Keeps NoB ((w.alloc (.cells #[.int .i64 at', .int .i64 mask] 52)).alloc (.cells #[.int .i64 0, .int .i64 0, .string ⟨#[]⟩] 90)) w1) => (FS.on hk).find at' s false hsz)
 have HM := Lib.hid (fun (w1 : World) (hk : Keeps NoB ((w.alloc (.cells #[.int .i64 at', .int .i64 mask] 52)).alloc (.cells #[.int .i64 0, .int .i64 0, .string ⟨#[]⟩] 90)) w1) (i : Int) => may_any (FS.on hk) i 128 (by decide))
 obtain ⟨⟨⟨node, dir, name⟩, fe⟩, hF⟩ : ∃ X, findR d (upC d) false 41 at' s 0 = X := ⟨_, rfl⟩
 have HQ := Lib.hid (show freeR d at' s slash = if fe ≠ 0 then (.no, fe) else if node ≠ 0 then (.no, 13) else if slash = false ∧ endS s = true then (.no, 12) else (⟨node, dir, name⟩, mayE d dir 128) by unfold freeR fndR; rw [hF])
 rw [hF] at HFi
 clear hF h ks ew
 unfold plcV at HFi
 simp only at HFi
 have HFS := Lib.hid FS
 have f0 := FS.c0; have f1 := FS.c1; have f2 := FS.c2; have fz := FS.fz; have fl := FS.lt
 clear FS
 go_enter Tryz.func65, Tryz.ntmps65
 go_upto_region 1 with fail
 generalize ((w.alloc (.cells #[.int .i64 at', .int .i64 mask] 52)).alloc (.cells #[.int .i64 0, .int .i64 0, .string ⟨#[]⟩] 90)) = w1 at *
 go_cut [10, 11] from 10 to 22 (fun x y wx => ∃ G : Nat, w1.heap.size <= G ∧ x = .pointer (some ⟨G, 0, none⟩) ∧ y = .int .i64 fe ∧ wx.cell? ⟨G, 0, none⟩ = some (.int .i64 node) ∧ wx.cell? ⟨G, 1, none⟩ = some (.int .i64 dir) ∧ wx.cell? ⟨G, 2, none⟩ = some (.string name) ∧ Keeps NoB w1 wx)
 case first =>
  have kr := Keeps.refl NoB w1
  have krd := kr.drew
  have d0 := (HFS.out.on krd).c0
  have HB0 := Lib.hid (fun (wx : World) (k : Keeps NoB w1 wx) => (k.cell (p := ⟨w.heap.size, 0, none⟩) (lt_of_cell b0) (fun h => h)).trans b0)
  have d1 := HB0.out _ krd
  go_region_held3 (fun wz => wz.cell? ⟨F, 0, none⟩ = some (.pointer (some ⟨a, 0, none⟩)) ∧ wz.cell? ⟨w.heap.size, 0, none⟩ = some (.int .i64 at') ∧ Keeps NoB w1 wz) (refine ⟨?_, ?_, ?_⟩ <;> first | with_reducible assumption | (with_reducible refine (HFS.out.on ?_).c0; (repeat (first | with_reducible assumption | (with_reducible exact Keeps.refl _ _) | (with_reducible refine Keeps.drew ?_) | (with_reducible refine Keeps.drewN ?_ _) | (with_reducible refine Keeps.alloc ?_ _) | (with_reducible refine Keeps.setCell ?_ (by first | exact Or.inl rfl | exact Or.inr (Nat.le_refl _) | exact Or.inr (by first | (simp; done) | (simp; omega))) _))); done) | (with_reducible refine HB0.out _ ?_; (repeat (first | with_reducible assumption | (with_reducible exact Keeps.refl _ _) | (with_reducible refine Keeps.drew ?_) | (with_reducible refine Keeps.drewN ?_ _) | (with_reducible refine Keeps.alloc ?_ _) | (with_reducible refine Keeps.setCell ?_ (by first | exact Or.inl rfl | exact Or.inr (Nat.le_refl _) | exact Or.inr (by first | (simp; done) | (simp; omega))) _))); done) | ((repeat (first | with_reducible assumption | (with_reducible exact Keeps.refl _ _) | (with_reducible refine Keeps.drew ?_) | (with_reducible refine Keeps.drewN ?_ _) | (with_reducible refine Keeps.alloc ?_ _) | (with_reducible refine Keeps.setCell ?_ (by first | exact Or.inl rfl | exact Or.inr (Nat.le_refl _) | exact Or.inr (by first | (simp; done) | (simp; omega))) _))); done))
   (first | (go_at_call 48; refine (HFi.out _ (by (repeat (first | with_reducible assumption | (with_reducible exact Keeps.refl _ _) | (with_reducible refine Keeps.drew ?_) | (with_reducible refine Keeps.drewN ?_ _) | (with_reducible refine Keeps.alloc ?_ _) | (with_reducible refine Keeps.setCell ?_ (by first | exact Or.inl rfl | exact Or.inr (Nat.le_refl _) | exact Or.inr (by first | (simp; done) | (simp; omega))) _))))).mono ?_; rintro e w2 ⟨rfl, hk2⟩; have zky : Keeps NoB w1 w2 := Keeps.trans (by (repeat (first | with_reducible assumption | (with_reducible exact Keeps.refl _ _) | (with_reducible refine Keeps.drew ?_) | (with_reducible refine Keeps.drewN ?_ _) | (with_reducible refine Keeps.alloc ?_ _) | (with_reducible refine Keeps.setCell ?_ (by first | exact Or.inl rfl | exact Or.inr (Nat.le_refl _) | exact Or.inr (by first | (simp; done) | (simp; omega))) _)))) hk2; have zs := zky.size; have z0 := (HFS.out.on zky).c0; have z1 := HB0.out _ zky; (try (have y0 := boxedD hk2 0 _ rfl; have y1 := boxedD hk2 1 _ rfl; have y2 := boxedD hk2 2 _ rfl; have yf := boxedF hk2))))
  all_goals (go_wp2_with fail; go_meet; refine ⟨_, ?_, rfl, rfl, ?_, ?_, ?_, ?_⟩)
  all_goals first
   | exact Nat.le_refl _
   | exact zs
   | (with_reducible exact boxed (Keeps.refl NoB _) 0 _ rfl)
   | (with_reducible exact boxed (Keeps.refl NoB _) 1 _ rfl)
   | (with_reducible exact boxed (Keeps.refl NoB _) 2 _ rfl)
   | ((repeat (first | with_reducible assumption | (with_reducible exact Keeps.refl _ _) | (with_reducible refine Keeps.drew ?_) | (with_reducible refine Keeps.drewN ?_ _) | (with_reducible refine Keeps.alloc ?_ _) | (with_reducible refine Keeps.setCell ?_ (by first | exact Or.inl rfl | exact Or.inr (Nat.le_refl _) | exact Or.inr (by first | (simp; done) | (simp; omega))) _))); done)
   | (go_simp; done)
   | skip
 case rest =>
  obtain ⟨G, hG, rfl, rfl, g0, g1, g2, hk1⟩ := hcut
  have hGn : ¬ G = w.heap.size + 1 := by have := KB.lt; omega
  have hGl := lt_of_cell g0
  have r0 := (KB.on hk1).c0
  have r1 := (KB.on hk1).c1
  have r2 := (KB.on hk1).c2
  have rf := (KB.on hk1).fz
  have rl := (KB.on hk1).lt
  have hms := Lib.hid (fun (wx : World) (k : Keeps NoB w1 wx) => HM.out wx k dir)
  have HL : Hid (s.size <= 4294967296) := (Nat.le_trans hsz (by decide) : s.size <= 4294967296)
  clear HM HFi HFS KB f0 f1 f2 fz fl b0 hsz
  replace kz := kz.trans hk1
  by_cases he : fe ≠ 0
  ·have hne : (fe != 0) = true := by simpa using he
   rw [if_pos he] at HQ
   clear he
   go_wp2_with fail
   (try simp only [Exit.inBlock, Exit.then])
   refine bodyPost_ret (v := .tuple #[plcV .no, .int .i64 fe]) ?_ rfl ?_
   ·rw [results_cell_tmp rfl]; unfold plcV Plc.no; go_simp
   ·refine ⟨by rw [HQ.out], ?_⟩
    (repeat (first | with_reducible assumption | (with_reducible exact Keeps.refl _ _) | (with_reducible refine Keeps.drew ?_) | (with_reducible refine Keeps.drewN ?_ _) | (with_reducible refine Keeps.alloc ?_ _) | (with_reducible refine Keeps.setCell ?_ (by first | exact Or.inl rfl | exact Or.inr (Nat.le_refl _) | exact Or.inr (by first | (simp; done) | (simp; omega))) _)))
  rw [if_neg he] at HQ
  have he0 : fe = 0 := Classical.not_not.1 he
  subst he0
  by_cases hn : node ≠ 0
  ·have hne : (node != 0) = true := by simpa using hn
   rw [if_pos hn] at HQ
   clear hn he
   go_wp2_with fail
   (try simp only [Exit.inBlock, Exit.then])
   refine bodyPost_ret (v := .tuple #[plcV .no, .int .i64 13]) ?_ rfl ?_
   ·rw [results_cell_tmp rfl]; unfold plcV Plc.no; go_simp
   ·refine ⟨by rw [HQ.out], ?_⟩
    (repeat (first | with_reducible assumption | (with_reducible exact Keeps.refl _ _) | (with_reducible refine Keeps.drew ?_) | (with_reducible refine Keeps.drewN ?_ _) | (with_reducible refine Keeps.alloc ?_ _) | (with_reducible refine Keeps.setCell ?_ (by first | exact Or.inl rfl | exact Or.inr (Nat.le_refl _) | exact Or.inr (by first | (simp; done) | (simp; omega))) _)))
  have hne : (node != 0) = false := by simpa using hn
  rw [if_neg hn] at HQ
  clear hn he
  have HSS := Lib.hid (fun wx : World => hs1 s wx HL.out)
  by_cases hsl : slash = false ∧ endS s = true
  ·rw [if_pos hsl] at HQ
   obtain ⟨e1, e2⟩ := hsl
   subst e1
   rw [e2] at HSS
   clear e2
   go_wp2_with (go_at_call 95; refine (HSS.out _).mono ?_; rintro e w' ⟨rfl, rfl⟩)
   (try simp only [Exit.inBlock, Exit.then])
   refine bodyPost_ret (v := .tuple #[plcV .no, .int .i64 12]) ?_ rfl ?_
   ·rw [results_cell_tmp rfl]; unfold plcV Plc.no; go_simp
   ·refine ⟨by rw [HQ.out], ?_⟩
    (repeat (first | with_reducible assumption | (with_reducible exact Keeps.refl _ _) | (with_reducible refine Keeps.drew ?_) | (with_reducible refine Keeps.drewN ?_ _) | (with_reducible refine Keeps.alloc ?_ _) | (with_reducible refine Keeps.setCell ?_ (by first | exact Or.inl rfl | exact Or.inr (Nat.le_refl _) | exact Or.inr (by first | (simp; done) | (simp; omega))) _)))
  rw [if_neg hsl] at HQ
  have hcs : slash = true ∨ (slash = false ∧ endS s = false) := by
   cases slash
   ·right; refine ⟨rfl, ?_⟩; simpa using hsl
   ·exact .inl rfl
  clear hsl hG
  have hgs := Lib.hid (fun (wx : World) (k : Keeps NoB wc wx) => (⟨(k.cell (p := ⟨G, 0, none⟩) hGl (fun h => h)).trans g0, (k.cell (p := ⟨G, 1, none⟩) hGl (fun h => h)).trans g1, (k.cell (p := ⟨G, 2, none⟩) hGl (fun h => h)).trans g2,
   (k.cell (p := ⟨w.heap.size + 1, 0, none⟩) rl (fun h => h)).trans r0, (k.cell (p := ⟨w.heap.size + 1, 1, none⟩) rl (fun h => h)).trans r1, (k.cell (p := ⟨w.heap.size + 1, 2, none⟩) rl (fun h => h)).trans r2, fun j => (k.frozen (p := ⟨w.heap.size + 1, j, none⟩) rl (fun h => h)).trans (rf j)⟩ :
   wx.cell? ⟨G, 0, none⟩ = some (.int .i64 node) ∧ wx.cell? ⟨G, 1, none⟩ = some (.int .i64 dir) ∧ wx.cell? ⟨G, 2, none⟩ = some (.string name) ∧ wx.cell? ⟨w.heap.size + 1, 0, none⟩ = some (.int .i64 0) ∧ wx.cell? ⟨w.heap.size + 1, 1, none⟩ = some (.int .i64 0) ∧ wx.cell? ⟨w.heap.size + 1, 2, none⟩ = some (.string ⟨#[]⟩) ∧ ∀ j, wx.frozen? ⟨w.heap.size + 1, j, none⟩ = false))
  have kc := Keeps.refl NoB wc
  rcases hcs with rfl | ⟨rfl, he2⟩
  ·clear HSS
   go_upto_region 8 with fail
   go_region_with (go_at_call 100; refine (hms.out _ (hk1.trans (by (repeat (first | with_reducible assumption | (with_reducible exact Keeps.refl _ _) | (with_reducible refine Keeps.drew ?_) | (with_reducible refine Keeps.drewN ?_ _) | (with_reducible refine Keeps.alloc ?_ _) | (with_reducible refine Keeps.setCell ?_ (by first | exact Or.inl rfl | exact Or.inr (Nat.le_refl _) | exact Or.inr (by first | (simp; done) | (simp; omega))) _)))))).mono ?_; rintro e w2 ⟨rfl, hk2⟩; obtain ⟨z0, z1, z2, x0, x1, x2, xf⟩ := hgs.out w2 (Keeps.trans (by (repeat (first | with_reducible assumption | (with_reducible exact Keeps.refl _ _) | (with_reducible refine Keeps.drew ?_) | (with_reducible refine Keeps.drewN ?_ _) | (with_reducible refine Keeps.alloc ?_ _) | (with_reducible refine Keeps.setCell ?_ (by first | exact Or.inl rfl | exact Or.inr (Nat.le_refl _) | exact Or.inr (by first | (simp; done) | (simp; omega))) _)))) hk2))
   all_goals
    replace kz := kz.trans (Keeps.trans (by (repeat (first | with_reducible assumption | (with_reducible exact Keeps.refl _ _) | (with_reducible refine Keeps.drew ?_) | (with_reducible refine Keeps.drewN ?_ _) | (with_reducible refine Keeps.alloc ?_ _) | (with_reducible refine Keeps.setCell ?_ (by first | exact Or.inl rfl | exact Or.inr (Nat.le_refl _) | exact Or.inr (by first | (simp; done) | (simp; omega))) _)))) hk2)
    go_wp2_with fail
    (try simp only [Exit.inBlock, Exit.then])
    refine bodyPost_ret (v := .tuple #[plcV ⟨node, dir, name⟩, .int .i64 (mayE d dir 128)]) ?_ rfl ?_
    ·rw [results_cell_tmp rfl]; unfold plcV; go_simp
    ·refine ⟨by rw [HQ.out], ?_⟩
     (repeat (first | with_reducible assumption | (with_reducible exact Keeps.refl _ _) | (with_reducible refine Keeps.drew ?_) | (with_reducible refine Keeps.drewN ?_ _) | (with_reducible refine Keeps.alloc ?_ _) | (with_reducible refine Keeps.setCell ?_ (by first | exact Or.inl rfl | exact Or.inr (Nat.le_refl _) | exact Or.inr (by first | (simp; done) | (simp; omega))) _)))
  ·rw [he2] at HSS
   clear he2
   go_upto_region 8 with (go_at_call 95; refine (HSS.out _).mono ?_; rintro e w' ⟨rfl, rfl⟩)
   go_region_with (go_at_call 100; refine (hms.out _ (hk1.trans (by (repeat (first | with_reducible assumption | (with_reducible exact Keeps.refl _ _) | (with_reducible refine Keeps.drew ?_) | (with_reducible refine Keeps.drewN ?_ _) | (with_reducible refine Keeps.alloc ?_ _) | (with_reducible refine Keeps.setCell ?_ (by first | exact Or.inl rfl | exact Or.inr (Nat.le_refl _) | exact Or.inr (by first | (simp; done) | (simp; omega))) _)))))).mono ?_; rintro e w2 ⟨rfl, hk2⟩; obtain ⟨z0, z1, z2, x0, x1, x2, xf⟩ := hgs.out w2 (Keeps.trans (by (repeat (first | with_reducible assumption | (with_reducible exact Keeps.refl _ _) | (with_reducible refine Keeps.drew ?_) | (with_reducible refine Keeps.drewN ?_ _) | (with_reducible refine Keeps.alloc ?_ _) | (with_reducible refine Keeps.setCell ?_ (by first | exact Or.inl rfl | exact Or.inr (Nat.le_refl _) | exact Or.inr (by first | (simp; done) | (simp; omega))) _)))) hk2))
   all_goals
    replace kz := kz.trans (Keeps.trans (by (repeat (first | with_reducible assumption | (with_reducible exact Keeps.refl _ _) | (with_reducible refine Keeps.drew ?_) | (with_reducible refine Keeps.drewN ?_ _) | (with_reducible refine Keeps.alloc ?_ _) | (with_reducible refine Keeps.setCell ?_ (by first | exact Or.inl rfl | exact Or.inr (Nat.le_refl _) | exact Or.inr (by first | (simp; done) | (simp; omega))) _)))) hk2)
    go_wp2_with fail
    (try simp only [Exit.inBlock, Exit.then])
    refine bodyPost_ret (v := .tuple #[plcV ⟨node, dir, name⟩, .int .i64 (mayE d dir 128)]) ?_ rfl ?_
    ·rw [results_cell_tmp rfl]; unfold plcV; go_simp
    ·refine ⟨by rw [HQ.out], ?_⟩
     (repeat (first | with_reducible assumption | (with_reducible exact Keeps.refl _ _) | (with_reducible refine Keeps.drew ?_) | (with_reducible refine Keeps.drewN ?_ _) | (with_reducible refine Keeps.alloc ?_ _) | (with_reducible refine Keeps.setCell ?_ (by first | exact Or.inl rfl | exact Or.inr (Nat.le_refl _) | exact Or.inr (by first | (simp; done) | (simp; omega))) _)))
end
section
variable {N : Nat -> Prop} {w w' : World} {F a : Nat} {d d' : Nds} {room calls fail : Int}
theorem begin_any (w : World) (room fail : Int) (h0 : 0 <= room) (h1 : room <= 9223372036854775807) :
 Calls Tryz.prog 18 #[.int .i64 room, .int .i64 fail] w fun e w' => ∃ F a, e = .returned (.tuple #[.pointer (some ⟨F, 0, none⟩), .int .i64 0]) ∧ FSt (fun g => g < w.heap.size) w' F a newD room 0 fail ∧ Keeps NoB w w' := by
 have HN := Lib.hid (new_any w room h1)
 simp only [if_neg (show ¬ room < 0 by omega)] at HN
 go_enter Tryz.func18, Tryz.ntmps18
 go_wp2_with (go_at_call 46; go_loud (refine HN.out.mono ?_); rintro e w1 ⟨a, rfl, hd⟩)
 go_ret2
 have hk := hd.keeps
 have hs := hk.size
 have ka : Keeps NoB w1 (w1.alloc (.cells #[.pointer (some ⟨a, 0, none⟩), .int .i64 0, .int .i64 fail] 87)) := (Keeps.refl _ _).alloc _
 have kn := Keeps.refl NoB (w1.alloc (.cells #[.pointer (some ⟨a, 0, none⟩), .int .i64 0, .int .i64 fail] 87))
 refine ⟨w1.heap.size, a, rfl, ⟨hd.pd.grow ka (fun _ _ hx => hx.elim) (fun x hx => ?_), by omega, boxed kn 0 _ rfl, boxed kn 1 _ rfl, boxed kn 2 _ rfl, boxedz kn⟩, hk.alloc _⟩
 rcases hx with hx | rfl
 ·exact .inl hx
 ·exact .inr ⟨Nat.le_refl _, by simp⟩
end
section
variable {N : Nat -> Prop} {w w' : World} {F a : Nat} {d d' : Nds} {room calls fail : Int}
theorem results_tmp_cell_tmp {fn : Func} {p u t : Tmp} {ty : TypeId} (h : fn.results = #[.tmp u, .cell p ty, .tmp t]) (tmps : Array Value) (P : Program) (w : World) :
 (results fn tmps).run P w =
   ((asAddr (tmps.getD p undef)).run P w).andThen fun a w₁ => ((loadVar ty a).run P w₁).andThen fun v w₂ => .ok (.tuple #[tmps.getD u undef, v, tmps.getD t undef]) w₂ := by
 simp only [results, h]
 simp [Sem.run_bind, Result.andThen]
def statV (d : Nds) (X : Plc × Int) : Value := if X.2 ≠ 0 then noInfo else infoAt d X.1.node
def statE (d : Nds) (X : Plc × Int) : Int := if X.2 ≠ 0 then X.2 else if has d X.1.node then 0 else 12
theorem stat_any (h : FSt N w F a d room calls fail) (at' mask : Int) (s : ByteArray) (follow : Bool) (hsz : s.size <= 4294967280) :
 Calls Tryz.prog 24 #[.pointer (some ⟨F, 0, none⟩), .agg #[.int .i64 at', .int .i64 mask], .string s, .bool follow] w fun e w' =>
  e = .returned (.tuple #[.int .i64 (thrR d at' s follow).1.node, statV d (thrR d at' s follow), .int .i64 (statE d (thrR d at' s follow))]) ∧ Keeps NoB w w' := by
 have ks : Keeps NoB w (w.alloc (.cells #[.int .i64 at', .int .i64 mask] 52)) := (Keeps.refl _ _).alloc _
 have kz : Keeps NoB w ((w.alloc (.cells #[.int .i64 at', .int .i64 mask] 52)).alloc (.cells #[.int .i64 0, .int .i64 0, .int .i64 0, .int .i64 0, .int .i64 0] 63)) := ks.alloc _
 have HFS := Lib.hid (h.on kz)
 have HW := Lib.hid (Bx.new (w := w) ((Keeps.refl NoB (w.alloc (.cells #[.int .i64 at', .int .i64 mask] 52))).alloc (.cells #[.int .i64 0, .int .i64 0, .int .i64 0, .int .i64 0, .int .i64 0] 63)))
 have HR := Lib.hid (Bx.new (Keeps.refl NoB ((w.alloc (.cells #[.int .i64 at', .int .i64 mask] 52)).alloc (.cells #[.int .i64 0, .int .i64 0, .int .i64 0, .int .i64 0, .int .i64 0] 63))))
 rw [show (w.alloc (.cells #[.int .i64 at', .int .i64 mask] 52)).heap.size = w.heap.size + 1 by simp] at HR
 have HK := Lib.hid kz
 obtain ⟨O, hO⟩ : ∃ O, thrR d at' s follow = O := ⟨_, rfl⟩
 have HOF := Lib.hid (show O = thrR d at' s follow from hO.symm)
 rw [hO]
 have hT := fun e0 : O.2 = 0 => (thrR_ok (by rw [hO]; exact e0)).2
 have hTE := fun e0 : O.2 = 0 => (thrR_ok (by rw [hO]; exact e0)).1
 have HNo : Hid (O.2 ≠ 0 -> O.1 = .no) := fun e0 => by
  rw [<- hO] at e0 ⊢
  unfold thrR thereR at *
  split
  ·rfl
  ·next h1 =>
   rw [if_neg h1] at e0
   split
   ·rfl
   ·next h2 => rw [if_neg h2] at e0; exact absurd e0 h1
 clear hO h ks kz hT hTE
 go_enter Tryz.func24, Tryz.ntmps24
 go_upto_region 1 with fail
 generalize ((w.alloc (.cells #[.int .i64 at', .int .i64 mask] 52)).alloc (.cells #[.int .i64 0, .int .i64 0, .int .i64 0, .int .i64 0, .int .i64 0] 63)) = wc at *
 obtain ⟨X, hX⟩ : ∃ X, thrR d at' s follow = X := ⟨_, rfl⟩
 have HFi := Lib.hid (fun (w1 : World) (hk : Keeps NoB wc w1) => (HFS.out.on hk).thr at' s follow hsz)
 rw [hX] at HFi HOF
 obtain ⟨⟨pn, pd, pm⟩, pe⟩ := X
 unfold plcV at HFi
 simp only at HFi HOF
 have HXp := Lib.hid hX
 clear hX
 have f0 := HFS.out.c0
 have b0 := HW.out.cell 0 _ rfl
 go_upto_region 1 with fail
 go_cut [11, 12] from 11 to 25 (fun x y wx => ∃ G : Nat, wc.heap.size <= G ∧ x = .pointer (some ⟨G, 0, none⟩) ∧ y = .int .i64 pe ∧ Bx wx G [.int .i64 pn, .int .i64 pd, .string pm] ∧ Keeps NoB wc wx)
 case first =>
  have kr := Keeps.refl NoB wc
  have krd := kr.drew
  have d0 := (HFS.out.on krd).c0
  have d1 := (HW.out.on krd).cell 0 _ rfl
  go_region_held3 (fun wz => wz.cell? ⟨F, 0, none⟩ = some (.pointer (some ⟨a, 0, none⟩)) ∧ wz.cell? ⟨w.heap.size, 0, none⟩ = some (.int .i64 at') ∧ Keeps NoB wc wz) (refine ⟨?_, ?_, ?_⟩ <;> first | with_reducible assumption | (with_reducible refine (HFS.out.on ?_).c0; (repeat (first | with_reducible assumption | (with_reducible exact Keeps.refl _ _) | (with_reducible refine Keeps.drew ?_) | (with_reducible refine Keeps.drewN ?_ _) | (with_reducible refine Keeps.alloc ?_ _) | (with_reducible refine Keeps.setCell ?_ (by first | exact Or.inl rfl | exact Or.inr (Nat.le_refl _) | exact Or.inr (by first | (simp; done) | (simp; omega))) _))); done) | (with_reducible refine (HW.out.on ?_).cell 0 _ rfl; (repeat (first | with_reducible assumption | (with_reducible exact Keeps.refl _ _) | (with_reducible refine Keeps.drew ?_) | (with_reducible refine Keeps.drewN ?_ _) | (with_reducible refine Keeps.alloc ?_ _) | (with_reducible refine Keeps.setCell ?_ (by first | exact Or.inl rfl | exact Or.inr (Nat.le_refl _) | exact Or.inr (by first | (simp; done) | (simp; omega))) _))); done) | ((repeat (first | with_reducible assumption | (with_reducible exact Keeps.refl _ _) | (with_reducible refine Keeps.drew ?_) | (with_reducible refine Keeps.drewN ?_ _) | (with_reducible refine Keeps.alloc ?_ _) | (with_reducible refine Keeps.setCell ?_ (by first | exact Or.inl rfl | exact Or.inr (Nat.le_refl _) | exact Or.inr (by first | (simp; done) | (simp; omega))) _))); done))
   (first | (go_at_call 53; refine (HFi.out _ (by (repeat (first | with_reducible assumption | (with_reducible exact Keeps.refl _ _) | (with_reducible refine Keeps.drew ?_) | (with_reducible refine Keeps.drewN ?_ _) | (with_reducible refine Keeps.alloc ?_ _) | (with_reducible refine Keeps.setCell ?_ (by first | exact Or.inl rfl | exact Or.inr (Nat.le_refl _) | exact Or.inr (by first | (simp; done) | (simp; omega))) _))))).mono ?_; rintro e w2 ⟨rfl, hk2⟩; have zky : Keeps NoB wc w2 := Keeps.trans (by (repeat (first | with_reducible assumption | (with_reducible exact Keeps.refl _ _) | (with_reducible refine Keeps.drew ?_) | (with_reducible refine Keeps.drewN ?_ _) | (with_reducible refine Keeps.alloc ?_ _) | (with_reducible refine Keeps.setCell ?_ (by first | exact Or.inl rfl | exact Or.inr (Nat.le_refl _) | exact Or.inr (by first | (simp; done) | (simp; omega))) _)))) hk2; have zs := zky.size; have z0 := (HFS.out.on zky).c0; have z1 := (HW.out.on zky).cell 0 _ rfl; (try (have yb := Bx.newD hk2; have y0 := yb.cell 0 _ rfl; have y1 := yb.cell 1 _ rfl; have y2 := yb.cell 2 _ rfl; have yf := yb.fz))))
  all_goals (go_wp2_with fail; go_meet; refine ⟨_, ?_, rfl, rfl, ?_, ?_⟩)
  all_goals first
   | exact Nat.le_refl _
   | exact zs
   | (with_reducible exact Bx.new (Keeps.refl NoB _))
   | (exact ((yb.put 0 _).put 1 _).put 2 _)
   | ((repeat (first | with_reducible assumption | (with_reducible exact Keeps.refl _ _) | (with_reducible refine Keeps.drew ?_) | (with_reducible refine Keeps.drewN ?_ _) | (with_reducible refine Keeps.alloc ?_ _) | (with_reducible refine Keeps.setCell ?_ (by first | exact Or.inl rfl | exact Or.inr (Nat.le_refl _) | exact Or.inr (by first | (simp; done) | (simp; omega))) _))); done)
   | skip
 case rest =>
  obtain ⟨HPB, hG, rfl, rfl, HP, hk1⟩ := hcut
  replace HP := Lib.hid HP
  have hPR : ¬ HPB = w.heap.size + 1 := by have := HR.out.lt; omega
  clear f0 b0 HFi hG
  replace HFS := Lib.hid (HFS.out.on hk1)
  replace HK := Lib.hid (HK.out.trans hk1.of_none)
  replace HW := Lib.hid (HW.out.on hk1)
  replace HR := Lib.hid (HR.out.on hk1)
  have HO := HOF.out
  subst HO
  clear HOF
  have kk := HK.out
  by_cases hz : pe ≠ 0
  ·have hb : (pe != 0) = true := by simpa using hz
   have hno := HNo.out hz
   have HV := Lib.hid (show statV d (⟨pn, pd, pm⟩, pe) = noInfo by unfold statV; rw [if_pos hz])
   have HV3 := Lib.hid (show statE d (⟨pn, pd, pm⟩, pe) = pe by unfold statE; rw [if_pos hz])
   have HV2 := Lib.hid (show pn = 0 by have := congrArg Plc.node hno; exact this)
   have r0 := HR.out.cell 0 _ rfl
   have r1 := HR.out.cell 1 _ rfl
   have r2 := HR.out.cell 2 _ rfl
   have r3 := HR.out.cell 3 _ rfl
   have r4 := HR.out.cell 4 _ rfl
   have rf := HR.out.fz
   have rl := HR.out.lt
   clear hz hno
   go_wp2_with fail
   (try simp only [Exit.inBlock, Exit.then])
   refine bodyPost_ret (v := .tuple #[.int .i64 0, noInfo, .int .i64 pe]) ?_ rfl ?_
   ·rw [results_tmp_cell_tmp rfl]; unfold noInfo; go_simp
   ·refine ⟨by rw [HV.out, HV3.out, HV2.out], ?_⟩
    (repeat (first | with_reducible assumption | (with_reducible exact Keeps.refl _ _) | (with_reducible refine Keeps.drew ?_) | (with_reducible refine Keeps.drewN ?_ _) | (with_reducible refine Keeps.alloc ?_ _) | (with_reducible refine Keeps.setCell ?_ (by first | exact Or.inl rfl | exact Or.inr (Nat.le_refl _) | exact Or.inr (by first | (simp; done) | (simp; omega))) _)))
  have hb : (pe != 0) = false := by simpa using hz
  replace HNo : Hid (pe = 0) := Classical.not_not.1 hz
  clear hz
  have HOF : Hid ((nd d pn).kind = (nd d pn).kind) := rfl
  obtain ⟨ik, im, il, ih, iz, hik, him, _, hie⟩ := HFS.out.tell pn
  obtain ⟨ie, hie2⟩ : ∃ ie, (if has d pn then 0 else 12 : Int) = ie := ⟨_, rfl⟩
  have HIn := Lib.hid (fun (w1 : World) (hk : Keeps NoB wc w1) => (HFS.out.on hk).info pn)
  rw [hie, hie2] at HIn
  rw [<- hik] at HOF
  have HIk := Lib.hid hik
  have HIm := Lib.hid him
  have HIE := Lib.hid hie
  have HIE2 := Lib.hid hie2
  clear hie hie2 hik him
  have f0 := HFS.out.c0
  have b0 := HP.out.cell 0 _ rfl
  go_upto_region 4 with fail
  go_cut [13, 12] from 12 to 39 (fun x y wx => ∃ G : Nat, wc.heap.size <= G ∧ x = .pointer (some ⟨G, 0, none⟩) ∧ y = .int .i64 ie ∧ Bx wx G [.int .i64 ik, .int .i64 im, .int .i64 il, .int .i64 ih, .int .i64 iz] ∧ Keeps NoB wc wx)
  case first =>
   have kr := Keeps.refl NoB wc
   have krd := kr.drew
   have d0 := (HFS.out.on krd).c0
   have d1 := (HP.out.on krd).cell 0 _ rfl
   go_region_held3 (fun wz => wz.cell? ⟨F, 0, none⟩ = some (.pointer (some ⟨a, 0, none⟩)) ∧ wz.cell? ⟨HPB, 0, none⟩ = some (.int .i64 pn) ∧ Keeps NoB wc wz) (refine ⟨?_, ?_, ?_⟩ <;> first | with_reducible assumption | (with_reducible refine (HFS.out.on ?_).c0; (repeat (first | with_reducible assumption | (with_reducible exact Keeps.refl _ _) | (with_reducible refine Keeps.drew ?_) | (with_reducible refine Keeps.drewN ?_ _) | (with_reducible refine Keeps.alloc ?_ _) | (with_reducible refine Keeps.setCell ?_ (by first | exact Or.inl rfl | exact Or.inr (Nat.le_refl _) | exact Or.inr (by first | (simp; done) | (simp; omega))) _))); done) | (with_reducible refine (HP.out.on ?_).cell 0 _ rfl; (repeat (first | with_reducible assumption | (with_reducible exact Keeps.refl _ _) | (with_reducible refine Keeps.drew ?_) | (with_reducible refine Keeps.drewN ?_ _) | (with_reducible refine Keeps.alloc ?_ _) | (with_reducible refine Keeps.setCell ?_ (by first | exact Or.inl rfl | exact Or.inr (Nat.le_refl _) | exact Or.inr (by first | (simp; done) | (simp; omega))) _))); done) | ((repeat (first | with_reducible assumption | (with_reducible exact Keeps.refl _ _) | (with_reducible refine Keeps.drew ?_) | (with_reducible refine Keeps.drewN ?_ _) | (with_reducible refine Keeps.alloc ?_ _) | (with_reducible refine Keeps.setCell ?_ (by first | exact Or.inl rfl | exact Or.inr (Nat.le_refl _) | exact Or.inr (by first | (simp; done) | (simp; omega))) _))); done))
    (first | (go_at_call 64; refine (HIn.out _ (by (repeat (first | with_reducible assumption | (with_reducible exact Keeps.refl _ _) | (with_reducible refine Keeps.drew ?_) | (with_reducible refine Keeps.drewN ?_ _) | (with_reducible refine Keeps.alloc ?_ _) | (with_reducible refine Keeps.setCell ?_ (by first | exact Or.inl rfl | exact Or.inr (Nat.le_refl _) | exact Or.inr (by first | (simp; done) | (simp; omega))) _))))).mono ?_; rintro e w2 ⟨rfl, hk2⟩; have zky : Keeps NoB wc w2 := Keeps.trans (by (repeat (first | with_reducible assumption | (with_reducible exact Keeps.refl _ _) | (with_reducible refine Keeps.drew ?_) | (with_reducible refine Keeps.drewN ?_ _) | (with_reducible refine Keeps.alloc ?_ _) | (with_reducible refine Keeps.setCell ?_ (by first | exact Or.inl rfl | exact Or.inr (Nat.le_refl _) | exact Or.inr (by first | (simp; done) | (simp; omega))) _)))) hk2; have zs := zky.size; have z0 := (HFS.out.on zky).c0; have z1 := (HP.out.on zky).cell 0 _ rfl; (try (have yb := Bx.newD hk2; have y0 := yb.cell 0 _ rfl; have y1 := yb.cell 1 _ rfl; have y2 := yb.cell 2 _ rfl; have y3 := yb.cell 3 _ rfl; have y4 := yb.cell 4 _ rfl; have yf := yb.fz))))
   all_goals (go_wp2_with fail; go_meet; refine ⟨_, ?_, rfl, rfl, ?_, ?_⟩)
   all_goals first
    | exact Nat.le_refl _
    | exact zs
    | (with_reducible exact Bx.new (Keeps.refl NoB _))
    | (exact ((((yb.put 0 _).put 1 _).put 2 _).put 3 _).put 4 _)
    | ((repeat (first | with_reducible assumption | (with_reducible exact Keeps.refl _ _) | (with_reducible refine Keeps.drew ?_) | (with_reducible refine Keeps.drewN ?_ _) | (with_reducible refine Keeps.alloc ?_ _) | (with_reducible refine Keeps.setCell ?_ (by first | exact Or.inl rfl | exact Or.inr (Nat.le_refl _) | exact Or.inr (by first | (simp; done) | (simp; omega))) _))); done)
    | skip
  case rest =>
   obtain ⟨HIB, hG, rfl, rfl, HI, hk1⟩ := hcut
   replace HI := Lib.hid HI
   clear f0 b0 HIn hG
   replace HFS := Lib.hid (HFS.out.on hk1)
   replace HK := Lib.hid (HK.out.trans hk1.of_none)
   replace HW := Lib.hid (HW.out.on hk1)
   replace HR := Lib.hid (HR.out.on hk1)
   replace HP := Lib.hid (HP.out.on hk1)
   clear hk1
   have i0 := HI.out.cell 0 _ rfl
   have i1 := HI.out.cell 1 _ rfl
   have i2 := HI.out.cell 2 _ rfl
   have i3 := HI.out.cell 3 _ rfl
   have i4 := HI.out.cell 4 _ rfl
   have p0 := HP.out.cell 0 _ rfl
   have hP2 := HP.out.lt
   have hI2 := HI.out.lt
   have r0 := HR.out.cell 0 _ rfl
   have r1 := HR.out.cell 1 _ rfl
   have r2 := HR.out.cell 2 _ rfl
   have r3 := HR.out.cell 3 _ rfl
   have r4 := HR.out.cell 4 _ rfl
   have rf := HR.out.fz
   have rl := HR.out.lt
   have kk := HK.out
   go_upto_region 5 with fail
   go_region
   all_goals
    go_wp2_with fail
    (try simp only [Exit.inBlock, Exit.then])
    refine bodyPost_ret (v := .tuple #[.int .i64 pn, .agg #[.int .i64 ik, .int .i64 im, .int .i64 il, .int .i64 ih, .int .i64 iz], .int .i64 ie]) ?_ rfl ?_
    ·rw [results_tmp_cell_tmp rfl]; go_simp
    ·refine ⟨by rw [show statV d (⟨pn, pd, pm⟩, pe) = infoAt d pn by unfold statV; rw [if_neg (by rw [HNo.out]; simp)], HIE.out, show statE d (⟨pn, pd, pm⟩, pe) = ie by unfold statE; rw [if_neg (by rw [HNo.out]; simp)]; exact HIE2.out], ?_⟩
     (repeat (first | with_reducible assumption | (with_reducible exact Keeps.refl _ _) | (with_reducible refine Keeps.drew ?_) | (with_reducible refine Keeps.drewN ?_ _) | (with_reducible refine Keeps.alloc ?_ _) | (with_reducible refine Keeps.setCell ?_ (by first | exact Or.inl rfl | exact Or.inr (Nat.le_refl _) | exact Or.inr (by first | (simp; done) | (simp; omega))) _)))
end
section
variable {N : Nat -> Prop} {w w' : World} {F a : Nat} {d d' : Nds} {room calls fail : Int}
def lstE (d : Nds) (X : Plc × Int) : Int :=
 if statE d X ≠ 0 then statE d X else if (nd d X.1.node).kind ≠ 2 then 14 else if (bits BinOp.and IntKind.i64 (nd d X.1.node).mode 256 == 0) = true then 19 else 0
theorem FSt.list (h : FSt N w F a d room calls fail) (i : Int) (hn : (nd d i).ents.length < 4294967295) :
 Calls Tryz.prog 167 #[.pointer (some ⟨a, 0, none⟩), .int .i64 i] w fun e w' => ∃ v, e = .returned (.tuple #[v, .int .i64 (folderErr d i)]) ∧ Own encEnt 193 (fun g => w.heap.size <= g) w' v (if folderErr d i = 0 then (nd d i).ents else []) ∧ Keeps NoB w w' :=
 h.pd.tells fun _ _ _ hR _ _ => listD_any hR i hn
theorem statV_ok {d : Nds} {X : Plc × Int} (h : statE d X = 0) : statV d X = infoAt d X.1.node ∧ has d X.1.node := by
 unfold statE at h
 unfold statV
 by_cases h0 : X.2 ≠ 0
 ·rw [if_pos h0] at h; exact absurd h h0
 ·rw [if_neg h0] at h ⊢
  by_cases h1 : has d X.1.node
  ·exact ⟨rfl, h1⟩
  ·rw [if_neg h1] at h; cases h
theorem statV_shape (h : FSt N w F a d room calls fail) (X : Plc × Int) : ∃ k m l hh z : Int, statV d X = .agg #[.int .i64 k, .int .i64 m, .int .i64 l, .int .i64 hh, .int .i64 z] ∧ (statE d X = 0 -> k = (nd d X.1.node).kind ∧ m = (nd d X.1.node).mode) := by
 by_cases h0 : X.2 ≠ 0
 ·refine ⟨0, 0, 0, 0, 0, by unfold statV noInfo; rw [if_pos h0], fun h1 => ?_⟩
  unfold statE at h1
  rw [if_pos h0] at h1
  exact absurd h1 h0
 ·obtain ⟨k, m, l, hh, z, h1, h2, _, h4⟩ := h.tell X.1.node
  refine ⟨k, m, l, hh, z, by unfold statV; rw [if_neg h0]; exact h4, fun he => ⟨h1, h2 (statV_ok he).2⟩⟩
theorem fsList_any (h : FSt N w F a d room calls fail) (at' mask : Int) (s : ByteArray) (hsz : s.size <= 4294967280) (hn : ∀ i, (nd d i).ents.length < 4294967295) :
 Calls Tryz.prog 175 #[.pointer (some ⟨F, 0, none⟩), .agg #[.int .i64 at', .int .i64 mask], .string s] w fun e w' =>
  ∃ v, e = .returned (.tuple #[v, .int .i64 (lstE d (thrR d at' s true))]) ∧ Own encEnt 193 (fun g => w.heap.size <= g) w' v (if lstE d (thrR d at' s true) = 0 then (nd d (thrR d at' s true).1.node).ents else []) ∧ Keeps NoB w w' := by
 have HS := Lib.hid (fun wx (k : Keeps NoB w wx) => stat_any (h.on k) at' mask s true hsz)
 obtain ⟨X, hX⟩ : ∃ X, thrR d at' s true = X := ⟨_, rfl⟩
 rw [hX] at HS ⊢
 clear hX
 obtain ⟨ik, im, il, ih, iz, hsv, hkm⟩ := statV_shape h X
 rw [hsv] at HS
 obtain ⟨se, hse⟩ : ∃ se, statE d X = se := ⟨_, rfl⟩
 rw [hse] at HS hkm
 obtain ⟨le, hle⟩ : ∃ le, lstE d X = le := ⟨_, rfl⟩
 rw [hle]
 unfold lstE at hle
 rw [hse] at hle
 obtain ⟨pn, hpn⟩ : ∃ pn, X.1.node = pn := ⟨_, rfl⟩
 rw [hpn] at HS hkm hle ⊢
 have HF := Lib.hid h
 have HL := Lib.hid (fun wx (k : Keeps NoB w wx) => (h.on k).list pn (hn pn))
 have f0 := h.c0
 have HK0 := Lib.hid ((Keeps.refl NoB w).alloc (.cells #[.int .i64 at', .int .i64 mask] 52))
 clear h hsv hn
 by_cases h1 : se ≠ 0
 ·rw [if_pos h1] at hle
  subst hle
  rw [if_neg h1]
  have hb : (se != 0) = true := by simpa using h1
  clear h1 hkm hse
  go_enter Tryz.func175, Tryz.ntmps175
  go_wp2_with (go_at_call 24; go_loud (refine (HS.out _ HK0.out).mono ?_); rintro e w4 ⟨rfl, hk4⟩)
  go_ret2
  exact ⟨_, rfl, Own.nil _ _ _ _, (HK0.out.trans hk4).alloc _⟩
 have h1' : se = 0 := Classical.not_not.1 h1
 rw [if_neg h1] at hle
 subst h1'
 obtain ⟨rfl, rfl⟩ := hkm rfl
 have hb : ((0 : Int) != 0) = false := rfl
 clear hkm hse h1
 by_cases h2 : (nd d pn).kind ≠ 2
 ·rw [if_pos h2] at hle
  subst hle
  rw [if_neg (by decide)]
  have hb2 : ((nd d pn).kind != 2) = true := by simpa using h2
  generalize (nd d pn).kind = kd at *
  generalize (nd d pn).mode = md at *
  clear h2 HL
  go_enter Tryz.func175, Tryz.ntmps175
  go_wp2_with (go_at_call 24; go_loud (refine (HS.out _ HK0.out).mono ?_); rintro e w4 ⟨rfl, hk4⟩)
  go_ret2
  exact ⟨_, rfl, Own.nil _ _ _ _, (HK0.out.trans hk4).alloc _⟩
 rw [if_neg h2] at hle
 have h2' : (nd d pn).kind = 2 := Classical.not_not.1 h2
 have hfe : folderErr d pn = 0 := by unfold folderErr; rw [if_neg (by omega), if_pos h2']
 have hb2 : ((nd d pn).kind != 2) = false := by rw [h2']; rfl
 cases hb3 : (bits BinOp.and IntKind.i64 (nd d pn).mode 256 == 0) with
 | true =>
   rw [hb3, if_pos rfl] at hle
   subst hle
   rw [if_neg (by decide)]
   generalize (nd d pn).kind = kd at *
   generalize (nd d pn).mode = md at *
   clear h2 h2' HL hfe
   go_enter Tryz.func175, Tryz.ntmps175
   go_wp2_with (go_at_call 24; go_loud (refine (HS.out _ HK0.out).mono ?_); rintro e w4 ⟨rfl, hk4⟩)
   go_ret2
   exact ⟨_, rfl, Own.nil _ _ _ _, (HK0.out.trans hk4).alloc _⟩
 | false =>
   rw [hb3, if_neg (by decide)] at hle
   subst hle
   rw [if_pos rfl]
   rw [hfe, if_pos rfl] at HL
   generalize (nd d pn).kind = kd at *
   generalize (nd d pn).mode = md at *
   generalize (nd d pn).ents = es at *
   clear h2 h2' hfe
   go_enter Tryz.func175, Tryz.ntmps175
   go_upto_region 8 with (go_at_call 24; go_loud (refine (HS.out _ HK0.out).mono ?_); rintro e w4 ⟨rfl, hk4⟩)
   have HK5 := Lib.hid ((HK0.out.trans hk4).alloc (.cells #[.int .i64 kd, .int .i64 md, .int .i64 il, .int .i64 ih, .int .i64 iz] 63))
   have f5 := (HF.out.on HK5.out).c0
   clear hk4
   go_wp2_with (go_at_call 167; go_loud (refine (HL.out _ HK5.out).mono ?_); rintro e w6 ⟨v, rfl, ho, hk6⟩)
   go_ret2
   exact ⟨_, rfl, ho.mono (fun g hg h => Nat.le_trans HK5.out.size h), HK5.out.trans hk6⟩
end
structure FSx (W : World) (P : Nat -> Prop) (w : World) (F a : Nat) (d : Nds) (room calls fail : Int) : Prop where
 ex : ∃ N : Nat -> Prop, (∀ g, g < W.heap.size -> N g) ∧ (∀ g, P g -> N g) ∧ FSt N w F a d room calls fail
 keeps : Keeps NoB W w
section
variable {W w w' : World} {P P' : Nat -> Prop} {F a : Nat} {d d' : Nds} {room calls calls' fail : Int}
theorem FSx.inv (h : FSx W P w F a d room calls fail) : DInv d := by obtain ⟨N, _, _, h⟩ := h.ex; exact h.pd.inv
theorem FSx.clean (h : FSx W P w F a d room calls fail) : NoGarb d := by obtain ⟨N, _, _, h⟩ := h.ex; exact h.pd.clean
theorem FSx.small (h : FSx W P w F a d room calls fail) : smallD d := by obtain ⟨N, _, _, h⟩ := h.ex; exact h.pd.small
theorem FSx.lt (h : FSx W P w F a d room calls fail) : F < w.heap.size := by obtain ⟨N, _, _, h⟩ := h.ex; exact h.lt
theorem FSx.low (h : FSx W P w F a d room calls fail) (g : Nat) (hg : P g) : g < w.heap.size := by obtain ⟨N, _, h1, h⟩ := h.ex; exact h.low g (h1 g hg)
theorem FSx.new {W : World} (h : FSt (fun g => g < W.heap.size) w F a d room calls fail) (k : Keeps NoB W w) : FSx W NoB w F a d room calls fail :=
 ⟨⟨_, fun _ hg => hg, fun _ hg => hg.elim, h⟩, k⟩
theorem FSx.more (h : FSx W P w F a d room calls fail) (k : Keeps NoB w w') (hP : ∀ g, P' g -> P g ∨ (w.heap.size <= g ∧ g < w'.heap.size)) : FSx W P' w' F a d room calls fail := by
 obtain ⟨N, h1, h2, h3⟩ := h.ex
 obtain ⟨N1, g1, g2, g3⟩ := h3.wider k
 exact ⟨⟨N1, fun g hg => g1 g (h1 g hg), fun g hg => (hP g hg).elim (fun h => g1 g (h2 g h)) (fun h => g2 g h.1 h.2), g3⟩, h.keeps.trans k⟩
theorem FSx.on (h : FSx W P w F a d room calls fail) (k : Keeps NoB w w') : FSx W P w' F a d room calls fail := h.more k (fun _ hg => .inl hg)
theorem FSx.turn {G : Nat -> Prop} (h : FSx W P w F a d room calls fail) (k : Keeps G w w') (hG : ∀ g, G g -> P g ∧ W.heap.size <= g) : FSx W P w' F a d room calls fail := by
 obtain ⟨N, h1, h2, h3⟩ := h.ex
 exact ⟨⟨N, h1, h2, h3.keep k (fun g hg => h2 g (hG g hg).1)⟩, h.keeps.step k (fun g hg => .inr (hG g hg).2)⟩
def FXo (W : World) (P : Nat -> Prop) (w : World) (F a : Nat) (d' : Nds) (room calls' fail : Int) (V : Value) : Ending -> World -> Prop := fun e w' =>
 e = .returned V ∧ FSx W P w' F a d' room calls' fail ∧ Keeps (fun g => ¬ (g < W.heap.size ∨ P g)) w w'
theorem FSx.call {f : Nat} {args : Array Value} {V : Value} (h : FSx W P w F a d room calls fail) (hc : ∀ N : Nat -> Prop, FSt N w F a d room calls fail -> Calls Tryz.prog f args w (FTo N w F a d' room calls' fail V)) :
 Calls Tryz.prog f args w (FXo W P w F a d' room calls' fail V) := by
 obtain ⟨N, h1, h2, h3⟩ := h.ex
 refine (hc N h3).mono ?_
 rintro e w' ⟨rfl, h4, h5⟩
 have k : Keeps (fun g => ¬ (g < W.heap.size ∨ P g)) w w' := h5.mono (fun g _ hg hn => hg (hn.elim (h1 g) (h2 g)))
 exact ⟨rfl, ⟨⟨N, h1, h2, h4⟩, h.keeps.step k (fun g hg => .inr (by
  rcases Nat.lt_or_ge g W.heap.size with h | h
  ·exact absurd (.inl h) hg
  ·exact h))⟩, k⟩
theorem FSx.asks {f : Nat} {args : Array Value} {Q : Ending -> World -> Prop} (h : FSx W P w F a d room calls fail) (hc : ∀ N : Nat -> Prop, FSt N w F a d room calls fail -> Calls Tryz.prog f args w Q) : Calls Tryz.prog f args w Q := by
 obtain ⟨N, _, _, h3⟩ := h.ex
 exact hc N h3
theorem FSx.kept (h : FSx W P w F a d room calls fail) {B : Nat} {l : List Value} (hb : Bx w B l) (k : Keeps (fun g => ¬ (g < W.heap.size ∨ P g)) w w') (hB : P B) : Bx w' B l := hb.keep k (fun hn => hn (.inr hB))
end
def encU8 : Enc UInt8 where
 enc := fun c => [.int .u8 (c.toNat : Int)]
 k := 1
 pos := by decide
 len := fun _ => rfl
 one := fun x v hv => by simp at hv; subst hv; rfl
section
variable {S : Nat -> Prop} {w w' : World} {b : Nat} {s : List UInt8}
end
theorem conv_sl (w : World) (s : ByteArray) (hs : s.size <= maxLen) :
 SlAt encU8 (fun g => g = w.heap.size) (Lib.bytesWorld w 5 s) (some ⟨w.heap.size, 0, none⟩) (grownCap w s.size 0 5) s.data.toList ∧ Keeps NoB w (Lib.bytesWorld w 5 s) := by
 have hge : s.size <= grownCap w s.size 0 5 := grownCap_ge w s.size 0 5
 have hle := grownCap_le_maxLen w s.size 0 5 hs
 have hsize := Lib.bytesWorld_size w 5 s
 have hl : s.data.toList.length = s.size := len_data s
 refine ⟨⟨by rw [hl]; exact hge, hle, (fun h => by cases h), (fun _ a ha => by cases ha; rfl), fun _ => ⟨w.heap.size, 0, rfl, rfl, by rw [hsize]; omega, fun j hj => ?_⟩⟩, ?_⟩
 ·have hj2 : j < s.data.toList.length := by simpa [encU8] using hj
  rw [Nat.zero_add, Lib.bytesWorld_cell w 5 s j hj2]
  have := Enc.flat_get encU8 s.data.toList j 0 (by decide)
  simp only [show encU8.k = 1 from rfl, Nat.mul_one, Nat.add_zero] at this
  rw [this, List.getElem?_eq_getElem hj2]
  simp [List.getD, List.getElem?_eq_getElem hj2, encU8]
 ·refine ⟨?_, ?_, ?_, by omega, fun k hk _ => Lib.bytesWorld_at_old w 5 s k hk⟩
  ·simp [Lib.bytesWorld, World.freeze]; rfl
  ·simp [Lib.bytesWorld, World.freeze]
  ·simp [Lib.bytesWorld, World.freeze]; rfl
set_option maxHeartbeats 8000000
structure FP where
 means : Bool
 dot : Bool
 mt : ByteArray -> Bool
section
variable {N : Nat -> Prop} {w w' w2 : World} {F a : Nat} {d d' : Nds} {room calls fail : Int}
variable {G : Nat} {at' mask : Int} {v v' v2 : Value} {out out' out2 : List ByteArray}
end
end Go.Proofs.YtnaenhekjdmlaaaGreatDoor
