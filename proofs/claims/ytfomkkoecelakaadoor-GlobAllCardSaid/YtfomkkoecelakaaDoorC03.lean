/-
  Layer 6: contracts of files: enter, free, gone.
-/
import Derived.Test.YtfomkkoecelakaaDoorC02
import Derived.Deep.RegionHeld3
import Derived.BigQuiet
import Derived.Deep.QuietTactic

set_option linter.unusedSimpArgs false
set_option linter.unusedVariables false

set_option maxRecDepth 100000
set_option maxHeartbeats 4000000
namespace Go.Proofs.YtfomkkoecelakaaDoor
open Go Go.RowKit

section
variable {N : Nat → Prop} {w w' : World} {F a : Nat} {d d' : Nds} {room calls fail : Int}


theorem ret_two {a b c e : Int} (h1 : a = c) (h2 : b = e) : Ending.returned (.tuple #[.int .i64 a, .int .i64 b]) = Ending.returned (.tuple #[.int .i64 c, .int .i64 e]) := by rw [h1, h2]
theorem flg_zero (f n : Int) : (bits BinOp.and IntKind.i64 f n == 0) = !flg f n := by unfold flg; simp [bne]
theorem flg_one (f n : Int) : (bits BinOp.and IntKind.i64 f n != 0) = flg f n := rfl
theorem pathErr_zero (s : ByteArray) : decide (pathErr s = 0) = (!s.toList.isEmpty && decide ((s.size : Int) ≤ 4095) && decide (bIdx s 0 < 0)) := by
  rw [isEmpty_eq]
  unfold pathErr
  by_cases h1 : s = ⟨#[]⟩
  · simp [h1]
  · by_cases h2 : 4095 < s.size
    · simp [h1, h2]; intro; omega
    · by_cases h3 : 0 ≤ bIdx s 0
      · have : ¬ bIdx s 0 < 0 := by omega
        simp [h1, h2, h3, this]
      · have h4 : bIdx s 0 < 0 := by omega
        have h5 : (s.size : Int) ≤ 4095 := by omega
        simp [h1, h2, h3, h4, h5]

theorem enter_anyF (h : FSt N w F a d room calls fail) (p : Plc) (k : Int) (hb : mass d + 1 ≤ 2147483648) (hsz : p.name.size ≤ 4294967296) (hno : folderErr d p.dir = 0 → (nd d k).kind = 2 → ¬ Above d k p.dir) :
    Calls Tryd.prog 17 #[.pointer (some ⟨F, 0, none⟩), plcV p, .int .i64 k] w (FTo N w F a (entrR d room p k).1 room calls fail (.int .i64 (entrR d room p k).2)) := by
  obtain ⟨pn, pd, pm⟩ := p
  unfold plcV entrR
  simp only at hsz hno ⊢
  have kz : Keeps NoB w (w.alloc (.cells #[.int .i64 pn, .int .i64 pd, .string pm] 55)) := (Keeps.refl _ _).alloc _
  have FS := h.on kz
  have b1 := boxed (Keeps.refl NoB (w.alloc (.cells #[.int .i64 pn, .int .i64 pd, .string pm] 55))) 1 (.int .i64 pd) rfl
  have b2 := boxed (Keeps.refl NoB (w.alloc (.cells #[.int .i64 pn, .int .i64 pd, .string pm] 55))) 2 (.string pm) rfl
  have HR := Lib.hid (fun (w1 : World) (h1 : FSt N w1 F a (enterD d room pd pm k) room calls fail) => h1.prog2 fun R hR => release_any hR k)
  have hf : Hid (∀ w1 : World, FSt N w1 F a (enterD d room pd pm k) room calls fail → w1.cell? ⟨F, 0, none⟩ = some (.pointer (some ⟨a, 0, none⟩))) := fun w1 h => h.c0
  clear h
  have f0 := FS.c0; have f1 := FS.c1; have f2 := FS.c2; have fz := FS.fz; have fl := FS.lt
  go_enter Tryd.func17, Tryd.ntmps17
  go_upto_region 1 with fail
  generalize w.alloc (.cells #[.int .i64 pn, .int .i64 pd, .string pm] 55) = w1 at *
  generalize w.heap.size = hz at *
  have HE := Lib.hid ((FS.on (Keeps.refl NoB w1).drew).prog2 fun R hR => enterD_any hR pd pm k hsz hb hno)
  clear FS hno
  go_still_tail 9, (by kernel_rfl)
  change wpList _ _ _ _ _ w1.drew
  replace kz : Keeps NoB w w1.drew := kz.drew
  generalize w1.drew = w2 at *
  go_wp2_with (first | (go_at_call 28; go_loud (refine HE.out.mono ?_); rintro e w3 ⟨rfl, hs3, hk3⟩; have f30 := hf.out _ hs3; have hr3 := HR.out _ hs3) | (go_at_call 29; go_loud (refine hr3.mono ?_); rintro e w4 ⟨rfl, hs4, hk4⟩))
  go_ret
  exact ⟨rfl, hs4, (kz.of_none.trans hk3).trans hk4⟩

theorem free_any (h : FSt N w F a d room calls fail) (at' mask : Int) (s : ByteArray) (slash : Bool) (hsz : s.size ≤ 4294967280) :
    Calls Tryd.prog 14 #[.pointer (some ⟨F, 0, none⟩), .agg #[.int .i64 at', .int .i64 mask], .string s, .bool slash] w fun e w' =>
      e = .returned (.tuple #[plcV (freeR d at' s slash).1, .int .i64 (freeR d at' s slash).2]) ∧ Keeps NoB w w' := by
  have ks : Keeps NoB w (w.alloc (.cells #[.int .i64 at', .int .i64 mask] 30)) := (Keeps.refl _ _).alloc _
  have kz : Keeps NoB w ((w.alloc (.cells #[.int .i64 at', .int .i64 mask] 30)).alloc (.cells #[.int .i64 0, .int .i64 0, .string ⟨#[]⟩] 55)) := ks.alloc _
  have FS := h.on kz
  have b0 := boxed (w := w) ((Keeps.refl NoB (w.alloc (.cells #[.int .i64 at', .int .i64 mask] 30))).alloc (.cells #[.int .i64 0, .int .i64 0, .string ⟨#[]⟩] 55)) 0 (.int .i64 at') rfl
  have KB := c3_new (v0 := .int .i64 0) (v1 := .int .i64 0) (v2 := .string ⟨#[]⟩) (Keeps.refl NoB ((w.alloc (.cells #[.int .i64 at', .int .i64 mask] 30)).alloc (.cells #[.int .i64 0, .int .i64 0, .string ⟨#[]⟩] 55)))
  have ew : (w.alloc (.cells #[.int .i64 at', .int .i64 mask] 30)).heap.size = w.heap.size + 1 := by simp
  rw [ew] at KB
  have HFi := Lib.hid (fun (w1 : World) (hk : Keeps NoB ((w.alloc (.cells #[.int .i64 at', .int .i64 mask] 30)).alloc (.cells #[.int .i64 0, .int .i64 0, .string ⟨#[]⟩] 55)) w1) => (FS.on hk).find at' s false hsz)
  have HM := Lib.hid (fun (w1 : World) (hk : Keeps NoB ((w.alloc (.cells #[.int .i64 at', .int .i64 mask] 30)).alloc (.cells #[.int .i64 0, .int .i64 0, .string ⟨#[]⟩] 55)) w1) (i : Int) => may_any (FS.on hk) i 128 (by decide))
  obtain ⟨⟨⟨node, dir, name⟩, fe⟩, hF⟩ : ∃ X, findR d (upC d) false 41 at' s 0 = X := ⟨_, rfl⟩
  have HQ := Lib.hid (show freeR d at' s slash = if fe ≠ 0 then (.no, fe) else if node ≠ 0 then (.no, 13) else if slash = false ∧ endS s = true then (.no, 12) else (⟨node, dir, name⟩, mayE d dir 128) by unfold freeR fndR; rw [hF])
  rw [hF] at HFi
  clear hF h ks ew
  unfold plcV at HFi
  simp only at HFi
  have HFS := Lib.hid FS
  have f0 := FS.c0; have f1 := FS.c1; have f2 := FS.c2; have fz := FS.fz; have fl := FS.lt
  clear FS
  go_enter Tryd.func14, Tryd.ntmps14
  go_upto_region 1 with fail
  generalize ((w.alloc (.cells #[.int .i64 at', .int .i64 mask] 30)).alloc (.cells #[.int .i64 0, .int .i64 0, .string ⟨#[]⟩] 55)) = w1 at *
  go_cut [10, 11] from 10 to 22 (fun x y wx => ∃ G : Nat, w1.heap.size ≤ G ∧ x = .pointer (some ⟨G, 0, none⟩) ∧ y = .int .i64 fe ∧ wx.cell? ⟨G, 0, none⟩ = some (.int .i64 node) ∧ wx.cell? ⟨G, 1, none⟩ = some (.int .i64 dir) ∧ wx.cell? ⟨G, 2, none⟩ = some (.string name) ∧ Keeps NoB w1 wx)
  case first =>
    have kr := Keeps.refl NoB w1
    have krd := kr.drew
    have d0 := (HFS.out.on krd).c0
    have HB0 := Lib.hid (fun (wx : World) (k : Keeps NoB w1 wx) => (k.cell (p := ⟨w.heap.size, 0, none⟩) (lt_of_cell b0) (fun h => h)).trans b0)
    have d1 := HB0.out _ krd
    go_region_held3 (fun wz => wz.cell? ⟨F, 0, none⟩ = some (.pointer (some ⟨a, 0, none⟩)) ∧ wz.cell? ⟨w.heap.size, 0, none⟩ = some (.int .i64 at') ∧ Keeps NoB w1 wz) (refine ⟨?_, ?_, ?_⟩ <;> first | with_reducible assumption | (with_reducible refine (HFS.out.on ?_).c0; (repeat (first | with_reducible assumption | (with_reducible exact Keeps.refl _ _) | (with_reducible refine Keeps.drew ?_) | (with_reducible refine Keeps.drewN ?_ _) | (with_reducible refine Keeps.alloc ?_ _) | (with_reducible refine Keeps.setCell ?_ (by first | exact Or.inl rfl | exact Or.inr (Nat.le_refl _) | exact Or.inr (by first | (simp; done) | (simp; omega))) _))); done) | (with_reducible refine HB0.out _ ?_; (repeat (first | with_reducible assumption | (with_reducible exact Keeps.refl _ _) | (with_reducible refine Keeps.drew ?_) | (with_reducible refine Keeps.drewN ?_ _) | (with_reducible refine Keeps.alloc ?_ _) | (with_reducible refine Keeps.setCell ?_ (by first | exact Or.inl rfl | exact Or.inr (Nat.le_refl _) | exact Or.inr (by first | (simp; done) | (simp; omega))) _))); done) | ((repeat (first | with_reducible assumption | (with_reducible exact Keeps.refl _ _) | (with_reducible refine Keeps.drew ?_) | (with_reducible refine Keeps.drewN ?_ _) | (with_reducible refine Keeps.alloc ?_ _) | (with_reducible refine Keeps.setCell ?_ (by first | exact Or.inl rfl | exact Or.inr (Nat.le_refl _) | exact Or.inr (by first | (simp; done) | (simp; omega))) _))); done))
      (first | (go_at_call 23; refine (HFi.out _ (by (repeat (first | with_reducible assumption | (with_reducible exact Keeps.refl _ _) | (with_reducible refine Keeps.drew ?_) | (with_reducible refine Keeps.drewN ?_ _) | (with_reducible refine Keeps.alloc ?_ _) | (with_reducible refine Keeps.setCell ?_ (by first | exact Or.inl rfl | exact Or.inr (Nat.le_refl _) | exact Or.inr (by first | (simp; done) | (simp; omega))) _))))).mono ?_; rintro e w2 ⟨rfl, hk2⟩; have zky : Keeps NoB w1 w2 := Keeps.trans (by (repeat (first | with_reducible assumption | (with_reducible exact Keeps.refl _ _) | (with_reducible refine Keeps.drew ?_) | (with_reducible refine Keeps.drewN ?_ _) | (with_reducible refine Keeps.alloc ?_ _) | (with_reducible refine Keeps.setCell ?_ (by first | exact Or.inl rfl | exact Or.inr (Nat.le_refl _) | exact Or.inr (by first | (simp; done) | (simp; omega))) _)))) hk2; have zs := zky.size; have z0 := (HFS.out.on zky).c0; have z1 := HB0.out _ zky; (try (have y0 := boxedD hk2 0 _ rfl; have y1 := boxedD hk2 1 _ rfl; have y2 := boxedD hk2 2 _ rfl; have yf := boxedF hk2))))
    all_goals (go_wp2_with fail; go_meet; refine ⟨_, ?_, rfl, rfl, ?_, ?_, ?_, ?_⟩)
    all_goals first
      | exact Nat.le_refl _
      | exact zs
      | (with_reducible exact boxed (Keeps.refl NoB _) 0 _ rfl)
      | (with_reducible exact boxed (Keeps.refl NoB _) 1 _ rfl)
      | (with_reducible exact boxed (Keeps.refl NoB _) 2 _ rfl)
      | ((repeat (first | with_reducible assumption | (with_reducible exact Keeps.refl _ _) | (with_reducible refine Keeps.drew ?_) | (with_reducible refine Keeps.drewN ?_ _) | (with_reducible refine Keeps.alloc ?_ _) | (with_reducible refine Keeps.setCell ?_ (by first | exact Or.inl rfl | exact Or.inr (Nat.le_refl _) | exact Or.inr (by first | (simp; done) | (simp; omega))) _))); done)
      | (go_simp; done)
      | skip
  case rest =>
    obtain ⟨G, hG, rfl, rfl, g0, g1, g2, hk1⟩ := hcut
    have hGn : ¬ G = w.heap.size + 1 := by have := KB.lt; omega
    have hGl := lt_of_cell g0
    have r0 := (KB.on hk1).c0
    have r1 := (KB.on hk1).c1
    have r2 := (KB.on hk1).c2
    have rf := (KB.on hk1).fz
    have rl := (KB.on hk1).lt
    have hms := Lib.hid (fun (wx : World) (k : Keeps NoB w1 wx) => HM.out wx k dir)
    have HL : Hid (s.size ≤ 4294967296) := (Nat.le_trans hsz (by decide) : s.size ≤ 4294967296)
    clear HM HFi HFS KB f0 f1 f2 fz fl b0 hsz
    replace kz := kz.trans hk1
    by_cases he : fe ≠ 0
    · have hne : (fe != 0) = true := by simpa using he
      rw [if_pos he] at HQ
      clear he
      go_wp2_with fail
      (try simp only [Exit.inBlock, Exit.then])
      refine bodyPost_ret (v := .tuple #[plcV .no, .int .i64 fe]) ?_ rfl ?_
      · rw [results_cell_tmp rfl]; unfold plcV Plc.no; go_simp
      · refine ⟨by rw [HQ.out], ?_⟩
        (repeat (first | with_reducible assumption | (with_reducible exact Keeps.refl _ _) | (with_reducible refine Keeps.drew ?_) | (with_reducible refine Keeps.drewN ?_ _) | (with_reducible refine Keeps.alloc ?_ _) | (with_reducible refine Keeps.setCell ?_ (by first | exact Or.inl rfl | exact Or.inr (Nat.le_refl _) | exact Or.inr (by first | (simp; done) | (simp; omega))) _)))
    rw [if_neg he] at HQ
    have he0 : fe = 0 := Classical.not_not.1 he
    subst he0
    by_cases hn : node ≠ 0
    · have hne : (node != 0) = true := by simpa using hn
      rw [if_pos hn] at HQ
      clear hn he
      go_wp2_with fail
      (try simp only [Exit.inBlock, Exit.then])
      refine bodyPost_ret (v := .tuple #[plcV .no, .int .i64 13]) ?_ rfl ?_
      · rw [results_cell_tmp rfl]; unfold plcV Plc.no; go_simp
      · refine ⟨by rw [HQ.out], ?_⟩
        (repeat (first | with_reducible assumption | (with_reducible exact Keeps.refl _ _) | (with_reducible refine Keeps.drew ?_) | (with_reducible refine Keeps.drewN ?_ _) | (with_reducible refine Keeps.alloc ?_ _) | (with_reducible refine Keeps.setCell ?_ (by first | exact Or.inl rfl | exact Or.inr (Nat.le_refl _) | exact Or.inr (by first | (simp; done) | (simp; omega))) _)))
    have hne : (node != 0) = false := by simpa using hn
    rw [if_neg hn] at HQ
    clear hn he
    have HSS := Lib.hid (fun wx : World => hs1 s wx HL.out)
    by_cases hsl : slash = false ∧ endS s = true
    · rw [if_pos hsl] at HQ
      obtain ⟨e1, e2⟩ := hsl
      subst e1
      rw [e2] at HSS
      clear e2
      go_wp2_with (go_at_call 24; refine (HSS.out _).mono ?_; rintro e w' ⟨rfl, rfl⟩)
      (try simp only [Exit.inBlock, Exit.then])
      refine bodyPost_ret (v := .tuple #[plcV .no, .int .i64 12]) ?_ rfl ?_
      · rw [results_cell_tmp rfl]; unfold plcV Plc.no; go_simp
      · refine ⟨by rw [HQ.out], ?_⟩
        (repeat (first | with_reducible assumption | (with_reducible exact Keeps.refl _ _) | (with_reducible refine Keeps.drew ?_) | (with_reducible refine Keeps.drewN ?_ _) | (with_reducible refine Keeps.alloc ?_ _) | (with_reducible refine Keeps.setCell ?_ (by first | exact Or.inl rfl | exact Or.inr (Nat.le_refl _) | exact Or.inr (by first | (simp; done) | (simp; omega))) _)))
    rw [if_neg hsl] at HQ
    have hcs : slash = true ∨ (slash = false ∧ endS s = false) := by
      cases slash
      · right; refine ⟨rfl, ?_⟩; simpa using hsl
      · exact .inl rfl
    clear hsl hG
    have hgs := Lib.hid (fun (wx : World) (k : Keeps NoB wc wx) => (⟨(k.cell (p := ⟨G, 0, none⟩) hGl (fun h => h)).trans g0, (k.cell (p := ⟨G, 1, none⟩) hGl (fun h => h)).trans g1, (k.cell (p := ⟨G, 2, none⟩) hGl (fun h => h)).trans g2,
      (k.cell (p := ⟨w.heap.size + 1, 0, none⟩) rl (fun h => h)).trans r0, (k.cell (p := ⟨w.heap.size + 1, 1, none⟩) rl (fun h => h)).trans r1, (k.cell (p := ⟨w.heap.size + 1, 2, none⟩) rl (fun h => h)).trans r2, fun j => (k.frozen (p := ⟨w.heap.size + 1, j, none⟩) rl (fun h => h)).trans (rf j)⟩ :
      wx.cell? ⟨G, 0, none⟩ = some (.int .i64 node) ∧ wx.cell? ⟨G, 1, none⟩ = some (.int .i64 dir) ∧ wx.cell? ⟨G, 2, none⟩ = some (.string name) ∧ wx.cell? ⟨w.heap.size + 1, 0, none⟩ = some (.int .i64 0) ∧ wx.cell? ⟨w.heap.size + 1, 1, none⟩ = some (.int .i64 0) ∧ wx.cell? ⟨w.heap.size + 1, 2, none⟩ = some (.string ⟨#[]⟩) ∧ ∀ j, wx.frozen? ⟨w.heap.size + 1, j, none⟩ = false))
    have kc := Keeps.refl NoB wc
    rcases hcs with rfl | ⟨rfl, he2⟩
    · clear HSS
      go_upto_region 8 with fail
      go_region_with (go_at_call 25; refine (hms.out _ (hk1.trans (by (repeat (first | with_reducible assumption | (with_reducible exact Keeps.refl _ _) | (with_reducible refine Keeps.drew ?_) | (with_reducible refine Keeps.drewN ?_ _) | (with_reducible refine Keeps.alloc ?_ _) | (with_reducible refine Keeps.setCell ?_ (by first | exact Or.inl rfl | exact Or.inr (Nat.le_refl _) | exact Or.inr (by first | (simp; done) | (simp; omega))) _)))))).mono ?_; rintro e w2 ⟨rfl, hk2⟩; obtain ⟨z0, z1, z2, x0, x1, x2, xf⟩ := hgs.out w2 (Keeps.trans (by (repeat (first | with_reducible assumption | (with_reducible exact Keeps.refl _ _) | (with_reducible refine Keeps.drew ?_) | (with_reducible refine Keeps.drewN ?_ _) | (with_reducible refine Keeps.alloc ?_ _) | (with_reducible refine Keeps.setCell ?_ (by first | exact Or.inl rfl | exact Or.inr (Nat.le_refl _) | exact Or.inr (by first | (simp; done) | (simp; omega))) _)))) hk2))
      all_goals
        replace kz := kz.trans (Keeps.trans (by (repeat (first | with_reducible assumption | (with_reducible exact Keeps.refl _ _) | (with_reducible refine Keeps.drew ?_) | (with_reducible refine Keeps.drewN ?_ _) | (with_reducible refine Keeps.alloc ?_ _) | (with_reducible refine Keeps.setCell ?_ (by first | exact Or.inl rfl | exact Or.inr (Nat.le_refl _) | exact Or.inr (by first | (simp; done) | (simp; omega))) _)))) hk2)
        go_wp2_with fail
        (try simp only [Exit.inBlock, Exit.then])
        refine bodyPost_ret (v := .tuple #[plcV ⟨node, dir, name⟩, .int .i64 (mayE d dir 128)]) ?_ rfl ?_
        · rw [results_cell_tmp rfl]; unfold plcV; go_simp
        · refine ⟨by rw [HQ.out], ?_⟩
          (repeat (first | with_reducible assumption | (with_reducible exact Keeps.refl _ _) | (with_reducible refine Keeps.drew ?_) | (with_reducible refine Keeps.drewN ?_ _) | (with_reducible refine Keeps.alloc ?_ _) | (with_reducible refine Keeps.setCell ?_ (by first | exact Or.inl rfl | exact Or.inr (Nat.le_refl _) | exact Or.inr (by first | (simp; done) | (simp; omega))) _)))
    · rw [he2] at HSS
      clear he2
      go_upto_region 8 with (go_at_call 24; refine (HSS.out _).mono ?_; rintro e w' ⟨rfl, rfl⟩)
      go_region_with (go_at_call 25; refine (hms.out _ (hk1.trans (by (repeat (first | with_reducible assumption | (with_reducible exact Keeps.refl _ _) | (with_reducible refine Keeps.drew ?_) | (with_reducible refine Keeps.drewN ?_ _) | (with_reducible refine Keeps.alloc ?_ _) | (with_reducible refine Keeps.setCell ?_ (by first | exact Or.inl rfl | exact Or.inr (Nat.le_refl _) | exact Or.inr (by first | (simp; done) | (simp; omega))) _)))))).mono ?_; rintro e w2 ⟨rfl, hk2⟩; obtain ⟨z0, z1, z2, x0, x1, x2, xf⟩ := hgs.out w2 (Keeps.trans (by (repeat (first | with_reducible assumption | (with_reducible exact Keeps.refl _ _) | (with_reducible refine Keeps.drew ?_) | (with_reducible refine Keeps.drewN ?_ _) | (with_reducible refine Keeps.alloc ?_ _) | (with_reducible refine Keeps.setCell ?_ (by first | exact Or.inl rfl | exact Or.inr (Nat.le_refl _) | exact Or.inr (by first | (simp; done) | (simp; omega))) _)))) hk2))
      all_goals
        replace kz := kz.trans (Keeps.trans (by (repeat (first | with_reducible assumption | (with_reducible exact Keeps.refl _ _) | (with_reducible refine Keeps.drew ?_) | (with_reducible refine Keeps.drewN ?_ _) | (with_reducible refine Keeps.alloc ?_ _) | (with_reducible refine Keeps.setCell ?_ (by first | exact Or.inl rfl | exact Or.inr (Nat.le_refl _) | exact Or.inr (by first | (simp; done) | (simp; omega))) _)))) hk2)
        go_wp2_with fail
        (try simp only [Exit.inBlock, Exit.then])
        refine bodyPost_ret (v := .tuple #[plcV ⟨node, dir, name⟩, .int .i64 (mayE d dir 128)]) ?_ rfl ?_
        · rw [results_cell_tmp rfl]; unfold plcV; go_simp
        · refine ⟨by rw [HQ.out], ?_⟩
          (repeat (first | with_reducible assumption | (with_reducible exact Keeps.refl _ _) | (with_reducible refine Keeps.drew ?_) | (with_reducible refine Keeps.drewN ?_ _) | (with_reducible refine Keeps.alloc ?_ _) | (with_reducible refine Keeps.setCell ?_ (by first | exact Or.inl rfl | exact Or.inr (Nat.le_refl _) | exact Or.inr (by first | (simp; done) | (simp; omega))) _)))

end
end Go.Proofs.YtfomkkoecelakaaDoor
