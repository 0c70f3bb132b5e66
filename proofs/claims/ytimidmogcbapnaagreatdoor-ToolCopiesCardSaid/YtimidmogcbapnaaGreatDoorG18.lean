/-
  Layer 6: contracts of files: Stat. (Printed by genfiles.py.)
-/
import Derived.Test.YtimidmogcbapnaaGreatDoorG15
import Derived.Deep.RegionHeld3
import Derived.BigRegion

set_option linter.unusedSimpArgs false
set_option linter.unusedVariables false
set_option maxRecDepth 100000
set_option maxHeartbeats 4000000
namespace Go.Proofs.YtimidmogcbapnaaGreatDoor
open Go Go.RowKit
section
variable {N : Nat -> Prop} {w w' : World} {F a : Nat} {d d' : Nds} {room calls fail : Int}
theorem results_tmp_cell_tmp {fn : Func} {p u t : Tmp} {ty : TypeId} (h : fn.results = #[.tmp u, .cell p ty, .tmp t]) (tmps : Array Value) (P : Program) (w : World) :
 (results fn tmps).run P w =
   ((asAddr (tmps.getD p undef)).run P w).andThen fun a w₁ => ((loadVar ty a).run P w₁).andThen fun v w₂ => .ok (.tuple #[tmps.getD u undef, v, tmps.getD t undef]) w₂ := by
 simp only [results, h]
 simp [Sem.run_bind, Result.andThen]
def statV (d : Nds) (X : Plc × Int) : Value := if X.2 ≠ 0 then noInfo else infoAt d X.1.node
def statE (d : Nds) (X : Plc × Int) : Int := if X.2 ≠ 0 then X.2 else if has d X.1.node then 0 else 12
theorem stat_any (h : FSt N w F a d room calls fail) (at' mask : Int) (s : ByteArray) (follow : Bool) (hsz : s.size <= 4294967280) :
 Calls Tryz.prog 12 #[.pointer (some ⟨F, 0, none⟩), .agg #[.int .i64 at', .int .i64 mask], .string s, .bool follow] w fun e w' =>
  e = .returned (.tuple #[.int .i64 (thrR d at' s follow).1.node, statV d (thrR d at' s follow), .int .i64 (statE d (thrR d at' s follow))]) ∧ Keeps NoB w w' := by
 have ks : Keeps NoB w (w.alloc (.cells #[.int .i64 at', .int .i64 mask] 28)) := (Keeps.refl _ _).alloc _
 have kz : Keeps NoB w ((w.alloc (.cells #[.int .i64 at', .int .i64 mask] 28)).alloc (.cells #[.int .i64 0, .int .i64 0, .int .i64 0, .int .i64 0, .int .i64 0] 42)) := ks.alloc _
 have HFS := Lib.hid (h.on kz)
 have HW := Lib.hid (Bx.new (w := w) ((Keeps.refl NoB (w.alloc (.cells #[.int .i64 at', .int .i64 mask] 28))).alloc (.cells #[.int .i64 0, .int .i64 0, .int .i64 0, .int .i64 0, .int .i64 0] 42)))
 have HR := Lib.hid (Bx.new (Keeps.refl NoB ((w.alloc (.cells #[.int .i64 at', .int .i64 mask] 28)).alloc (.cells #[.int .i64 0, .int .i64 0, .int .i64 0, .int .i64 0, .int .i64 0] 42))))
 rw [show (w.alloc (.cells #[.int .i64 at', .int .i64 mask] 28)).heap.size = w.heap.size + 1 by simp] at HR
 have HK := Lib.hid kz
 obtain ⟨O, hO⟩ : ∃ O, thrR d at' s follow = O := ⟨_, rfl⟩
 have HOF := Lib.hid (show O = thrR d at' s follow from hO.symm)
 rw [hO]
 have hT := fun e0 : O.2 = 0 => (thrR_ok (by rw [hO]; exact e0)).2
 have hTE := fun e0 : O.2 = 0 => (thrR_ok (by rw [hO]; exact e0)).1
 have HNo : Hid (O.2 ≠ 0 -> O.1 = .no) := fun e0 => by
  rw [<- hO] at e0 ⊢
  unfold thrR thereR at *
  split
  ·rfl
  ·next h1 =>
   rw [if_neg h1] at e0
   split
   ·rfl
   ·next h2 => rw [if_neg h2] at e0; exact absurd e0 h1
 clear hO h ks kz hT hTE
 go_enter Tryz.func12, Tryz.ntmps12
 go_upto_region 1 with fail
 generalize ((w.alloc (.cells #[.int .i64 at', .int .i64 mask] 28)).alloc (.cells #[.int .i64 0, .int .i64 0, .int .i64 0, .int .i64 0, .int .i64 0] 42)) = wc at *
 obtain ⟨X, hX⟩ : ∃ X, thrR d at' s follow = X := ⟨_, rfl⟩
 have HFi := Lib.hid (fun (w1 : World) (hk : Keeps NoB wc w1) => (HFS.out.on hk).thr at' s follow hsz)
 rw [hX] at HFi HOF
 obtain ⟨⟨pn, pd, pm⟩, pe⟩ := X
 unfold plcV at HFi
 simp only at HFi HOF
 have HXp := Lib.hid hX
 clear hX
 have f0 := HFS.out.c0
 have b0 := HW.out.cell 0 _ rfl
 go_upto_region 1 with fail
 go_cut [11, 12] from 11 to 25 (fun x y wx => ∃ G : Nat, wc.heap.size <= G ∧ x = .pointer (some ⟨G, 0, none⟩) ∧ y = .int .i64 pe ∧ Bx wx G [.int .i64 pn, .int .i64 pd, .string pm] ∧ Keeps NoB wc wx)
 case first =>
  have kr := Keeps.refl NoB wc
  have krd := kr.drew
  have d0 := (HFS.out.on krd).c0
  have d1 := (HW.out.on krd).cell 0 _ rfl
  go_region_held3 (fun wz => wz.cell? ⟨F, 0, none⟩ = some (.pointer (some ⟨a, 0, none⟩)) ∧ wz.cell? ⟨w.heap.size, 0, none⟩ = some (.int .i64 at') ∧ Keeps NoB wc wz) (refine ⟨?_, ?_, ?_⟩ <;> first | with_reducible assumption | (with_reducible refine (HFS.out.on ?_).c0; (repeat (first | with_reducible assumption | (with_reducible exact Keeps.refl _ _) | (with_reducible refine Keeps.drew ?_) | (with_reducible refine Keeps.drewN ?_ _) | (with_reducible refine Keeps.alloc ?_ _) | (with_reducible refine Keeps.setCell ?_ (by first | exact Or.inl rfl | exact Or.inr (Nat.le_refl _) | exact Or.inr (by first | (simp; done) | (simp; omega))) _))); done) | (with_reducible refine (HW.out.on ?_).cell 0 _ rfl; (repeat (first | with_reducible assumption | (with_reducible exact Keeps.refl _ _) | (with_reducible refine Keeps.drew ?_) | (with_reducible refine Keeps.drewN ?_ _) | (with_reducible refine Keeps.alloc ?_ _) | (with_reducible refine Keeps.setCell ?_ (by first | exact Or.inl rfl | exact Or.inr (Nat.le_refl _) | exact Or.inr (by first | (simp; done) | (simp; omega))) _))); done) | ((repeat (first | with_reducible assumption | (with_reducible exact Keeps.refl _ _) | (with_reducible refine Keeps.drew ?_) | (with_reducible refine Keeps.drewN ?_ _) | (with_reducible refine Keeps.alloc ?_ _) | (with_reducible refine Keeps.setCell ?_ (by first | exact Or.inl rfl | exact Or.inr (Nat.le_refl _) | exact Or.inr (by first | (simp; done) | (simp; omega))) _))); done))
   (first | (go_at_call 26; refine (HFi.out _ (by (repeat (first | with_reducible assumption | (with_reducible exact Keeps.refl _ _) | (with_reducible refine Keeps.drew ?_) | (with_reducible refine Keeps.drewN ?_ _) | (with_reducible refine Keeps.alloc ?_ _) | (with_reducible refine Keeps.setCell ?_ (by first | exact Or.inl rfl | exact Or.inr (Nat.le_refl _) | exact Or.inr (by first | (simp; done) | (simp; omega))) _))))).mono ?_; rintro e w2 ⟨rfl, hk2⟩; have zky : Keeps NoB wc w2 := Keeps.trans (by (repeat (first | with_reducible assumption | (with_reducible exact Keeps.refl _ _) | (with_reducible refine Keeps.drew ?_) | (with_reducible refine Keeps.drewN ?_ _) | (with_reducible refine Keeps.alloc ?_ _) | (with_reducible refine Keeps.setCell ?_ (by first | exact Or.inl rfl | exact Or.inr (Nat.le_refl _) | exact Or.inr (by first | (simp; done) | (simp; omega))) _)))) hk2; have zs := zky.size; have z0 := (HFS.out.on zky).c0; have z1 := (HW.out.on zky).cell 0 _ rfl; (try (have yb := Bx.newD hk2; have y0 := yb.cell 0 _ rfl; have y1 := yb.cell 1 _ rfl; have y2 := yb.cell 2 _ rfl; have yf := yb.fz))))
  all_goals (go_wp2_with fail; go_meet; refine ⟨_, ?_, rfl, rfl, ?_, ?_⟩)
  all_goals first
   | exact Nat.le_refl _
   | exact zs
   | (with_reducible exact Bx.new (Keeps.refl NoB _))
   | (exact ((yb.put 0 _).put 1 _).put 2 _)
   | ((repeat (first | with_reducible assumption | (with_reducible exact Keeps.refl _ _) | (with_reducible refine Keeps.drew ?_) | (with_reducible refine Keeps.drewN ?_ _) | (with_reducible refine Keeps.alloc ?_ _) | (with_reducible refine Keeps.setCell ?_ (by first | exact Or.inl rfl | exact Or.inr (Nat.le_refl _) | exact Or.inr (by first | (simp; done) | (simp; omega))) _))); done)
   | skip
 case rest =>
  obtain ⟨HPB, hG, rfl, rfl, HP, hk1⟩ := hcut
  replace HP := Lib.hid HP
  have hPR : ¬ HPB = w.heap.size + 1 := by have := HR.out.lt; omega
  clear f0 b0 HFi hG
  replace HFS := Lib.hid (HFS.out.on hk1)
  replace HK := Lib.hid (HK.out.trans hk1.of_none)
  replace HW := Lib.hid (HW.out.on hk1)
  replace HR := Lib.hid (HR.out.on hk1)
  have HO := HOF.out
  subst HO
  clear HOF
  have kk := HK.out
  by_cases hz : pe ≠ 0
  ·have hb : (pe != 0) = true := by simpa using hz
   have hno := HNo.out hz
   have HV := Lib.hid (show statV d (⟨pn, pd, pm⟩, pe) = noInfo by unfold statV; rw [if_pos hz])
   have HV3 := Lib.hid (show statE d (⟨pn, pd, pm⟩, pe) = pe by unfold statE; rw [if_pos hz])
   have HV2 := Lib.hid (show pn = 0 by have := congrArg Plc.node hno; exact this)
   have r0 := HR.out.cell 0 _ rfl
   have r1 := HR.out.cell 1 _ rfl
   have r2 := HR.out.cell 2 _ rfl
   have r3 := HR.out.cell 3 _ rfl
   have r4 := HR.out.cell 4 _ rfl
   have rf := HR.out.fz
   have rl := HR.out.lt
   clear hz hno
   go_wp2_with fail
   (try simp only [Exit.inBlock, Exit.then])
   refine bodyPost_ret (v := .tuple #[.int .i64 0, noInfo, .int .i64 pe]) ?_ rfl ?_
   ·rw [results_tmp_cell_tmp rfl]; unfold noInfo; go_simp
   ·refine ⟨by rw [HV.out, HV3.out, HV2.out], ?_⟩
    (repeat (first | with_reducible assumption | (with_reducible exact Keeps.refl _ _) | (with_reducible refine Keeps.drew ?_) | (with_reducible refine Keeps.drewN ?_ _) | (with_reducible refine Keeps.alloc ?_ _) | (with_reducible refine Keeps.setCell ?_ (by first | exact Or.inl rfl | exact Or.inr (Nat.le_refl _) | exact Or.inr (by first | (simp; done) | (simp; omega))) _)))
  have hb : (pe != 0) = false := by simpa using hz
  replace HNo : Hid (pe = 0) := Classical.not_not.1 hz
  clear hz
  have HOF : Hid ((nd d pn).kind = (nd d pn).kind) := rfl
  obtain ⟨ik, im, il, ih, iz, hik, him, _, hie⟩ := HFS.out.tell pn
  obtain ⟨ie, hie2⟩ : ∃ ie, (if has d pn then 0 else 12 : Int) = ie := ⟨_, rfl⟩
  have HIn := Lib.hid (fun (w1 : World) (hk : Keeps NoB wc w1) => (HFS.out.on hk).info pn)
  rw [hie, hie2] at HIn
  rw [<- hik] at HOF
  have HIk := Lib.hid hik
  have HIm := Lib.hid him
  have HIE := Lib.hid hie
  have HIE2 := Lib.hid hie2
  clear hie hie2 hik him
  have f0 := HFS.out.c0
  have b0 := HP.out.cell 0 _ rfl
  go_upto_region 4 with fail
  go_cut [13, 12] from 12 to 39 (fun x y wx => ∃ G : Nat, wc.heap.size <= G ∧ x = .pointer (some ⟨G, 0, none⟩) ∧ y = .int .i64 ie ∧ Bx wx G [.int .i64 ik, .int .i64 im, .int .i64 il, .int .i64 ih, .int .i64 iz] ∧ Keeps NoB wc wx)
  case first =>
   have kr := Keeps.refl NoB wc
   have krd := kr.drew
   have d0 := (HFS.out.on krd).c0
   have d1 := (HP.out.on krd).cell 0 _ rfl
   go_region_held3 (fun wz => wz.cell? ⟨F, 0, none⟩ = some (.pointer (some ⟨a, 0, none⟩)) ∧ wz.cell? ⟨HPB, 0, none⟩ = some (.int .i64 pn) ∧ Keeps NoB wc wz) (refine ⟨?_, ?_, ?_⟩ <;> first | with_reducible assumption | (with_reducible refine (HFS.out.on ?_).c0; (repeat (first | with_reducible assumption | (with_reducible exact Keeps.refl _ _) | (with_reducible refine Keeps.drew ?_) | (with_reducible refine Keeps.drewN ?_ _) | (with_reducible refine Keeps.alloc ?_ _) | (with_reducible refine Keeps.setCell ?_ (by first | exact Or.inl rfl | exact Or.inr (Nat.le_refl _) | exact Or.inr (by first | (simp; done) | (simp; omega))) _))); done) | (with_reducible refine (HP.out.on ?_).cell 0 _ rfl; (repeat (first | with_reducible assumption | (with_reducible exact Keeps.refl _ _) | (with_reducible refine Keeps.drew ?_) | (with_reducible refine Keeps.drewN ?_ _) | (with_reducible refine Keeps.alloc ?_ _) | (with_reducible refine Keeps.setCell ?_ (by first | exact Or.inl rfl | exact Or.inr (Nat.le_refl _) | exact Or.inr (by first | (simp; done) | (simp; omega))) _))); done) | ((repeat (first | with_reducible assumption | (with_reducible exact Keeps.refl _ _) | (with_reducible refine Keeps.drew ?_) | (with_reducible refine Keeps.drewN ?_ _) | (with_reducible refine Keeps.alloc ?_ _) | (with_reducible refine Keeps.setCell ?_ (by first | exact Or.inl rfl | exact Or.inr (Nat.le_refl _) | exact Or.inr (by first | (simp; done) | (simp; omega))) _))); done))
    (first | (go_at_call 37; refine (HIn.out _ (by (repeat (first | with_reducible assumption | (with_reducible exact Keeps.refl _ _) | (with_reducible refine Keeps.drew ?_) | (with_reducible refine Keeps.drewN ?_ _) | (with_reducible refine Keeps.alloc ?_ _) | (with_reducible refine Keeps.setCell ?_ (by first | exact Or.inl rfl | exact Or.inr (Nat.le_refl _) | exact Or.inr (by first | (simp; done) | (simp; omega))) _))))).mono ?_; rintro e w2 ⟨rfl, hk2⟩; have zky : Keeps NoB wc w2 := Keeps.trans (by (repeat (first | with_reducible assumption | (with_reducible exact Keeps.refl _ _) | (with_reducible refine Keeps.drew ?_) | (with_reducible refine Keeps.drewN ?_ _) | (with_reducible refine Keeps.alloc ?_ _) | (with_reducible refine Keeps.setCell ?_ (by first | exact Or.inl rfl | exact Or.inr (Nat.le_refl _) | exact Or.inr (by first | (simp; done) | (simp; omega))) _)))) hk2; have zs := zky.size; have z0 := (HFS.out.on zky).c0; have z1 := (HP.out.on zky).cell 0 _ rfl; (try (have yb := Bx.newD hk2; have y0 := yb.cell 0 _ rfl; have y1 := yb.cell 1 _ rfl; have y2 := yb.cell 2 _ rfl; have y3 := yb.cell 3 _ rfl; have y4 := yb.cell 4 _ rfl; have yf := yb.fz))))
   all_goals (go_wp2_with fail; go_meet; refine ⟨_, ?_, rfl, rfl, ?_, ?_⟩)
   all_goals first
    | exact Nat.le_refl _
    | exact zs
    | (with_reducible exact Bx.new (Keeps.refl NoB _))
    | (exact ((((yb.put 0 _).put 1 _).put 2 _).put 3 _).put 4 _)
    | ((repeat (first | with_reducible assumption | (with_reducible exact Keeps.refl _ _) | (with_reducible refine Keeps.drew ?_) | (with_reducible refine Keeps.drewN ?_ _) | (with_reducible refine Keeps.alloc ?_ _) | (with_reducible refine Keeps.setCell ?_ (by first | exact Or.inl rfl | exact Or.inr (Nat.le_refl _) | exact Or.inr (by first | (simp; done) | (simp; omega))) _))); done)
    | skip
  case rest =>
   obtain ⟨HIB, hG, rfl, rfl, HI, hk1⟩ := hcut
   replace HI := Lib.hid HI
   clear f0 b0 HIn hG
   replace HFS := Lib.hid (HFS.out.on hk1)
   replace HK := Lib.hid (HK.out.trans hk1.of_none)
   replace HW := Lib.hid (HW.out.on hk1)
   replace HR := Lib.hid (HR.out.on hk1)
   replace HP := Lib.hid (HP.out.on hk1)
   clear hk1
   have i0 := HI.out.cell 0 _ rfl
   have i1 := HI.out.cell 1 _ rfl
   have i2 := HI.out.cell 2 _ rfl
   have i3 := HI.out.cell 3 _ rfl
   have i4 := HI.out.cell 4 _ rfl
   have p0 := HP.out.cell 0 _ rfl
   have hP2 := HP.out.lt
   have hI2 := HI.out.lt
   have r0 := HR.out.cell 0 _ rfl
   have r1 := HR.out.cell 1 _ rfl
   have r2 := HR.out.cell 2 _ rfl
   have r3 := HR.out.cell 3 _ rfl
   have r4 := HR.out.cell 4 _ rfl
   have rf := HR.out.fz
   have rl := HR.out.lt
   have kk := HK.out
   go_upto_region 5 with fail
   go_region
   all_goals
    go_wp2_with fail
    (try simp only [Exit.inBlock, Exit.then])
    refine bodyPost_ret (v := .tuple #[.int .i64 pn, .agg #[.int .i64 ik, .int .i64 im, .int .i64 il, .int .i64 ih, .int .i64 iz], .int .i64 ie]) ?_ rfl ?_
    ·rw [results_tmp_cell_tmp rfl]; go_simp
    ·refine ⟨by rw [show statV d (⟨pn, pd, pm⟩, pe) = infoAt d pn by unfold statV; rw [if_neg (by rw [HNo.out]; simp)], HIE.out, show statE d (⟨pn, pd, pm⟩, pe) = ie by unfold statE; rw [if_neg (by rw [HNo.out]; simp)]; exact HIE2.out], ?_⟩
     (repeat (first | with_reducible assumption | (with_reducible exact Keeps.refl _ _) | (with_reducible refine Keeps.drew ?_) | (with_reducible refine Keeps.drewN ?_ _) | (with_reducible refine Keeps.alloc ?_ _) | (with_reducible refine Keeps.setCell ?_ (by first | exact Or.inl rfl | exact Or.inr (Nat.le_refl _) | exact Or.inr (by first | (simp; done) | (simp; omega))) _)))
end
end Go.Proofs.YtimidmogcbapnaaGreatDoor
