/-
 Contracts of the reference for layer 6: Rename, way 1. Printed by wip/genref6.py.
-/
import Derived.Test.YtijbhmledmnifaaGreatDoorG15
import Derived.Test.YtijbhmledmnifaaGreatDoorG23
import Derived.Deep.RegionHeld3
import Derived.StillTailTactics
import Derived.Test.YtijbhmledmnifaaGreatDoorG20

set_option linter.unusedSimpArgs false
set_option linter.unusedVariables false
set_option maxRecDepth 100000
set_option maxHeartbeats 8000000
namespace Go.Proofs.YtijbhmledmnifaaGreatDoor
open Go Go.RowKit
section
variable {S : Nat -> Prop} {w : World} {p : Option Addr} {c : Nat} {d : Nds} {room calls fail : Int}
theorem r6rename_1 (H : R6 S w p c d calls) (at' mask : Int) (a b : ByteArray) (hsa : a.size <= 4294967280) (hsb : b.size <= 4294967280) (hw : ¬ (fndR d at' b false).1.node = 0) :
  Calls Tryz.prog 65 #[fV p c d.length room calls fail, .agg #[.int .i64 at', .int .i64 mask], .string a, .string b] w (F6To S w (orFail calls fail d (renR d room at' a b)) room (calls + 1) fail) := by
 have HH := Lib.hid H
 replace hw := Lib.hid hw
 have HCa := Lib.hid (r6call_any p c d.length room calls fail H.c0 H.c1)
 unfold fV at *
 obtain ⟨X, hX⟩ : ∃ X, orFail calls fail d (renR d room at' a b) = X := ⟨_, rfl⟩
 rw [hX]
 replace hX := Lib.hid hX
 clear H
 go_enter Tryz.func65, Tryz.ntmps65
 go_upto_region 1 with fail
 have HF := Lib.hid (F6.new w (.slice p d.length c) room calls fail #[.int .i64 at', .int .i64 mask] #[.slice none 0 0, .int .i64 0, .int .i64 0, .int .i64 0] 37 46 37)
 generalize ((w.alloc (.cells #[.slice p d.length c, .int .i64 room, .int .i64 calls, .int .i64 fail] 37)).alloc (.cells #[.int .i64 at', .int .i64 mask] 46)).alloc (.cells #[.slice none 0 0, .int .i64 0, .int .i64 0, .int .i64 0] 37) = w0 at *
 obtain ⟨f0, f1, f2, f3, u0, u1, rz0, rz1, rz2, rz3, fl0, fl2, ff0, ff2⟩ := HF.out.all
 by_cases hcf : calls = fail
 case pos =>
  have hx : X = (d, 21) := hX.out.symm.trans (by unfold orFail callE; rw [if_pos hcf, if_pos (by decide)])
  subst hx
  rw [if_pos hcf] at HCa
  clear hX hcf
  go_upto_region 2 with (go_at_call 105; go_loud (refine (HCa.out _).mono ?_); rintro e w1 ⟨rfl, hkn⟩; (clear f0 f1 f2 f3 u0 u1 rz0 rz1 rz2 rz3 fl0 fl2 ff0 ff2; replace HF := Lib.hid (HF.out.on hkn); obtain ⟨f0, f1, f2, f3, u0, u1, rz0, rz1, rz2, rz3, fl0, fl2, ff0, ff2⟩ := HF.out.all))
  replace HF := Lib.hid (HF.out.setF (.slice p d.length c) room (calls + 1) fail)
  clear f0 f1 f2 f3 u0 u1 rz0 rz1 rz2 rz3 fl0 fl2 ff0 ff2
  clear hkn
  generalize (((w1.setCell ⟨w.heap.size, 0, none⟩ (.slice p d.length c)).setCell ⟨w.heap.size, 1, none⟩ (.int .i64 room)).setCell ⟨w.heap.size, 2, none⟩ (.int .i64 (calls + 1))).setCell ⟨w.heap.size, 3, none⟩ (.int .i64 fail) = w2 at *
  obtain ⟨f0, f1, f2, f3, u0, u1, rz0, rz1, rz2, rz3, fl0, fl2, ff0, ff2⟩ := HF.out.all
  go_wp2_with fail
  refine bodyPost_ret (v := .tuple #[.agg #[.slice p d.length c, .int .i64 room, .int .i64 (calls + 1), .int .i64 fail], .int .i64 21]) ?_ rfl ⟨p, c, rfl, HH.out.rows.keepN (HF.out.fin _ _ _ _), HF.out.fin _ _ _ _⟩
  rw [rcell_tmp rfl]
  go_simp
 case neg =>
 have hX2 : X = renR d room at' a b := hX.out.symm.trans (by unfold orFail callE; rw [if_neg hcf, if_neg (by decide)])
 rw [if_neg hcf] at HCa
 replace hX := Lib.hid hX2
 clear hcf hX2
 go_upto_region 2 with (go_at_call 105; go_loud (refine (HCa.out _).mono ?_); rintro e w1 ⟨rfl, hkn⟩; (clear f0 f1 f2 f3 u0 u1 rz0 rz1 rz2 rz3 fl0 fl2 ff0 ff2; replace HF := Lib.hid (HF.out.on hkn); obtain ⟨f0, f1, f2, f3, u0, u1, rz0, rz1, rz2, rz3, fl0, fl2, ff0, ff2⟩ := HF.out.all))
 replace HF := Lib.hid (HF.out.setF (.slice p d.length c) room (calls + 1) fail)
 clear f0 f1 f2 f3 u0 u1 rz0 rz1 rz2 rz3 fl0 fl2 ff0 ff2
 clear hkn HCa
 generalize (((w1.setCell ⟨w.heap.size, 0, none⟩ (.slice p d.length c)).setCell ⟨w.heap.size, 1, none⟩ (.int .i64 room)).setCell ⟨w.heap.size, 2, none⟩ (.int .i64 (calls + 1))).setCell ⟨w.heap.size, 3, none⟩ (.int .i64 fail) = w2 at *
 have HR := Lib.hid (HH.out.rows.first (L := [w.heap.size, w.heap.size + 1, w.heap.size + 1 + 1]) HF.out.k (by simp; omega))
 unfold renR at hX
 have HTh : Hid (∀ wx, Keeps NoB w2 wx -> Calls Tryz.prog 56 #[.agg #[.slice p d.length c, .int .i64 room], .int .i64 at', .string a, .bool false] wx fun e w' => e = .returned (.tuple #[.agg #[.int .i64 (thrR d at' a false).1.node, .int .i64 (thrR d at' a false).1.dir, .string (thrR d at' a false).1.name], .int .i64 (thrR d at' a false).2]) ∧ Keeps NoB wx w') := Lib.hid fun wx k => by
  have := r5therer_any (room := room) (HR.out.keepN k) HH.out.inv HH.out.small (nh_up HH.out.nh HH.out.inv HH.out.clean) at' a false hsa
  unfold plcV refV at this
  exact this
 have hth := fun he : (thrR d at' a false).2 = 0 => thr_has (d := d) HH.out.inv (at' := at') (s := a) (follow := false) he
 have hts := thrR_size d at' a false
 obtain ⟨YPB, hY⟩ : ∃ Y, thrR d at' a false = Y := ⟨_, rfl⟩
 rw [hY] at HTh hX hth hts
 have HYPB := Lib.hid hY
 clear hY
 obtain ⟨⟨tn, td, tm⟩, te⟩ := YPB
 simp only at HTh hth hts
 obtain ⟨f0, f1, f2, f3, u0, u1, rz0, rz1, rz2, rz3, fl0, fl2, ff0, ff2⟩ := HF.out.all
 go_upto_region 5 with (go_at_call 56; go_loud (refine (HTh.out _ (Keeps.refl _ _)).mono ?_); rintro e w3 ⟨rfl, hkn⟩; (clear f0 f1 f2 f3 u0 u1 rz0 rz1 rz2 rz3 fl0 fl2 ff0 ff2; replace HF := Lib.hid (HF.out.on hkn); obtain ⟨f0, f1, f2, f3, u0, u1, rz0, rz1, rz2, rz3, fl0, fl2, ff0, ff2⟩ := HF.out.all))
 have hpbPB : w.heap.size + 3 <= w3.heap.size := by omega
 have HPB := Lib.hid (Bk.new (Keeps.refl NoB (w3.alloc (.cells #[.int .i64 tn, .int .i64 td, .string tm] 129))))
 replace HF := Lib.hid (HF.out.on ((Keeps.refl NoB w3).alloc (.cells #[.int .i64 tn, .int .i64 td, .string tm] 129)))
 replace HR := Lib.hid ((HR.out.keepN hkn).keepN ((Keeps.refl NoB w3).alloc (.cells #[.int .i64 tn, .int .i64 td, .string tm] 129)))
 clear HTh
 clear f0 f1 f2 f3 u0 u1 rz0 rz1 rz2 rz3 fl0 fl2 ff0 ff2
 clear hkn
 generalize w3.alloc (.cells #[.int .i64 tn, .int .i64 td, .string tm] 129) = w4 at *
 generalize w3.heap.size = PB at *
 obtain ⟨f0, f1, f2, f3, u0, u1, rz0, rz1, rz2, rz3, fl0, fl2, ff0, ff2⟩ := HF.out.all
 by_cases hye : te = 0
 case neg =>
  have hb : (te != 0) = true := by simpa using hye
  obtain rfl : X = (d, te) := hX.out.trans (if_pos hye)
  clear hX hye
  go_wp2_with fail
  refine bodyPost_ret (v := .tuple #[.agg #[.slice p d.length c, .int .i64 room, .int .i64 (calls + 1), .int .i64 fail], .int .i64 te]) ?_ rfl ⟨p, c, rfl, HH.out.rows.keepN (HF.out.fin _ _ _ _), HF.out.fin _ _ _ _⟩
  rw [rcell_tmp rfl]
  go_simp
 case pos =>
  subst hye
  replace hX := Lib.hid (hX.out.trans (if_neg (by simp)))
  clear hts HYPB
  obtain ⟨k, hkn2, hk⟩ := has_nat (hth rfl)
  have hkn2 : tn = (k : Int) := hkn2
  subst hkn2
  obtain ⟨gr, off, q, mq, rfl, hSg, hrow⟩ := HR.out.rowAt hk
  have k0 := hrow.c0
  have hcap := HR.out.cap
  have hmax := HR.out.max
  unfold maxLen at hmax
  have hkz : (k : Int) < (d.length : Int) := by omega
  clear hrow hth
  obtain ⟨kd, hkd⟩ : ∃ kd, (nd d (k : Int)).kind = kd := ⟨_, rfl⟩
  rw [hkd] at k0
  have hX0 := hX.out
  simp only [hkd] at hX0
  replace hX := Lib.hid hX0
  clear hkd hX0
  clear f0 f1 f2 f3 u0 u1 rz0 rz1 rz2 rz3 fl0 fl2 ff0 ff2
  have K0 := Lib.hid k0
  have hgr := lt_of_cell k0
  clear k0
  have HTh : Hid (∀ wx, Keeps NoB w4 wx -> Calls Tryz.prog 122 #[.agg #[.slice (some ⟨gr, off, none⟩) d.length c, .int .i64 room], .int .i64 at', .string b, .bool false] wx fun e w' => ∃ q : Plc, e = .returned (.tuple #[.agg #[.int .i64 q.node, .int .i64 q.dir, .string q.name], .int .i64 (fndR d at' b false).2]) ∧ ((fndR d at' b false).2 = 0 -> q = (fndR d at' b false).1) ∧ Keeps NoB wx w') := Lib.hid fun wx k => by
   have := r5findq_any (room := room) (HR.out.keepN k) HH.out.inv HH.out.small (nh_up HH.out.nh HH.out.inv HH.out.clean) at' b false hsb
   unfold plcV refV at this
   refine this.mono ?_
   rintro e w' ⟨rfl, hk⟩
   exact ⟨_, rfl, fun h0 => congrArg Prod.fst (show qF (fndR d at' b false) = fndR d at' b false from if_pos h0), hk⟩
  have hqs := fndR_size d at' b false
  obtain ⟨Z, hZ⟩ : ∃ Z, fndR d at' b false = Z := ⟨_, rfl⟩
  rw [hZ] at HTh hX hqs hw
  clear hZ
  obtain ⟨⟨yn, yd, ym⟩, ye⟩ := Z
  simp only at HTh hqs
  obtain ⟨f0, f1, f2, f3, u0, u1, rz0, rz1, rz2, rz3, fl0, fl2, ff0, ff2⟩ := HF.out.all
  go_upto_region 8 with (go_at_call 122; go_loud (refine (HTh.out _ (Keeps.refl _ _)).mono ?_); rintro e w5 ⟨⟨qn, qd, qm⟩, rfl, hq, hkn⟩; (clear f0 f1 f2 f3 u0 u1 rz0 rz1 rz2 rz3 fl0 fl2 ff0 ff2; replace HF := Lib.hid (HF.out.on hkn); obtain ⟨f0, f1, f2, f3, u0, u1, rz0, rz1, rz2, rz3, fl0, fl2, ff0, ff2⟩ := HF.out.all))
  replace hq := Lib.hid hq
  replace HPB := Lib.hid (HPB.out.on hkn)
  replace HPB := Lib.hid (HPB.out.on ((Keeps.refl NoB w5).alloc (.cells #[.int .i64 qn, .int .i64 qd, .string qm] 129)))
  have k0 := ((hkn.alloc (.cells #[.int .i64 qn, .int .i64 qd, .string qm] 129)).cell (p := ⟨gr, off + k * 5, none⟩) hgr (fun h => h)).trans K0.out
  have hpbQB : w.heap.size + 3 <= w5.heap.size := by omega
  have HQB := Lib.hid (Bk.new (Keeps.refl NoB (w5.alloc (.cells #[.int .i64 qn, .int .i64 qd, .string qm] 129))))
  replace HF := Lib.hid (HF.out.on ((Keeps.refl NoB w5).alloc (.cells #[.int .i64 qn, .int .i64 qd, .string qm] 129)))
  replace HR := Lib.hid ((HR.out.keepN hkn).keepN ((Keeps.refl NoB w5).alloc (.cells #[.int .i64 qn, .int .i64 qd, .string qm] 129)))
  clear HTh K0
  clear f0 f1 f2 f3 u0 u1 rz0 rz1 rz2 rz3 fl0 fl2 ff0 ff2
  clear hkn
  generalize w5.alloc (.cells #[.int .i64 qn, .int .i64 qd, .string qm] 129) = w6 at *
  generalize w5.heap.size = QB at *
  obtain ⟨f0, f1, f2, f3, u0, u1, rz0, rz1, rz2, rz3, fl0, fl2, ff0, ff2⟩ := HF.out.all
  by_cases hye : ye = 0
  case neg =>
   have hb2 : (ye != 0) = true := by simpa using hye
   obtain rfl : X = (d, ye) := hX.out.trans (if_pos hye)
   clear hX hye hq
   go_wp2_with fail
   refine bodyPost_ret (v := .tuple #[.agg #[.slice (some ⟨gr, off, none⟩) d.length c, .int .i64 room, .int .i64 (calls + 1), .int .i64 fail], .int .i64 ye]) ?_ rfl ⟨(some ⟨gr, off, none⟩), c, rfl, HH.out.rows.keepN (HF.out.fin _ _ _ _), HF.out.fin _ _ _ _⟩
   rw [rcell_tmp rfl]
   go_simp
  case pos =>
   subst hye
   replace hX := Lib.hid (hX.out.trans (if_neg (by simp)))
   have hqq := hq.out rfl
   cases hqq
   clear hq
   have p0 := HPB.out.cell 0 _ rfl
   have p1 := HPB.out.cell 1 _ rfl
   have p2 := HPB.out.cell 2 _ rfl
   have q0 := HQB.out.cell 0 _ rfl
   have q1 := HQB.out.cell 1 _ rfl
   have q2 := HQB.out.cell 2 _ rfl
   have HSl := Lib.hid (r6slash_any b (by omega))
   by_cases hnm : tm = ⟨#[]⟩ ∨ ym = ⟨#[]⟩
   case pos =>
    obtain rfl : X = (d, 23) := hX.out.trans (if_pos hnm)
    clear hX HSl
    have hnc : tm.size = 0 ∨ (¬ tm.size = 0 ∧ ym.size = 0) := by
     rcases hnm with rfl | rfl
     ·exact .inl rfl
     ·by_cases e : tm.size = 0
      ·exact .inl e
      ·exact .inr ⟨e, rfl⟩
    clear hnm
    rcases hnc with h | ⟨h, h2⟩
    ·have he : tm.toList.isEmpty = true := by rw [emp_dec]; simp [h]
     clear h
     go_wp2_with fail
     refine bodyPost_ret (v := .tuple #[.agg #[.slice (some ⟨gr, off, none⟩) d.length c, .int .i64 room, .int .i64 (calls + 1), .int .i64 fail], .int .i64 23]) ?_ rfl ⟨(some ⟨gr, off, none⟩), c, rfl, HH.out.rows.keepN (HF.out.fin _ _ _ _), HF.out.fin _ _ _ _⟩
     rw [rcell_tmp rfl]
     go_simp
    ·have he : tm.toList.isEmpty = false := by rw [emp_dec]; simp [h]
     have he2 : ym.toList.isEmpty = true := by rw [emp_dec]; simp [h2]
     clear h h2
     go_wp2_with fail
     refine bodyPost_ret (v := .tuple #[.agg #[.slice (some ⟨gr, off, none⟩) d.length c, .int .i64 room, .int .i64 (calls + 1), .int .i64 fail], .int .i64 23]) ?_ rfl ⟨(some ⟨gr, off, none⟩), c, rfl, HH.out.rows.keepN (HF.out.fin _ _ _ _), HF.out.fin _ _ _ _⟩
     rw [rcell_tmp rfl]
     go_simp
   case neg =>
   have he : tm.toList.isEmpty = false := by
    rw [emp_dec, decide_eq_false]
    exact fun h => hnm (.inl (ByteArray.ext (Array.eq_empty_of_size_eq_zero h)))
   have he2 : ym.toList.isEmpty = false := by
    rw [emp_dec, decide_eq_false]
    exact fun h => hnm (.inr (ByteArray.ext (Array.eq_empty_of_size_eq_zero h)))
   replace hX := Lib.hid (hX.out.trans (if_neg hnm))
   clear hnm
   obtain ⟨es, hes⟩ : ∃ es, endS b = es := ⟨_, rfl⟩
   rw [hes] at hX HSl
   clear hes
   by_cases h14 : yn = 0 ∧ es = true ∧ kd ≠ 2
   case pos =>
    obtain rfl : X = (d, 14) := hX.out.trans (if_pos h14)
    obtain ⟨rfl, rfl, h3⟩ := h14
    have hbk : (kd != 2) = true := by simpa using h3
    clear hX h3
    go_upto_region 13 with (go_at_call 135; go_loud (refine (HSl.out _).mono ?_); rintro e w9 ⟨rfl, hw9⟩; obtain rfl : w6 = w9 := hw9.symm)
    go_wp2_with fail
    refine bodyPost_ret (v := .tuple #[.agg #[.slice (some ⟨gr, off, none⟩) d.length c, .int .i64 room, .int .i64 (calls + 1), .int .i64 fail], .int .i64 14]) ?_ rfl ⟨(some ⟨gr, off, none⟩), c, rfl, HH.out.rows.keepN (HF.out.fin _ _ _ _), HF.out.fin _ _ _ _⟩
    rw [rcell_tmp rfl]
    go_simp
   case neg =>
   replace hX := Lib.hid (hX.out.trans (if_neg h14))
   have hby : (yn == 0) = decide (yn = 0) := rfl
   have hbk : (kd != 2) = !decide (kd = 2) := rfl
   have h : ¬ yn = 0 := hw.out
   rw [decide_eq_false h] at hby
   clear h14 hw
   all_goals
    clear h
    have HMy : Hid (∀ wx, Keeps NoB w6 wx -> Calls Tryz.prog 130 #[.agg #[.slice (some ⟨gr, off, none⟩) d.length c, .int .i64 room, .int .i64 (calls + 1), .int .i64 fail], .int .i64 td, .int .i64 7] wx fun e w' => e = .returned (.int .i64 (mayE d td 128)) ∧ Keeps NoB wx w') := Lib.hid fun wx k => r6may_any (HR.out.keepN k) HH.out.inv td 7 (by decide)
    obtain ⟨m1, hme⟩ : ∃ me, mayE d td 128 = me := ⟨_, rfl⟩
    rw [hme] at HMy hX
    clear hme
    go_upto_region 15 with (first | (go_at_call 135; go_loud (refine (HSl.out _).mono ?_); rintro e w9 ⟨rfl, hw9⟩; obtain rfl : w6 = w9 := hw9.symm) | (go_at_call 130; go_loud (refine (HMy.out _ (Keeps.refl _ _)).mono ?_); rintro e w7 ⟨rfl, hkn⟩; (clear p0 p1 p2 q0 q1 q2); replace HPB := Lib.hid (HPB.out.on hkn); have p0 := HPB.out.cell 0 _ rfl; have p1 := HPB.out.cell 1 _ rfl; have p2 := HPB.out.cell 2 _ rfl; replace HQB := Lib.hid (HQB.out.on hkn); have q0 := HQB.out.cell 0 _ rfl; have q1 := HQB.out.cell 1 _ rfl; have q2 := HQB.out.cell 2 _ rfl; (clear f0 f1 f2 f3 u0 u1 rz0 rz1 rz2 rz3 fl0 fl2 ff0 ff2; replace HF := Lib.hid (HF.out.on hkn); obtain ⟨f0, f1, f2, f3, u0, u1, rz0, rz1, rz2, rz3, fl0, fl2, ff0, ff2⟩ := HF.out.all)))
    replace HR := Lib.hid (HR.out.keepN hkn)
    clear hkn HMy
    by_cases hm0 : m1 = 0
    case neg =>
     have hbm : (m1 != 0) = true := by simpa using hm0
     obtain rfl : X = (d, m1) := hX.out.trans (if_pos hm0)
     clear hX hm0
     go_wp2_with fail
     refine bodyPost_ret (v := .tuple #[.agg #[.slice (some ⟨gr, off, none⟩) d.length c, .int .i64 room, .int .i64 (calls + 1), .int .i64 fail], .int .i64 m1]) ?_ rfl ⟨(some ⟨gr, off, none⟩), c, rfl, HH.out.rows.keepN (HF.out.fin _ _ _ _), HF.out.fin _ _ _ _⟩
     rw [rcell_tmp rfl]
     go_simp
    case pos =>
    subst hm0
    replace hX := Lib.hid (hX.out.trans (if_neg (by simp)))
    clear k0
    have HMy : Hid (∀ wx, Keeps NoB w7 wx -> Calls Tryz.prog 130 #[.agg #[.slice (some ⟨gr, off, none⟩) d.length c, .int .i64 room, .int .i64 (calls + 1), .int .i64 fail], .int .i64 yd, .int .i64 7] wx fun e w' => e = .returned (.int .i64 (mayE d yd 128)) ∧ Keeps NoB wx w') := Lib.hid fun wx k => r6may_any (HR.out.keepN k) HH.out.inv yd 7 (by decide)
    obtain ⟨m2, hme⟩ : ∃ me, mayE d yd 128 = me := ⟨_, rfl⟩
    rw [hme] at HMy hX
    clear hme
    go_upto_region 18 with ((go_at_call 130; go_loud (refine (HMy.out _ (Keeps.refl _ _)).mono ?_); rintro e w8 ⟨rfl, hkn⟩; (clear p0 p1 p2 q0 q1 q2); replace HPB := Lib.hid (HPB.out.on hkn); have p0 := HPB.out.cell 0 _ rfl; have p1 := HPB.out.cell 1 _ rfl; have p2 := HPB.out.cell 2 _ rfl; replace HQB := Lib.hid (HQB.out.on hkn); have q0 := HQB.out.cell 0 _ rfl; have q1 := HQB.out.cell 1 _ rfl; have q2 := HQB.out.cell 2 _ rfl; (clear f0 f1 f2 f3 u0 u1 rz0 rz1 rz2 rz3 fl0 fl2 ff0 ff2; replace HF := Lib.hid (HF.out.on hkn); obtain ⟨f0, f1, f2, f3, u0, u1, rz0, rz1, rz2, rz3, fl0, fl2, ff0, ff2⟩ := HF.out.all)))
    replace HR := Lib.hid (HR.out.keepN hkn)
    clear hkn HMy
    by_cases hm0 : m2 = 0
    case neg =>
     have hbm : (m2 != 0) = true := by simpa using hm0
     obtain rfl : X = (d, m2) := hX.out.trans (if_pos hm0)
     clear hX hm0
     go_wp2_with fail
     refine bodyPost_ret (v := .tuple #[.agg #[.slice (some ⟨gr, off, none⟩) d.length c, .int .i64 room, .int .i64 (calls + 1), .int .i64 fail], .int .i64 m2]) ?_ rfl ⟨(some ⟨gr, off, none⟩), c, rfl, HH.out.rows.keepN (HF.out.fin _ _ _ _), HF.out.fin _ _ _ _⟩
     rw [rcell_tmp rfl]
     go_simp
    case pos =>
    subst hm0
    replace hX := Lib.hid (hX.out.trans (if_neg (by simp)))
    clear f0 f1 f2 f3 u0 u1 rz0 rz1 rz2 rz3 fl0 fl2 ff0 ff2
    clear p0 p1 p2 q0 q1 q2
    have hx2 := hX.out
    have HE := Lib.hid (fun (wx : World) (k : Keeps NoB w8 wx) => r4move_any (room := room) (HR.out.keepN k) (NI.new HH.out.all (HF.out.k.trans k) (by have := HF.out.b2.lt; have := k.size; simp; omega)) HH.out.inv HH.out.clean HH.out.small td tm yd ym (Nat.le_trans hqs (by decide)))
    replace hx2 : X = (moveD d room td tm yd ym, moveErr d room td tm yd ym) := hx2
    clear hX
    unfold RTo refV at HE
    generalize moveD d room td tm yd ym = d3 at *
    generalize moveErr d room td tm yd ym = e3 at *
    subst hx2
    obtain ⟨f0, f1, f2, f3, u0, u1, rz0, rz1, rz2, rz3, fl0, fl2, ff0, ff2⟩ := HF.out.all
    have p0 := HPB.out.cell 0 _ rfl
    have p1 := HPB.out.cell 1 _ rfl
    have p2 := HPB.out.cell 2 _ rfl
    have q0 := HQB.out.cell 0 _ rfl
    have q1 := HQB.out.cell 1 _ rfl
    have q2 := HQB.out.cell 2 _ rfl
    go_upto_region 21 with (go_at_call 136; go_loud (refine (HE.out _ (Keeps.refl _ _)).mono ?_); rintro e wd ⟨p3, c3, rfl, hr, hkn⟩; (clear f0 f1 f2 f3 u0 u1 rz0 rz1 rz2 rz3 fl0 fl2 ff0 ff2; replace HF := Lib.hid (HF.out.on hkn); obtain ⟨f0, f1, f2, f3, u0, u1, rz0, rz1, rz2, rz3, fl0, fl2, ff0, ff2⟩ := HF.out.all))
    have HD := Lib.hid (Bk.new (Keeps.refl NoB (wd.alloc (.cells #[.slice p3 d3.length c3, .int .i64 room] 35))))
    replace HF := Lib.hid (HF.out.on ((Keeps.refl NoB wd).alloc (.cells #[.slice p3 d3.length c3, .int .i64 room] 35)))
    have HRd := Lib.hid (hr.keepN ((Keeps.refl NoB wd).alloc (.cells #[.slice p3 d3.length c3, .int .i64 room] 35)))
    clear f0 f1 f2 f3 u0 u1 rz0 rz1 rz2 rz3 fl0 fl2 ff0 ff2
    clear hkn hr HE
    generalize wd.alloc (.cells #[.slice p3 d3.length c3, .int .i64 room] 35) = we at *
    generalize wd.heap.size = DB at *
    obtain ⟨f0, f1, f2, f3, u0, u1, rz0, rz1, rz2, rz3, fl0, fl2, ff0, ff2⟩ := HF.out.all
    have e0 := HD.out.cell 0 _ rfl
    have e1 := HD.out.cell 1 _ rfl
    go_upto_region 22 with fail
    replace HRd := Lib.hid (HRd.out.put (kput2 we w.heap.size (.slice p3 d3.length c3) (.int .i64 room)) (by simp))
    replace HF := Lib.hid (HF.out.setD (.slice p3 d3.length c3) room)
    clear f0 f1 f2 f3 u0 u1 rz0 rz1 rz2 rz3 fl0 fl2 ff0 ff2
    clear e0 e1
    generalize (we.setCell ⟨w.heap.size, 0, none⟩ (.slice p3 d3.length c3)).setCell ⟨w.heap.size, 1, none⟩ (.int .i64 room) = wf at *
    obtain ⟨f0, f1, f2, f3, u0, u1, rz0, rz1, rz2, rz3, fl0, fl2, ff0, ff2⟩ := HF.out.all
    go_wp2_with fail
    refine bodyPost_ret (v := .tuple #[.agg #[.slice p3 d3.length c3, .int .i64 room, .int .i64 (calls + 1), .int .i64 fail], .int .i64 e3]) ?_ rfl ⟨p3, c3, rfl, (HRd.out.put (kput4 wf (w.heap.size + 1 + 1) _ _ _ _) (by simp)).drop, HF.out.fin _ _ _ _⟩
    rw [rcell_tmp rfl]
    go_simp
end
end Go.Proofs.YtijbhmledmnifaaGreatDoor
