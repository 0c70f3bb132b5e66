/-
 Contracts of the reference for layer 6: Remove. Printed by wip/genref6.py.
-/
import Derived.Test.YtijbhmledmnifaaGreatDoorG15
import Derived.Test.YtijbhmledmnifaaGreatDoorG23
import Derived.Deep.RegionHeld3
import Derived.StillTailTactics

set_option linter.unusedSimpArgs false
set_option linter.unusedVariables false
set_option maxRecDepth 100000
set_option maxHeartbeats 8000000
namespace Go.Proofs.YtijbhmledmnifaaGreatDoor
open Go Go.RowKit
section
variable {S : Nat -> Prop} {w : World} {p : Option Addr} {c : Nat} {d : Nds} {room calls fail : Int}
theorem r6remove_any (H : R6 S w p c d calls) (at' mask : Int) (s : ByteArray) (folder : Bool) (hss : s.size <= 4294967280) :
  Calls Tryz.prog 62 #[fV p c d.length room calls fail, .agg #[.int .i64 at', .int .i64 mask], .string s, .bool folder] w (F6To S w (orFail calls fail d (remR d at' s folder)) room (calls + 1) fail) := by
 have HH := Lib.hid H
 have HCa := Lib.hid (r6call_any p c d.length room calls fail H.c0 H.c1)
 unfold fV at *
 obtain ⟨X, hX⟩ : ∃ X, orFail calls fail d (remR d at' s folder) = X := ⟨_, rfl⟩
 rw [hX]
 replace hX := Lib.hid hX
 clear H
 go_enter Tryz.func62, Tryz.ntmps62
 go_upto_region 1 with fail
 have HF := Lib.hid (F6.new w (.slice p d.length c) room calls fail #[.int .i64 at', .int .i64 mask] #[.slice none 0 0, .int .i64 0, .int .i64 0, .int .i64 0] 37 46 37)
 generalize ((w.alloc (.cells #[.slice p d.length c, .int .i64 room, .int .i64 calls, .int .i64 fail] 37)).alloc (.cells #[.int .i64 at', .int .i64 mask] 46)).alloc (.cells #[.slice none 0 0, .int .i64 0, .int .i64 0, .int .i64 0] 37) = w0 at *
 obtain ⟨f0, f1, f2, f3, u0, u1, rz0, rz1, rz2, rz3, fl0, fl2, ff0, ff2⟩ := HF.out.all
 by_cases hcf : calls = fail
 case pos =>
  have hx : X = (d, 21) := hX.out.symm.trans (by unfold orFail callE; rw [if_pos hcf, if_pos (by decide)])
  subst hx
  rw [if_pos hcf] at HCa
  clear hX hcf
  go_upto_region 2 with (go_at_call 105; go_loud (refine (HCa.out _).mono ?_); rintro e w1 ⟨rfl, hkn⟩; (clear f0 f1 f2 f3 u0 u1 rz0 rz1 rz2 rz3 fl0 fl2 ff0 ff2; replace HF := Lib.hid (HF.out.on hkn); obtain ⟨f0, f1, f2, f3, u0, u1, rz0, rz1, rz2, rz3, fl0, fl2, ff0, ff2⟩ := HF.out.all))
  replace HF := Lib.hid (HF.out.setF (.slice p d.length c) room (calls + 1) fail)
  clear f0 f1 f2 f3 u0 u1 rz0 rz1 rz2 rz3 fl0 fl2 ff0 ff2
  clear hkn
  generalize (((w1.setCell ⟨w.heap.size, 0, none⟩ (.slice p d.length c)).setCell ⟨w.heap.size, 1, none⟩ (.int .i64 room)).setCell ⟨w.heap.size, 2, none⟩ (.int .i64 (calls + 1))).setCell ⟨w.heap.size, 3, none⟩ (.int .i64 fail) = w2 at *
  obtain ⟨f0, f1, f2, f3, u0, u1, rz0, rz1, rz2, rz3, fl0, fl2, ff0, ff2⟩ := HF.out.all
  go_wp2_with fail
  refine bodyPost_ret (v := .tuple #[.agg #[.slice p d.length c, .int .i64 room, .int .i64 (calls + 1), .int .i64 fail], .int .i64 21]) ?_ rfl ⟨p, c, rfl, HH.out.rows.keepN (HF.out.fin _ _ _ _), HF.out.fin _ _ _ _⟩
  rw [rcell_tmp rfl]
  go_simp
 case neg =>
 have hX2 : X = remR d at' s folder := hX.out.symm.trans (by unfold orFail callE; rw [if_neg hcf, if_neg (by decide)])
 rw [if_neg hcf] at HCa
 replace hX := Lib.hid hX2
 clear hcf hX2
 go_upto_region 2 with (go_at_call 105; go_loud (refine (HCa.out _).mono ?_); rintro e w1 ⟨rfl, hkn⟩; (clear f0 f1 f2 f3 u0 u1 rz0 rz1 rz2 rz3 fl0 fl2 ff0 ff2; replace HF := Lib.hid (HF.out.on hkn); obtain ⟨f0, f1, f2, f3, u0, u1, rz0, rz1, rz2, rz3, fl0, fl2, ff0, ff2⟩ := HF.out.all))
 replace HF := Lib.hid (HF.out.setF (.slice p d.length c) room (calls + 1) fail)
 clear f0 f1 f2 f3 u0 u1 rz0 rz1 rz2 rz3 fl0 fl2 ff0 ff2
 clear hkn HCa
 generalize (((w1.setCell ⟨w.heap.size, 0, none⟩ (.slice p d.length c)).setCell ⟨w.heap.size, 1, none⟩ (.int .i64 room)).setCell ⟨w.heap.size, 2, none⟩ (.int .i64 (calls + 1))).setCell ⟨w.heap.size, 3, none⟩ (.int .i64 fail) = w2 at *
 have HR := Lib.hid (HH.out.rows.first (L := [w.heap.size, w.heap.size + 1, w.heap.size + 1 + 1]) HF.out.k (by simp; omega))
 have HTh : Hid (∀ wx, Keeps NoB w2 wx -> Calls Tryz.prog 56 #[.agg #[.slice p d.length c, .int .i64 room], .int .i64 at', .string s, .bool false] wx fun e w' => e = .returned (.tuple #[.agg #[.int .i64 (thrR d at' s false).1.node, .int .i64 (thrR d at' s false).1.dir, .string (thrR d at' s false).1.name], .int .i64 (thrR d at' s false).2]) ∧ Keeps NoB wx w') := Lib.hid fun wx k => by
  have := r5therer_any (room := room) (HR.out.keepN k) HH.out.inv HH.out.small (nh_up HH.out.nh HH.out.inv HH.out.clean) at' s false hss
  unfold plcV refV at this
  exact this
 have hth := fun he : (thrR d at' s false).2 = 0 => thr_has (d := d) HH.out.inv (at' := at') (s := s) (follow := false) he
 have hts := thrR_size d at' s false
 obtain ⟨YPB, hY⟩ : ∃ Y, thrR d at' s false = Y := ⟨_, rfl⟩
 rw [hY] at HTh hth hts
 have HYPB := Lib.hid hY
 clear hY
 obtain ⟨⟨tn, td, tm⟩, te⟩ := YPB
 simp only at HTh hth hts
 obtain ⟨f0, f1, f2, f3, u0, u1, rz0, rz1, rz2, rz3, fl0, fl2, ff0, ff2⟩ := HF.out.all
 go_upto_region 5 with (go_at_call 56; go_loud (refine (HTh.out _ (Keeps.refl _ _)).mono ?_); rintro e w3 ⟨rfl, hkn⟩; (clear f0 f1 f2 f3 u0 u1 rz0 rz1 rz2 rz3 fl0 fl2 ff0 ff2; replace HF := Lib.hid (HF.out.on hkn); obtain ⟨f0, f1, f2, f3, u0, u1, rz0, rz1, rz2, rz3, fl0, fl2, ff0, ff2⟩ := HF.out.all))
 have hpbPB : w.heap.size + 3 <= w3.heap.size := by omega
 have HPB := Lib.hid (Bk.new (Keeps.refl NoB (w3.alloc (.cells #[.int .i64 tn, .int .i64 td, .string tm] 129))))
 replace HF := Lib.hid (HF.out.on ((Keeps.refl NoB w3).alloc (.cells #[.int .i64 tn, .int .i64 td, .string tm] 129)))
 replace HR := Lib.hid ((HR.out.keepN hkn).keepN ((Keeps.refl NoB w3).alloc (.cells #[.int .i64 tn, .int .i64 td, .string tm] 129)))
 clear HTh
 clear f0 f1 f2 f3 u0 u1 rz0 rz1 rz2 rz3 fl0 fl2 ff0 ff2
 clear hkn
 generalize w3.alloc (.cells #[.int .i64 tn, .int .i64 td, .string tm] 129) = w4 at *
 generalize w3.heap.size = PB at *
 obtain ⟨f0, f1, f2, f3, u0, u1, rz0, rz1, rz2, rz3, fl0, fl2, ff0, ff2⟩ := HF.out.all
 by_cases hye : te = 0
 case neg =>
  have hb : (te != 0) = true := by simpa using hye
  obtain rfl : X = (d, te) := hX.out.trans (rem_err HYPB.out hye)
  clear hX hye HYPB
  go_wp2_with fail
  refine bodyPost_ret (v := .tuple #[.agg #[.slice p d.length c, .int .i64 room, .int .i64 (calls + 1), .int .i64 fail], .int .i64 te]) ?_ rfl ⟨p, c, rfl, HH.out.rows.keepN (HF.out.fin _ _ _ _), HF.out.fin _ _ _ _⟩
  rw [rcell_tmp rfl]
  go_simp
 case pos =>
  subst hye
  obtain ⟨k, hkn2, hk⟩ := has_nat (hth rfl)
  have hkn2 : tn = (k : Int) := hkn2
  subst hkn2
  obtain ⟨gr, off, q, mq, rfl, hSg, hrow⟩ := HR.out.rowAt hk
  have k0 := hrow.c0
  have hcap := HR.out.cap
  have hmax := HR.out.max
  unfold maxLen at hmax
  have hkz : (k : Int) < (d.length : Int) := by omega
  clear hrow hth
  clear hts
  have p0 := HPB.out.cell 0 _ rfl
  have p1 := HPB.out.cell 1 _ rfl
  have p2 := HPB.out.cell 2 _ rfl
  obtain ⟨kd, hkd⟩ : ∃ kd, (nd d (k : Int)).kind = kd := ⟨_, rfl⟩
  rw [hkd] at k0
  have hC : (folder = true ∧ ¬ kd = 2) ∨ (folder = false ∧ kd = 2) ∨ (folder = true ∧ kd = 2) ∨ (folder = false ∧ ¬ kd = 2) := by cases folder <;> by_cases e : kd = 2 <;> simp [e]
  rcases hC with ⟨rfl, h2⟩ | ⟨rfl, h2⟩ | ⟨rfl, h2⟩ | ⟨rfl, h2⟩
  ·have hb : (kd != 2) = true := by simpa using h2
   obtain rfl : X = (d, 14) := hX.out.trans (rem_14 HYPB.out rfl (by show ¬ (nd d (k : Int)).kind = 2; rw [hkd]; exact h2))
   clear hX HYPB h2 hkd
   go_wp2_with fail
   refine bodyPost_ret (v := .tuple #[.agg #[.slice (some ⟨gr, off, none⟩) d.length c, .int .i64 room, .int .i64 (calls + 1), .int .i64 fail], .int .i64 14]) ?_ rfl ⟨(some ⟨gr, off, none⟩), c, rfl, HH.out.rows.keepN (HF.out.fin _ _ _ _), HF.out.fin _ _ _ _⟩
   rw [rcell_tmp rfl]
   go_simp
  ·subst h2
   obtain rfl : X = (d, 15) := hX.out.trans (rem_15 HYPB.out rfl hkd)
   clear hX HYPB hkd
   go_wp2_with fail
   refine bodyPost_ret (v := .tuple #[.agg #[.slice (some ⟨gr, off, none⟩) d.length c, .int .i64 room, .int .i64 (calls + 1), .int .i64 fail], .int .i64 15]) ?_ rfl ⟨(some ⟨gr, off, none⟩), c, rfl, HH.out.rows.keepN (HF.out.fin _ _ _ _), HF.out.fin _ _ _ _⟩
   rw [rcell_tmp rfl]
   go_simp
  ·have HK2 : Hid ((true = true ∧ (nd d (k : Int)).kind = 2) ∨ (true = false ∧ ¬ (nd d (k : Int)).kind = 2)) := Lib.hid (.inl ⟨rfl, hkd.trans h2⟩)
   have hb : (kd != 2) = false := by simpa using h2
   clear hkd h2
   by_cases hnm : tm.size = 0
   case pos =>
    have he : tm.toList.isEmpty = true := by rw [emp_dec]; simp [hnm]
    have hte : tm = ⟨#[]⟩ := ByteArray.ext (Array.eq_empty_of_size_eq_zero hnm)
    obtain rfl : X = (d, 23) := hX.out.trans (rem_23 HYPB.out HK2.out hte)
    clear hX HYPB hnm hte HK2
    go_wp2_with fail
    refine bodyPost_ret (v := .tuple #[.agg #[.slice (some ⟨gr, off, none⟩) d.length c, .int .i64 room, .int .i64 (calls + 1), .int .i64 fail], .int .i64 23]) ?_ rfl ⟨(some ⟨gr, off, none⟩), c, rfl, HH.out.rows.keepN (HF.out.fin _ _ _ _), HF.out.fin _ _ _ _⟩
    rw [rcell_tmp rfl]
    go_simp
   case neg =>
   have he : tm.toList.isEmpty = false := by rw [emp_dec]; simp [hnm]
   have hte : ¬ tm = ⟨#[]⟩ := fun e => hnm (by rw [e]; rfl)
   have hx2 : X = if mayE d td 128 ≠ 0 then (d, mayE d td 128) else (leaveTo d td tm, leaveErr d td tm) := hX.out.trans (rem_rest HYPB.out HK2.out hte)
   replace hX := Lib.hid hx2
   clear hx2 HYPB hnm hte HK2
   have HMy : Hid (∀ wx, Keeps NoB w4 wx -> Calls Tryz.prog 130 #[.agg #[.slice (some ⟨gr, off, none⟩) d.length c, .int .i64 room, .int .i64 (calls + 1), .int .i64 fail], .int .i64 td, .int .i64 7] wx fun e w' => e = .returned (.int .i64 (mayE d td 128)) ∧ Keeps NoB wx w') := Lib.hid fun wx k => r6may_any (HR.out.keepN k) HH.out.inv td 7 (by decide)
   obtain ⟨me, hme⟩ : ∃ me, mayE d td 128 = me := ⟨_, rfl⟩
   rw [hme] at HMy hX
   clear hme
   go_upto_region 15 with (go_at_call 130; go_loud (refine (HMy.out _ (Keeps.refl _ _)).mono ?_); rintro e w5 ⟨rfl, hkn⟩; (clear p0 p1 p2); replace HPB := Lib.hid (HPB.out.on hkn); have p0 := HPB.out.cell 0 _ rfl; have p1 := HPB.out.cell 1 _ rfl; have p2 := HPB.out.cell 2 _ rfl; (clear f0 f1 f2 f3 u0 u1 rz0 rz1 rz2 rz3 fl0 fl2 ff0 ff2; replace HF := Lib.hid (HF.out.on hkn); obtain ⟨f0, f1, f2, f3, u0, u1, rz0, rz1, rz2, rz3, fl0, fl2, ff0, ff2⟩ := HF.out.all))
   replace HR := Lib.hid (HR.out.keepN hkn)
   clear hkn HMy k0
   by_cases hm0 : me = 0
   case neg =>
    have hb : (me != 0) = true := by simpa using hm0
    obtain rfl : X = (d, me) := hX.out.trans (if_pos hm0)
    clear hX hm0
    go_wp2_with fail
    refine bodyPost_ret (v := .tuple #[.agg #[.slice (some ⟨gr, off, none⟩) d.length c, .int .i64 room, .int .i64 (calls + 1), .int .i64 fail], .int .i64 me]) ?_ rfl ⟨(some ⟨gr, off, none⟩), c, rfl, HH.out.rows.keepN (HF.out.fin _ _ _ _), HF.out.fin _ _ _ _⟩
    rw [rcell_tmp rfl]
    go_simp
   case pos =>
   subst hm0
   have hx2 := hX.out.trans (if_neg (by simp))
   clear f0 f1 f2 f3 u0 u1 rz0 rz1 rz2 rz3 fl0 fl2 ff0 ff2
   clear p0 p1 p2
   have HE := Lib.hid (fun (wx : World) (k : Keeps NoB w5 wx) => r4leave_any (room := room) (HR.out.keepN k) (NI.new HH.out.all (HF.out.k.trans k) (by have := HF.out.b2.lt; have := k.size; simp; omega)) HH.out.inv HH.out.clean HH.out.small td tm)
   replace hx2 : X = (leaveTo d td tm, leaveErr d td tm) := hx2
   clear hX
   unfold RTo refV at HE
   generalize leaveTo d td tm = d3 at *
   generalize leaveErr d td tm = e3 at *
   subst hx2
   obtain ⟨f0, f1, f2, f3, u0, u1, rz0, rz1, rz2, rz3, fl0, fl2, ff0, ff2⟩ := HF.out.all
   have p0 := HPB.out.cell 0 _ rfl
   have p1 := HPB.out.cell 1 _ rfl
   have p2 := HPB.out.cell 2 _ rfl
   go_upto_region 18 with (go_at_call 131; go_loud (refine (HE.out _ (Keeps.refl _ _)).mono ?_); rintro e wd ⟨p3, c3, rfl, hr, hkn⟩; (clear f0 f1 f2 f3 u0 u1 rz0 rz1 rz2 rz3 fl0 fl2 ff0 ff2; replace HF := Lib.hid (HF.out.on hkn); obtain ⟨f0, f1, f2, f3, u0, u1, rz0, rz1, rz2, rz3, fl0, fl2, ff0, ff2⟩ := HF.out.all))
   have HD := Lib.hid (Bk.new (Keeps.refl NoB (wd.alloc (.cells #[.slice p3 d3.length c3, .int .i64 room] 35))))
   replace HF := Lib.hid (HF.out.on ((Keeps.refl NoB wd).alloc (.cells #[.slice p3 d3.length c3, .int .i64 room] 35)))
   have HRd := Lib.hid (hr.keepN ((Keeps.refl NoB wd).alloc (.cells #[.slice p3 d3.length c3, .int .i64 room] 35)))
   clear f0 f1 f2 f3 u0 u1 rz0 rz1 rz2 rz3 fl0 fl2 ff0 ff2
   clear hkn hr HE
   generalize wd.alloc (.cells #[.slice p3 d3.length c3, .int .i64 room] 35) = we at *
   generalize wd.heap.size = DB at *
   obtain ⟨f0, f1, f2, f3, u0, u1, rz0, rz1, rz2, rz3, fl0, fl2, ff0, ff2⟩ := HF.out.all
   have e0 := HD.out.cell 0 _ rfl
   have e1 := HD.out.cell 1 _ rfl
   go_upto_region 19 with fail
   replace HRd := Lib.hid (HRd.out.put (kput2 we w.heap.size (.slice p3 d3.length c3) (.int .i64 room)) (by simp))
   replace HF := Lib.hid (HF.out.setD (.slice p3 d3.length c3) room)
   clear f0 f1 f2 f3 u0 u1 rz0 rz1 rz2 rz3 fl0 fl2 ff0 ff2
   clear e0 e1
   generalize (we.setCell ⟨w.heap.size, 0, none⟩ (.slice p3 d3.length c3)).setCell ⟨w.heap.size, 1, none⟩ (.int .i64 room) = wf at *
   obtain ⟨f0, f1, f2, f3, u0, u1, rz0, rz1, rz2, rz3, fl0, fl2, ff0, ff2⟩ := HF.out.all
   go_wp2_with fail
   refine bodyPost_ret (v := .tuple #[.agg #[.slice p3 d3.length c3, .int .i64 room, .int .i64 (calls + 1), .int .i64 fail], .int .i64 e3]) ?_ rfl ⟨p3, c3, rfl, (HRd.out.put (kput4 wf (w.heap.size + 1 + 1) _ _ _ _) (by simp)).drop, HF.out.fin _ _ _ _⟩
   rw [rcell_tmp rfl]
   go_simp
  ·have HK2 : Hid ((false = true ∧ (nd d (k : Int)).kind = 2) ∨ (false = false ∧ ¬ (nd d (k : Int)).kind = 2)) := Lib.hid (.inr ⟨rfl, by rw [hkd]; exact h2⟩)
   have hb : (kd == 2) = false := by simpa using h2
   clear hkd h2
   by_cases hnm : tm.size = 0
   case pos =>
    have he : tm.toList.isEmpty = true := by rw [emp_dec]; simp [hnm]
    have hte : tm = ⟨#[]⟩ := ByteArray.ext (Array.eq_empty_of_size_eq_zero hnm)
    obtain rfl : X = (d, 23) := hX.out.trans (rem_23 HYPB.out HK2.out hte)
    clear hX HYPB hnm hte HK2
    go_wp2_with fail
    refine bodyPost_ret (v := .tuple #[.agg #[.slice (some ⟨gr, off, none⟩) d.length c, .int .i64 room, .int .i64 (calls + 1), .int .i64 fail], .int .i64 23]) ?_ rfl ⟨(some ⟨gr, off, none⟩), c, rfl, HH.out.rows.keepN (HF.out.fin _ _ _ _), HF.out.fin _ _ _ _⟩
    rw [rcell_tmp rfl]
    go_simp
   case neg =>
   have he : tm.toList.isEmpty = false := by rw [emp_dec]; simp [hnm]
   have hte : ¬ tm = ⟨#[]⟩ := fun e => hnm (by rw [e]; rfl)
   have hx2 : X = if mayE d td 128 ≠ 0 then (d, mayE d td 128) else (leaveTo d td tm, leaveErr d td tm) := hX.out.trans (rem_rest HYPB.out HK2.out hte)
   replace hX := Lib.hid hx2
   clear hx2 HYPB hnm hte HK2
   have HMy : Hid (∀ wx, Keeps NoB w4 wx -> Calls Tryz.prog 130 #[.agg #[.slice (some ⟨gr, off, none⟩) d.length c, .int .i64 room, .int .i64 (calls + 1), .int .i64 fail], .int .i64 td, .int .i64 7] wx fun e w' => e = .returned (.int .i64 (mayE d td 128)) ∧ Keeps NoB wx w') := Lib.hid fun wx k => r6may_any (HR.out.keepN k) HH.out.inv td 7 (by decide)
   obtain ⟨me, hme⟩ : ∃ me, mayE d td 128 = me := ⟨_, rfl⟩
   rw [hme] at HMy hX
   clear hme
   go_upto_region 15 with (go_at_call 130; go_loud (refine (HMy.out _ (Keeps.refl _ _)).mono ?_); rintro e w5 ⟨rfl, hkn⟩; (clear p0 p1 p2); replace HPB := Lib.hid (HPB.out.on hkn); have p0 := HPB.out.cell 0 _ rfl; have p1 := HPB.out.cell 1 _ rfl; have p2 := HPB.out.cell 2 _ rfl; (clear f0 f1 f2 f3 u0 u1 rz0 rz1 rz2 rz3 fl0 fl2 ff0 ff2; replace HF := Lib.hid (HF.out.on hkn); obtain ⟨f0, f1, f2, f3, u0, u1, rz0, rz1, rz2, rz3, fl0, fl2, ff0, ff2⟩ := HF.out.all))
   replace HR := Lib.hid (HR.out.keepN hkn)
   clear hkn HMy k0
   by_cases hm0 : me = 0
   case neg =>
    have hb : (me != 0) = true := by simpa using hm0
    obtain rfl : X = (d, me) := hX.out.trans (if_pos hm0)
    clear hX hm0
    go_wp2_with fail
    refine bodyPost_ret (v := .tuple #[.agg #[.slice (some ⟨gr, off, none⟩) d.length c, .int .i64 room, .int .i64 (calls + 1), .int .i64 fail], .int .i64 me]) ?_ rfl ⟨(some ⟨gr, off, none⟩), c, rfl, HH.out.rows.keepN (HF.out.fin _ _ _ _), HF.out.fin _ _ _ _⟩
    rw [rcell_tmp rfl]
    go_simp
   case pos =>
   subst hm0
   have hx2 := hX.out.trans (if_neg (by simp))
   clear f0 f1 f2 f3 u0 u1 rz0 rz1 rz2 rz3 fl0 fl2 ff0 ff2
   clear p0 p1 p2
   have HE := Lib.hid (fun (wx : World) (k : Keeps NoB w5 wx) => r4leave_any (room := room) (HR.out.keepN k) (NI.new HH.out.all (HF.out.k.trans k) (by have := HF.out.b2.lt; have := k.size; simp; omega)) HH.out.inv HH.out.clean HH.out.small td tm)
   replace hx2 : X = (leaveTo d td tm, leaveErr d td tm) := hx2
   clear hX
   unfold RTo refV at HE
   generalize leaveTo d td tm = d3 at *
   generalize leaveErr d td tm = e3 at *
   subst hx2
   obtain ⟨f0, f1, f2, f3, u0, u1, rz0, rz1, rz2, rz3, fl0, fl2, ff0, ff2⟩ := HF.out.all
   have p0 := HPB.out.cell 0 _ rfl
   have p1 := HPB.out.cell 1 _ rfl
   have p2 := HPB.out.cell 2 _ rfl
   go_upto_region 18 with (go_at_call 131; go_loud (refine (HE.out _ (Keeps.refl _ _)).mono ?_); rintro e wd ⟨p3, c3, rfl, hr, hkn⟩; (clear f0 f1 f2 f3 u0 u1 rz0 rz1 rz2 rz3 fl0 fl2 ff0 ff2; replace HF := Lib.hid (HF.out.on hkn); obtain ⟨f0, f1, f2, f3, u0, u1, rz0, rz1, rz2, rz3, fl0, fl2, ff0, ff2⟩ := HF.out.all))
   have HD := Lib.hid (Bk.new (Keeps.refl NoB (wd.alloc (.cells #[.slice p3 d3.length c3, .int .i64 room] 35))))
   replace HF := Lib.hid (HF.out.on ((Keeps.refl NoB wd).alloc (.cells #[.slice p3 d3.length c3, .int .i64 room] 35)))
   have HRd := Lib.hid (hr.keepN ((Keeps.refl NoB wd).alloc (.cells #[.slice p3 d3.length c3, .int .i64 room] 35)))
   clear f0 f1 f2 f3 u0 u1 rz0 rz1 rz2 rz3 fl0 fl2 ff0 ff2
   clear hkn hr HE
   generalize wd.alloc (.cells #[.slice p3 d3.length c3, .int .i64 room] 35) = we at *
   generalize wd.heap.size = DB at *
   obtain ⟨f0, f1, f2, f3, u0, u1, rz0, rz1, rz2, rz3, fl0, fl2, ff0, ff2⟩ := HF.out.all
   have e0 := HD.out.cell 0 _ rfl
   have e1 := HD.out.cell 1 _ rfl
   go_upto_region 19 with fail
   replace HRd := Lib.hid (HRd.out.put (kput2 we w.heap.size (.slice p3 d3.length c3) (.int .i64 room)) (by simp))
   replace HF := Lib.hid (HF.out.setD (.slice p3 d3.length c3) room)
   clear f0 f1 f2 f3 u0 u1 rz0 rz1 rz2 rz3 fl0 fl2 ff0 ff2
   clear e0 e1
   generalize (we.setCell ⟨w.heap.size, 0, none⟩ (.slice p3 d3.length c3)).setCell ⟨w.heap.size, 1, none⟩ (.int .i64 room) = wf at *
   obtain ⟨f0, f1, f2, f3, u0, u1, rz0, rz1, rz2, rz3, fl0, fl2, ff0, ff2⟩ := HF.out.all
   go_wp2_with fail
   refine bodyPost_ret (v := .tuple #[.agg #[.slice p3 d3.length c3, .int .i64 room, .int .i64 (calls + 1), .int .i64 fail], .int .i64 e3]) ?_ rfl ⟨p3, c3, rfl, (HRd.out.put (kput4 wf (w.heap.size + 1 + 1) _ _ _ _) (by simp)).drop, HF.out.fin _ _ _ _⟩
   rw [rcell_tmp rfl]
   go_simp
end
end Go.Proofs.YtijbhmledmnifaaGreatDoor
