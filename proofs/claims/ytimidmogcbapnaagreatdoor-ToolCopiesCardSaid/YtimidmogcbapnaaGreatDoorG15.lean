/-
  Layer 6: contracts of files: Open. (Printed by genfiles.py.)
-/
import Derived.Test.YtimidmogcbapnaaGreatDoorG14

set_option linter.unusedSimpArgs false
set_option linter.unusedVariables false
set_option maxRecDepth 100000
set_option maxHeartbeats 4000000
namespace Go.Proofs.YtimidmogcbapnaaGreatDoor
open Go Go.RowKit
section
variable {N : Nat -> Prop} {w w' : World} {F a : Nat} {d d' : Nds} {room calls fail : Int}
theorem open_any (h : FSt N w F a d room calls fail) (hc0 : 0 <= calls) (hc1 : calls <= 4611686018427387904) (hbm : mass d + 3 <= 2147483648) (at' mask : Int) (s : ByteArray) (flags m : Int) (hsz : s.size <= 4294967280) :
 Calls Tryz.prog 7 #[.pointer (some ⟨F, 0, none⟩), .agg #[.int .i64 at', .int .i64 mask], .string s, .int .i64 flags, .int .i64 m] w
  (FTo N w F a (openF calls fail d room at' mask s flags m).1 room (openN calls flags) fail (.tuple #[.int .i64 (openF calls fail d room at' mask s flags m).2.1, .int .i64 (openF calls fail d room at' mask s flags m).2.2])) := by
 obtain ⟨O, hO⟩ : ∃ O, openF calls fail d room at' mask s flags m = O := ⟨_, rfl⟩
 obtain ⟨ce, hce⟩ : ∃ ce, callE calls fail = ce := ⟨_, rfl⟩
 have HOF := Lib.hid (show O = if openC flags = true ∧ ce ≠ 0 then (d, 0, ce) else openR d room at' mask s flags m by rw [<- hO, <- hce]; rfl)
 rw [hO]
 have kz0 : Keeps NoB w (w.alloc (.cells #[.int .i64 at', .int .i64 mask] 28)) := (Keeps.refl _ _).alloc _
 obtain ⟨N1, hsub, hnew, FS⟩ := h.wider kz0
 have HW := Lib.hid (Bx.new (Keeps.refl NoB (w.alloc (.cells #[.int .i64 at', .int .i64 mask] 28))))
 have HNW := Lib.hid (hnew w.heap.size (Nat.le_refl _) (by simp))
 have HK := Lib.hid (kz0.of_none (F := fun g => ¬ N g))
 have HSub := Lib.hid hsub
 have HC := Lib.hid (call_any FS hc0 hc1)
 rw [hce] at HC
 have HFS := Lib.hid FS
 have g12 := flg_one flags 12
 have g4 := flg_one flags 4
 have g16 := flg_one flags 16
 have hal : aloneF flags = (flg flags 4 && flg flags 16) := rfl
 obtain ⟨al, hal2⟩ : ∃ al, aloneF flags = al := ⟨_, rfl⟩
 obtain ⟨x12, hx12⟩ : ∃ x12, flg flags 12 = x12 := ⟨_, rfl⟩
 obtain ⟨x4, hx4⟩ : ∃ x4, flg flags 4 = x4 := ⟨_, rfl⟩
 obtain ⟨x16, hx16⟩ : ∃ x16, flg flags 16 = x16 := ⟨_, rfl⟩
 have hoc : openC flags = x12 := hx12
 unfold openN
 rw [hoc] at HOF ⊢
 rw [hx12] at g12
 rw [hx4] at g4
 rw [hx16] at g16
 rw [hx4, hx16, hal2] at hal
 have HOR := Lib.hid (show openR d room at' mask s flags m = if (fndR d at' s (!al)).2 ≠ 0 then (d, 0, (fndR d at' s (!al)).2) else if (fndR d at' s (!al)).1.node = 0 then freshR d room mask (fndR d at' s (!al)).1 s flags m else if al = true then (d, 0, 13) else openedR d (fndR d at' s (!al)).1.node flags by unfold openR; rw [hal2])
 have HSZ := Lib.hid (fndR_size d at' s (!al))
 obtain ⟨cc, hcc⟩ : ∃ cc, (if x12 = true then calls + 1 else calls : Int) = cc := ⟨_, rfl⟩
 rw [hcc]
 clear hsub hnew h kz0 FS hce hO hx12 hx4 hx16 hoc hal2 hc0 hc1
 go_enter Tryz.func7, Tryz.ntmps7
 go_upto_region 1 with fail
 generalize w.alloc (.cells #[.int .i64 at', .int .i64 mask] 28) = wc at *
 generalize w.heap.size = W at *
 cases x12 with
 | true =>
   rw [if_pos rfl] at hcc
   subst hcc
   go_upto_region 3 with (go_at_call 20; go_loud (refine HC.out.mono ?_); rintro e wc ⟨rfl, FS, k1⟩; replace HW := Lib.hid (HW.out.keep k1 (fun hh => hh HNW.out)); replace HK := Lib.hid (HK.out.trans (k1.mono (fun g _ hg hN => hg (HSub.out g hN)))))
   replace HFS := Lib.hid FS
   clear HC k1 FS
   by_cases hz : ce ≠ 0
   ·have hb : (ce != 0) = true := by simpa using hz
    rw [if_pos ⟨by simp, hz⟩] at HOF
    clear hz
    go_wp2_with fail
    go_ret2
    exact ⟨ret_two (by rw [HOF.out]) (by rw [HOF.out]), (by rw [HOF.out]; exact HFS.out.less HSub.out), HK.out⟩
   rw [if_neg (fun x => hz x.2)] at HOF
   obtain rfl : ce = 0 := Classical.not_not.1 hz
   clear hz
   rw [HOR.out] at HOF
   go_upto_region 5 with fail
   go_cut [13] from 13 to 31 (fun x wx => x = .bool al ∧ wx = wc)
   case first =>
    cases x4 <;> cases x16 <;> (obtain rfl := hal; go_wp2_with fail; go_meet; exact ⟨rfl, rfl⟩)
   case rest =>
    obtain ⟨rfl, rfl⟩ := hcut
    clear g4 g16 g12 hal HOR
    obtain ⟨X, hX⟩ : ∃ X, fndR d at' s (!al) = X := ⟨_, rfl⟩
    have HFi := Lib.hid (fun (w1 : World) (hk : Keeps NoB wc w1) => (HFS.out.on hk).fnd at' s (!al) hsz)
    rw [hX] at HFi HOF HSZ
    obtain ⟨⟨pn, pd, pm⟩, pe⟩ := X
    unfold plcV at HFi
    simp only at HFi HOF
    have HXp := Lib.hid hX
    clear hX
    have f0 := HFS.out.c0
    have b0 := HW.out.cell 0 _ rfl
    go_upto_region 6 with fail
    go_cut [14, 15] from 14 to 44 (fun x y wx => ∃ G : Nat, wc.heap.size <= G ∧ x = .pointer (some ⟨G, 0, none⟩) ∧ y = .int .i64 pe ∧ Bx wx G [.int .i64 pn, .int .i64 pd, .string pm] ∧ Keeps NoB wc wx)
    case first =>
     have kr := Keeps.refl NoB wc
     have krd := kr.drew
     have d0 := (HFS.out.on krd).c0
     have d1 := (HW.out.on krd).cell 0 _ rfl
     go_region_held3 (fun wz => wz.cell? ⟨F, 0, none⟩ = some (.pointer (some ⟨a, 0, none⟩)) ∧ wz.cell? ⟨W, 0, none⟩ = some (.int .i64 at') ∧ Keeps NoB wc wz) (refine ⟨?_, ?_, ?_⟩ <;> first | with_reducible assumption | (with_reducible refine (HFS.out.on ?_).c0; (repeat (first | with_reducible assumption | (with_reducible exact Keeps.refl _ _) | (with_reducible refine Keeps.drew ?_) | (with_reducible refine Keeps.drewN ?_ _) | (with_reducible refine Keeps.alloc ?_ _) | (with_reducible refine Keeps.setCell ?_ (by first | exact Or.inl rfl | exact Or.inr (Nat.le_refl _) | exact Or.inr (by first | (simp; done) | (simp; omega))) _))); done) | (with_reducible refine (HW.out.on ?_).cell 0 _ rfl; (repeat (first | with_reducible assumption | (with_reducible exact Keeps.refl _ _) | (with_reducible refine Keeps.drew ?_) | (with_reducible refine Keeps.drewN ?_ _) | (with_reducible refine Keeps.alloc ?_ _) | (with_reducible refine Keeps.setCell ?_ (by first | exact Or.inl rfl | exact Or.inr (Nat.le_refl _) | exact Or.inr (by first | (simp; done) | (simp; omega))) _))); done) | ((repeat (first | with_reducible assumption | (with_reducible exact Keeps.refl _ _) | (with_reducible refine Keeps.drew ?_) | (with_reducible refine Keeps.drewN ?_ _) | (with_reducible refine Keeps.alloc ?_ _) | (with_reducible refine Keeps.setCell ?_ (by first | exact Or.inl rfl | exact Or.inr (Nat.le_refl _) | exact Or.inr (by first | (simp; done) | (simp; omega))) _))); done))
      (first | (go_at_call 21; refine (HFi.out _ (by (repeat (first | with_reducible assumption | (with_reducible exact Keeps.refl _ _) | (with_reducible refine Keeps.drew ?_) | (with_reducible refine Keeps.drewN ?_ _) | (with_reducible refine Keeps.alloc ?_ _) | (with_reducible refine Keeps.setCell ?_ (by first | exact Or.inl rfl | exact Or.inr (Nat.le_refl _) | exact Or.inr (by first | (simp; done) | (simp; omega))) _))))).mono ?_; rintro e w2 ⟨rfl, hk2⟩; have zky : Keeps NoB wc w2 := Keeps.trans (by (repeat (first | with_reducible assumption | (with_reducible exact Keeps.refl _ _) | (with_reducible refine Keeps.drew ?_) | (with_reducible refine Keeps.drewN ?_ _) | (with_reducible refine Keeps.alloc ?_ _) | (with_reducible refine Keeps.setCell ?_ (by first | exact Or.inl rfl | exact Or.inr (Nat.le_refl _) | exact Or.inr (by first | (simp; done) | (simp; omega))) _)))) hk2; have zs := zky.size; have z0 := (HFS.out.on zky).c0; have z1 := (HW.out.on zky).cell 0 _ rfl; (try (have yb := Bx.newD hk2; have y0 := yb.cell 0 _ rfl; have y1 := yb.cell 1 _ rfl; have y2 := yb.cell 2 _ rfl; have yf := yb.fz))))
     all_goals (go_wp2_with fail; go_meet; refine ⟨_, ?_, rfl, rfl, ?_, ?_⟩)
     all_goals first
      | exact Nat.le_refl _
      | exact zs
      | (with_reducible exact Bx.new (Keeps.refl NoB _))
      | (exact ((yb.put 0 _).put 1 _).put 2 _)
      | ((repeat (first | with_reducible assumption | (with_reducible exact Keeps.refl _ _) | (with_reducible refine Keeps.drew ?_) | (with_reducible refine Keeps.drewN ?_ _) | (with_reducible refine Keeps.alloc ?_ _) | (with_reducible refine Keeps.setCell ?_ (by first | exact Or.inl rfl | exact Or.inr (Nat.le_refl _) | exact Or.inr (by first | (simp; done) | (simp; omega))) _))); done)
      | skip
    case rest =>
     obtain ⟨HPB, hG, rfl, rfl, HP, hk1⟩ := hcut
     replace HP := Lib.hid HP
     clear f0 b0 HFi hG
     replace HFS := Lib.hid (HFS.out.on hk1)
     replace HK := Lib.hid (HK.out.trans hk1.of_none)
     replace HW := Lib.hid (HW.out.on hk1)
     by_cases hz : pe ≠ 0
     ·have hb : (pe != 0) = true := by simpa using hz
      rw [if_pos hz] at HOF
      clear hz
      go_wp2_with fail
      go_ret2
      exact ⟨ret_two (by rw [HOF.out]) (by rw [HOF.out]), (by rw [HOF.out]; exact HFS.out.less HSub.out), HK.out⟩
     rw [if_neg hz] at HOF
     obtain rfl : pe = 0 := Classical.not_not.1 hz
     clear hz
     have p0 := HP.out.cell 0 _ rfl
     have p1 := HP.out.cell 1 _ rfl
     have p2 := HP.out.cell 2 _ rfl
     have hp0 : (pn == 0) = decide (pn = 0) := by rw [Bool.eq_iff_iff]; simp
     by_cases hz : pn = 0
     ·rw [decide_eq_true hz] at hp0
      rw [if_pos hz] at HOF
      have b0 := HW.out.cell 0 _ rfl
      have b1 := HW.out.cell 1 _ rfl
      have HFr := Lib.hid (fresh_anyF HFS.out hbm at' mask ⟨pn, pd, pm⟩ HSZ.out s flags m hsz)
      rw [<- HOF.out] at HFr
      unfold plcV at HFr
      simp only at HFr
      clear hz
      go_wp2_with (go_at_call 22; go_loud (refine HFr.out.mono ?_); rintro e w5 ⟨rfl, FS5, k5⟩)
      go_ret2
      exact ⟨rfl, FS5.less HSub.out, HK.out.trans (k5.mono (fun g _ hg hN => hg (HSub.out g hN)))⟩
     rw [decide_eq_false hz] at hp0
     rw [if_neg hz] at HOF
     clear hz
     cases al with
     | true =>
       replace HOF := Lib.hid (show O = (d, 0, 13) by rw [HOF.out, if_pos rfl])
       go_wp2_with fail
       go_ret2
       exact ⟨ret_two (by rw [HOF.out]) (by rw [HOF.out]), (by rw [HOF.out]; exact HFS.out.less HSub.out), HK.out⟩
     | false =>
     rw [if_neg (by simp)] at HOF
     have HTh := Lib.hid (there_any HFS.out (by omega) pn flags)
     rw [<- HOF.out] at HTh
     go_wp2_with (go_at_call 23; go_loud (refine HTh.out.mono ?_); rintro e w5 ⟨rfl, FS5, k5⟩)
     go_ret2
     exact ⟨rfl, FS5.less HSub.out, HK.out.trans (k5.mono (fun g _ hg hN => hg (HSub.out g hN)))⟩
 | false =>
   rw [if_neg (by simp)] at hcc
   subst hcc
   rw [if_neg (fun x => by simp at x)] at HOF
   clear HC
   rw [HOR.out] at HOF
   go_upto_region 5 with fail
   go_cut [13] from 13 to 31 (fun x wx => x = .bool al ∧ wx = wc)
   case first =>
    cases x4 <;> cases x16 <;> (obtain rfl := hal; go_wp2_with fail; go_meet; exact ⟨rfl, rfl⟩)
   case rest =>
    obtain ⟨rfl, rfl⟩ := hcut
    clear g4 g16 g12 hal HOR
    obtain ⟨X, hX⟩ : ∃ X, fndR d at' s (!al) = X := ⟨_, rfl⟩
    have HFi := Lib.hid (fun (w1 : World) (hk : Keeps NoB wc w1) => (HFS.out.on hk).fnd at' s (!al) hsz)
    rw [hX] at HFi HOF HSZ
    obtain ⟨⟨pn, pd, pm⟩, pe⟩ := X
    unfold plcV at HFi
    simp only at HFi HOF
    have HXp := Lib.hid hX
    clear hX
    have f0 := HFS.out.c0
    have b0 := HW.out.cell 0 _ rfl
    go_upto_region 6 with fail
    go_cut [14, 15] from 14 to 44 (fun x y wx => ∃ G : Nat, wc.heap.size <= G ∧ x = .pointer (some ⟨G, 0, none⟩) ∧ y = .int .i64 pe ∧ Bx wx G [.int .i64 pn, .int .i64 pd, .string pm] ∧ Keeps NoB wc wx)
    case first =>
     have kr := Keeps.refl NoB wc
     have krd := kr.drew
     have d0 := (HFS.out.on krd).c0
     have d1 := (HW.out.on krd).cell 0 _ rfl
     go_region_held3 (fun wz => wz.cell? ⟨F, 0, none⟩ = some (.pointer (some ⟨a, 0, none⟩)) ∧ wz.cell? ⟨W, 0, none⟩ = some (.int .i64 at') ∧ Keeps NoB wc wz) (refine ⟨?_, ?_, ?_⟩ <;> first | with_reducible assumption | (with_reducible refine (HFS.out.on ?_).c0; (repeat (first | with_reducible assumption | (with_reducible exact Keeps.refl _ _) | (with_reducible refine Keeps.drew ?_) | (with_reducible refine Keeps.drewN ?_ _) | (with_reducible refine Keeps.alloc ?_ _) | (with_reducible refine Keeps.setCell ?_ (by first | exact Or.inl rfl | exact Or.inr (Nat.le_refl _) | exact Or.inr (by first | (simp; done) | (simp; omega))) _))); done) | (with_reducible refine (HW.out.on ?_).cell 0 _ rfl; (repeat (first | with_reducible assumption | (with_reducible exact Keeps.refl _ _) | (with_reducible refine Keeps.drew ?_) | (with_reducible refine Keeps.drewN ?_ _) | (with_reducible refine Keeps.alloc ?_ _) | (with_reducible refine Keeps.setCell ?_ (by first | exact Or.inl rfl | exact Or.inr (Nat.le_refl _) | exact Or.inr (by first | (simp; done) | (simp; omega))) _))); done) | ((repeat (first | with_reducible assumption | (with_reducible exact Keeps.refl _ _) | (with_reducible refine Keeps.drew ?_) | (with_reducible refine Keeps.drewN ?_ _) | (with_reducible refine Keeps.alloc ?_ _) | (with_reducible refine Keeps.setCell ?_ (by first | exact Or.inl rfl | exact Or.inr (Nat.le_refl _) | exact Or.inr (by first | (simp; done) | (simp; omega))) _))); done))
      (first | (go_at_call 21; refine (HFi.out _ (by (repeat (first | with_reducible assumption | (with_reducible exact Keeps.refl _ _) | (with_reducible refine Keeps.drew ?_) | (with_reducible refine Keeps.drewN ?_ _) | (with_reducible refine Keeps.alloc ?_ _) | (with_reducible refine Keeps.setCell ?_ (by first | exact Or.inl rfl | exact Or.inr (Nat.le_refl _) | exact Or.inr (by first | (simp; done) | (simp; omega))) _))))).mono ?_; rintro e w2 ⟨rfl, hk2⟩; have zky : Keeps NoB wc w2 := Keeps.trans (by (repeat (first | with_reducible assumption | (with_reducible exact Keeps.refl _ _) | (with_reducible refine Keeps.drew ?_) | (with_reducible refine Keeps.drewN ?_ _) | (with_reducible refine Keeps.alloc ?_ _) | (with_reducible refine Keeps.setCell ?_ (by first | exact Or.inl rfl | exact Or.inr (Nat.le_refl _) | exact Or.inr (by first | (simp; done) | (simp; omega))) _)))) hk2; have zs := zky.size; have z0 := (HFS.out.on zky).c0; have z1 := (HW.out.on zky).cell 0 _ rfl; (try (have yb := Bx.newD hk2; have y0 := yb.cell 0 _ rfl; have y1 := yb.cell 1 _ rfl; have y2 := yb.cell 2 _ rfl; have yf := yb.fz))))
     all_goals (go_wp2_with fail; go_meet; refine ⟨_, ?_, rfl, rfl, ?_, ?_⟩)
     all_goals first
      | exact Nat.le_refl _
      | exact zs
      | (with_reducible exact Bx.new (Keeps.refl NoB _))
      | (exact ((yb.put 0 _).put 1 _).put 2 _)
      | ((repeat (first | with_reducible assumption | (with_reducible exact Keeps.refl _ _) | (with_reducible refine Keeps.drew ?_) | (with_reducible refine Keeps.drewN ?_ _) | (with_reducible refine Keeps.alloc ?_ _) | (with_reducible refine Keeps.setCell ?_ (by first | exact Or.inl rfl | exact Or.inr (Nat.le_refl _) | exact Or.inr (by first | (simp; done) | (simp; omega))) _))); done)
      | skip
    case rest =>
     obtain ⟨HPB, hG, rfl, rfl, HP, hk1⟩ := hcut
     replace HP := Lib.hid HP
     clear f0 b0 HFi hG
     replace HFS := Lib.hid (HFS.out.on hk1)
     replace HK := Lib.hid (HK.out.trans hk1.of_none)
     replace HW := Lib.hid (HW.out.on hk1)
     by_cases hz : pe ≠ 0
     ·have hb : (pe != 0) = true := by simpa using hz
      rw [if_pos hz] at HOF
      clear hz
      go_wp2_with fail
      go_ret2
      exact ⟨ret_two (by rw [HOF.out]) (by rw [HOF.out]), (by rw [HOF.out]; exact HFS.out.less HSub.out), HK.out⟩
     rw [if_neg hz] at HOF
     obtain rfl : pe = 0 := Classical.not_not.1 hz
     clear hz
     have p0 := HP.out.cell 0 _ rfl
     have p1 := HP.out.cell 1 _ rfl
     have p2 := HP.out.cell 2 _ rfl
     have hp0 : (pn == 0) = decide (pn = 0) := by rw [Bool.eq_iff_iff]; simp
     by_cases hz : pn = 0
     ·rw [decide_eq_true hz] at hp0
      rw [if_pos hz] at HOF
      have b0 := HW.out.cell 0 _ rfl
      have b1 := HW.out.cell 1 _ rfl
      have HFr := Lib.hid (fresh_anyF HFS.out hbm at' mask ⟨pn, pd, pm⟩ HSZ.out s flags m hsz)
      rw [<- HOF.out] at HFr
      unfold plcV at HFr
      simp only at HFr
      clear hz
      go_wp2_with (go_at_call 22; go_loud (refine HFr.out.mono ?_); rintro e w5 ⟨rfl, FS5, k5⟩)
      go_ret2
      exact ⟨rfl, FS5.less HSub.out, HK.out.trans (k5.mono (fun g _ hg hN => hg (HSub.out g hN)))⟩
     rw [decide_eq_false hz] at hp0
     rw [if_neg hz] at HOF
     clear hz
     cases al with
     | true =>
       replace HOF := Lib.hid (show O = (d, 0, 13) by rw [HOF.out, if_pos rfl])
       go_wp2_with fail
       go_ret2
       exact ⟨ret_two (by rw [HOF.out]) (by rw [HOF.out]), (by rw [HOF.out]; exact HFS.out.less HSub.out), HK.out⟩
     | false =>
     rw [if_neg (by simp)] at HOF
     have HTh := Lib.hid (there_any HFS.out (by omega) pn flags)
     rw [<- HOF.out] at HTh
     go_wp2_with (go_at_call 23; go_loud (refine HTh.out.mono ?_); rintro e w5 ⟨rfl, FS5, k5⟩)
     go_ret2
     exact ⟨rfl, FS5.less HSub.out, HK.out.trans (k5.mono (fun g _ hg hN => hg (HSub.out g hN)))⟩
end
section
variable {N : Nat -> Prop} {w w' : World} {F a : Nat} {d d' : Nds} {room calls fail : Int}
theorem begin_any (w : World) (room fail : Int) (h0 : 0 <= room) (h1 : room <= 9223372036854775807) :
 Calls Tryz.prog 6 #[.int .i64 room, .int .i64 fail] w fun e w' => ∃ F a, e = .returned (.tuple #[.pointer (some ⟨F, 0, none⟩), .int .i64 0]) ∧ FSt (fun g => g < w.heap.size) w' F a newD room 0 fail ∧ Keeps NoB w w' := by
 have HN := Lib.hid (new_any w room h1)
 simp only [if_neg (show ¬ room < 0 by omega)] at HN
 go_enter Tryz.func6, Tryz.ntmps6
 go_wp2_with (go_at_call 19; go_loud (refine HN.out.mono ?_); rintro e w1 ⟨a, rfl, hd⟩)
 go_ret2
 have hk := hd.keeps
 have hs := hk.size
 have ka : Keeps NoB w1 (w1.alloc (.cells #[.pointer (some ⟨a, 0, none⟩), .int .i64 0, .int .i64 fail] 57)) := (Keeps.refl _ _).alloc _
 have kn := Keeps.refl NoB (w1.alloc (.cells #[.pointer (some ⟨a, 0, none⟩), .int .i64 0, .int .i64 fail] 57))
 refine ⟨w1.heap.size, a, rfl, ⟨hd.pd.grow ka (fun _ _ hx => hx.elim) (fun x hx => ?_), by omega, boxed kn 0 _ rfl, boxed kn 1 _ rfl, boxed kn 2 _ rfl, boxedz kn⟩, hk.alloc _⟩
 rcases hx with hx | rfl
 ·exact .inl hx
 ·exact .inr ⟨Nat.le_refl _, by simp⟩
theorem disk_any (h : FSt N w F a d room calls fail) : Calls Tryz.prog 13 #[.pointer (some ⟨F, 0, none⟩)] w fun e w' => e = .returned (.pointer (some ⟨a, 0, none⟩)) ∧ w = w' := by
 have f0 := h.c0
 clear h
 go_enter Tryz.func13, Tryz.ntmps13
 go_wp2
 go_ret
 exact ⟨rfl, rfl⟩
theorem close_any (h : FSt N w F a d room calls fail) (i : Int) :
 Calls Tryz.prog 9 #[.pointer (some ⟨F, 0, none⟩), .int .i64 i] w (FTo N w F a (relD d i) room calls fail (.int .i64 (relErr d i))) := by
 have HR := Lib.hid (h.prog2 fun R hR => release_any hR i)
 rw [show (if relErr d i = 0 then gc (relTo d i) else d) = relD d i from rfl] at HR
 have f0 := h.c0
 clear h
 go_enter Tryz.func9, Tryz.ntmps9
 go_wp2_with (go_at_call 25; go_loud (refine HR.out.mono ?_); rintro e w2 ⟨rfl, FS, k⟩)
 go_ret
 exact ⟨rfl, FS, k⟩
theorem FSt.reads (h : FSt N w F a d room calls fail) (i x y : Int) :
 Calls Tryz.prog 138 #[.pointer (some ⟨a, 0, none⟩), .int .i64 i, .int .i64 x, .int .i64 y] w fun e w' => e = .returned (.tuple #[.string (readOf d i x y), .int .i64 (readErr d i x y)]) ∧ w = w' :=
 h.pd.tells fun R lk up hR _ _ => read_any hR i x y (dataOf_size h.pd.inv i)
theorem fread_any (h : FSt N w F a d room calls fail) (i x y : Int) :
 Calls Tryz.prog 108 #[.pointer (some ⟨F, 0, none⟩), .int .i64 i, .int .i64 x, .int .i64 y] w fun e w' => e = .returned (.tuple #[.string (readOf d i x y), .int .i64 (readErr d i x y)]) ∧ w = w' := by
 have HR := Lib.hid (h.reads i x y)
 have f0 := h.c0
 clear h
 go_enter Tryz.func108, Tryz.ntmps108
 go_wp2_with (go_at_call 138; go_loud (refine HR.out.mono ?_); rintro e w2 ⟨rfl, rfl⟩)
 go_ret2
 exact ⟨rfl, rfl⟩
def wrtF (calls fail : Int) (d : Nds) (room id x : Int) (s : ByteArray) : Nds × Int := orFail calls fail d (writeTo d room id x s, writeErr d room id x s)
theorem fwrite_any (h : FSt N w F a d room calls fail) (hc0 : 0 <= calls) (hc1 : calls <= 4611686018427387904) (i x : Int) (s : ByteArray) (hsz : s.size <= 4294967296) :
 Calls Tryz.prog 8 #[.pointer (some ⟨F, 0, none⟩), .int .i64 i, .int .i64 x, .string s] w (FTo N w F a (wrtF calls fail d room i x s).1 room (calls + 1) fail (.int .i64 (wrtF calls fail d room i x s).2)) := by
 have HC := Lib.hid (call_any h hc0 hc1)
 have HW := Lib.hid (fun (w1 : World) (h1 : FSt N w1 F a d room (calls + 1) fail) => h1.prog2 fun R hR => writeD_any hR i x s hsz)
 obtain ⟨O, hO⟩ : ∃ O, wrtF calls fail d room i x s = O := ⟨_, rfl⟩
 rw [hO]
 obtain ⟨ce, hce⟩ : ∃ ce, callE calls fail = ce := ⟨_, rfl⟩
 have HOF := Lib.hid (show O = if ce ≠ 0 then (d, ce) else (writeTo d room i x s, writeErr d room i x s) by rw [<- hO]; unfold wrtF orFail; rw [hce])
 rw [hce] at HC
 clear h hO hce hc0 hc1
 by_cases hz : ce ≠ 0
 ·have hb : (ce != 0) = true := by simpa using hz
  rw [if_pos hz] at HOF
  clear hz
  go_enter Tryz.func8, Tryz.ntmps8
  go_wp2_with (go_at_call 20; go_loud (refine HC.out.mono ?_); rintro e w2 ⟨rfl, FS, k⟩)
  go_ret
  exact ⟨ret_i64 (by rw [HOF.out]), (by rw [HOF.out]; exact FS), k⟩
 rw [if_neg hz] at HOF
 obtain rfl : ce = 0 := Classical.not_not.1 hz
 clear hz
 go_enter Tryz.func8, Tryz.ntmps8
 go_wp2_with (first | (go_at_call 20; go_loud (refine HC.out.mono ?_); rintro e w2 ⟨rfl, FS, k⟩; have f2 := FS.c0; clear HC) | (go_at_call 24; go_loud (refine (HW.out _ FS).mono ?_); rintro e w3 ⟨rfl, FS3, k3⟩))
 go_ret
 exact ⟨ret_i64 (by rw [HOF.out]), (by rw [HOF.out]; exact FS3), k.trans k3⟩
end
end Go.Proofs.YtimidmogcbapnaaGreatDoor
