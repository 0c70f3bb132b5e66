/-
  Layer 6: contracts of files: Link. (Printed by genfiles.py.)
-/
import Derived.Test.YtimidmogcbapnaaGreatDoorG16
import Derived.Test.YtimidmogcbapnaaGreatDoorG15
import Derived.Test.YtimidmogcbapnaaGreatDoorG01
import Derived.Test.YtimidmogcbapnaaGreatDoorG02

set_option linter.unusedSimpArgs false
set_option linter.unusedVariables false
set_option maxRecDepth 100000
set_option maxHeartbeats 4000000
namespace Go.Proofs.YtimidmogcbapnaaGreatDoor
open Go Go.RowKit
section
variable {N : Nat -> Prop} {w w' : World} {F a : Nat} {d d' : Nds} {room calls fail : Int}
theorem link_any (h : FSt N w F a d room calls fail) (hc0 : 0 <= calls) (hc1 : calls <= 4611686018427387904) (hbm : mass d + 1 <= 2147483648) (at' mask : Int) (old s : ByteArray) (hsz2 : old.size <= 4294967280) (hsz : s.size <= 4294967280) :
 Calls Tryz.prog 76 #[.pointer (some ⟨F, 0, none⟩), .agg #[.int .i64 at', .int .i64 mask], .string old, .string s] w
  (FTo N w F a (orFail calls fail d (linkR d room at' old s)).1 room (calls + 1) fail (.int .i64 (orFail calls fail d (linkR d room at' old s)).2)) := by
 have kz0 : Keeps NoB w (w.alloc (.cells #[.int .i64 at', .int .i64 mask] 28)) := (Keeps.refl _ _).alloc _
 obtain ⟨N1, hsub, hnew, FS⟩ := h.wider kz0
 have HW := Lib.hid (Bx.new (Keeps.refl NoB (w.alloc (.cells #[.int .i64 at', .int .i64 mask] 28))))
 have HNW := Lib.hid (hnew w.heap.size (Nat.le_refl _) (by simp))
 have HK := Lib.hid (kz0.of_none (F := fun g => ¬ N g))
 have HSub := Lib.hid hsub
 clear hsub hnew h kz0
 have HC := Lib.hid (call_any FS hc0 hc1)
 obtain ⟨ce, hce⟩ : ∃ ce, callE calls fail = ce := ⟨_, rfl⟩
 obtain ⟨O, hO⟩ : ∃ O, orFail calls fail d (linkR d room at' old s) = O := ⟨_, rfl⟩
 have HOF := Lib.hid (show O = if ce ≠ 0 then (d, ce) else linkR d room at' old s by rw [<- hO]; unfold orFail; rw [hce])
 rw [hO]
 clear hO
 rw [hce] at HC
 clear hce FS hc0 hc1
 go_enter Tryz.func76, Tryz.ntmps76
 go_upto_region 1 with fail
 generalize w.alloc (.cells #[.int .i64 at', .int .i64 mask] 28) = w0 at *
 generalize w.heap.size = W at *
 go_upto_region 2 with (go_at_call 20; go_loud (refine HC.out.mono ?_); rintro e wc ⟨rfl, FS, k1⟩; replace HW := Lib.hid (HW.out.keep k1 (fun hh => hh HNW.out)); replace HK := Lib.hid (HK.out.trans (k1.mono (fun g _ hg hN => hg (HSub.out g hN)))))
 have HFS := Lib.hid FS
 clear HC k1 FS
 by_cases hz : ce ≠ 0
 ·have hb : (ce != 0) = true := by simpa using hz
  rw [if_pos hz] at HOF
  clear hz
  go_wp2_with fail
  go_ret
  exact ⟨ret_i64 (by rw [HOF.out]), (by rw [HOF.out]; exact HFS.out.less HSub.out), HK.out⟩
 rw [if_neg hz] at HOF
 obtain rfl : ce = 0 := Classical.not_not.1 hz
 clear hz
 unfold linkR at HOF
 obtain ⟨X, hX⟩ : ∃ X, thrR d at' old false = X := ⟨_, rfl⟩
 have HFi := Lib.hid (fun (w1 : World) (hk : Keeps NoB wc w1) => (HFS.out.on hk).thr at' old false hsz2)
 rw [hX] at HFi HOF
 obtain ⟨⟨pn, pd, pm⟩, pe⟩ := X
 unfold plcV at HFi
 simp only at HFi HOF
 have HXp := Lib.hid hX
 clear hX
 have f0 := HFS.out.c0
 have b0 := HW.out.cell 0 _ rfl
 go_upto_region 4 with fail
 go_cut [10, 11] from 10 to 30 (fun x y wx => ∃ G : Nat, wc.heap.size <= G ∧ x = .pointer (some ⟨G, 0, none⟩) ∧ y = .int .i64 pe ∧ Bx wx G [.int .i64 pn, .int .i64 pd, .string pm] ∧ Keeps NoB wc wx)
 case first =>
  have kr := Keeps.refl NoB wc
  have krd := kr.drew
  have d0 := (HFS.out.on krd).c0
  have d1 := (HW.out.on krd).cell 0 _ rfl
  go_region_held3 (fun wz => wz.cell? ⟨F, 0, none⟩ = some (.pointer (some ⟨a, 0, none⟩)) ∧ wz.cell? ⟨W, 0, none⟩ = some (.int .i64 at') ∧ Keeps NoB wc wz) (refine ⟨?_, ?_, ?_⟩ <;> first | with_reducible assumption | (with_reducible refine (HFS.out.on ?_).c0; (repeat (first | with_reducible assumption | (with_reducible exact Keeps.refl _ _) | (with_reducible refine Keeps.drew ?_) | (with_reducible refine Keeps.drewN ?_ _) | (with_reducible refine Keeps.alloc ?_ _) | (with_reducible refine Keeps.setCell ?_ (by first | exact Or.inl rfl | exact Or.inr (Nat.le_refl _) | exact Or.inr (by first | (simp; done) | (simp; omega))) _))); done) | (with_reducible refine (HW.out.on ?_).cell 0 _ rfl; (repeat (first | with_reducible assumption | (with_reducible exact Keeps.refl _ _) | (with_reducible refine Keeps.drew ?_) | (with_reducible refine Keeps.drewN ?_ _) | (with_reducible refine Keeps.alloc ?_ _) | (with_reducible refine Keeps.setCell ?_ (by first | exact Or.inl rfl | exact Or.inr (Nat.le_refl _) | exact Or.inr (by first | (simp; done) | (simp; omega))) _))); done) | ((repeat (first | with_reducible assumption | (with_reducible exact Keeps.refl _ _) | (with_reducible refine Keeps.drew ?_) | (with_reducible refine Keeps.drewN ?_ _) | (with_reducible refine Keeps.alloc ?_ _) | (with_reducible refine Keeps.setCell ?_ (by first | exact Or.inl rfl | exact Or.inr (Nat.le_refl _) | exact Or.inr (by first | (simp; done) | (simp; omega))) _))); done))
   (first | (go_at_call 26; refine (HFi.out _ (by (repeat (first | with_reducible assumption | (with_reducible exact Keeps.refl _ _) | (with_reducible refine Keeps.drew ?_) | (with_reducible refine Keeps.drewN ?_ _) | (with_reducible refine Keeps.alloc ?_ _) | (with_reducible refine Keeps.setCell ?_ (by first | exact Or.inl rfl | exact Or.inr (Nat.le_refl _) | exact Or.inr (by first | (simp; done) | (simp; omega))) _))))).mono ?_; rintro e w2 ⟨rfl, hk2⟩; have zky : Keeps NoB wc w2 := Keeps.trans (by (repeat (first | with_reducible assumption | (with_reducible exact Keeps.refl _ _) | (with_reducible refine Keeps.drew ?_) | (with_reducible refine Keeps.drewN ?_ _) | (with_reducible refine Keeps.alloc ?_ _) | (with_reducible refine Keeps.setCell ?_ (by first | exact Or.inl rfl | exact Or.inr (Nat.le_refl _) | exact Or.inr (by first | (simp; done) | (simp; omega))) _)))) hk2; have zs := zky.size; have z0 := (HFS.out.on zky).c0; have z1 := (HW.out.on zky).cell 0 _ rfl; (try (have yb := Bx.newD hk2; have y0 := yb.cell 0 _ rfl; have y1 := yb.cell 1 _ rfl; have y2 := yb.cell 2 _ rfl; have yf := yb.fz))))
  all_goals (go_wp2_with fail; go_meet; refine ⟨_, ?_, rfl, rfl, ?_, ?_⟩)
  all_goals first
   | exact Nat.le_refl _
   | exact zs
   | (with_reducible exact Bx.new (Keeps.refl NoB _))
   | (exact ((yb.put 0 _).put 1 _).put 2 _)
   | ((repeat (first | with_reducible assumption | (with_reducible exact Keeps.refl _ _) | (with_reducible refine Keeps.drew ?_) | (with_reducible refine Keeps.drewN ?_ _) | (with_reducible refine Keeps.alloc ?_ _) | (with_reducible refine Keeps.setCell ?_ (by first | exact Or.inl rfl | exact Or.inr (Nat.le_refl _) | exact Or.inr (by first | (simp; done) | (simp; omega))) _))); done)
   | skip
 case rest =>
  obtain ⟨HPB, hG, rfl, rfl, HP, hk1⟩ := hcut
  replace HP := Lib.hid HP
  clear f0 b0 HFi hG
  replace HFS := Lib.hid (HFS.out.on hk1)
  replace HK := Lib.hid (HK.out.trans hk1.of_none)
  replace HW := Lib.hid (HW.out.on hk1)
  by_cases hz : pe ≠ 0
  ·have hb : (pe != 0) = true := by simpa using hz
   rw [if_pos hz] at HOF
   clear hz
   go_wp2_with fail
   go_ret
   exact ⟨ret_i64 (by rw [HOF.out]), (by rw [HOF.out]; exact HFS.out.less HSub.out), HK.out⟩
  rw [if_neg hz] at HOF
  obtain rfl : pe = 0 := Classical.not_not.1 hz
  clear hz
  obtain ⟨ik, im, il, ih, iz, hik, him, _, hie⟩ := HFS.out.tell pn
  obtain ⟨ie, hie2⟩ : ∃ ie, (if has d pn then 0 else 12 : Int) = ie := ⟨_, rfl⟩
  have HIn := Lib.hid (fun (w1 : World) (hk : Keeps NoB wc w1) => (HFS.out.on hk).info pn)
  rw [hie, hie2] at HIn
  rw [<- hik] at HOF
  have HIk := Lib.hid hik
  have HIm := Lib.hid him
  have HIE := Lib.hid hie
  have HIE2 := Lib.hid hie2
  clear hie hie2 hik him
  have f0 := HFS.out.c0
  have b0 := HP.out.cell 0 _ rfl
  go_upto_region 7 with fail
  go_cut [12, 13] from 12 to 43 (fun x y wx => ∃ G : Nat, wc.heap.size <= G ∧ x = .pointer (some ⟨G, 0, none⟩) ∧ y = .int .i64 ie ∧ Bx wx G [.int .i64 ik, .int .i64 im, .int .i64 il, .int .i64 ih, .int .i64 iz] ∧ Keeps NoB wc wx)
  case first =>
   have kr := Keeps.refl NoB wc
   have krd := kr.drew
   have d0 := (HFS.out.on krd).c0
   have d1 := (HP.out.on krd).cell 0 _ rfl
   go_region_held3 (fun wz => wz.cell? ⟨F, 0, none⟩ = some (.pointer (some ⟨a, 0, none⟩)) ∧ wz.cell? ⟨HPB, 0, none⟩ = some (.int .i64 pn) ∧ Keeps NoB wc wz) (refine ⟨?_, ?_, ?_⟩ <;> first | with_reducible assumption | (with_reducible refine (HFS.out.on ?_).c0; (repeat (first | with_reducible assumption | (with_reducible exact Keeps.refl _ _) | (with_reducible refine Keeps.drew ?_) | (with_reducible refine Keeps.drewN ?_ _) | (with_reducible refine Keeps.alloc ?_ _) | (with_reducible refine Keeps.setCell ?_ (by first | exact Or.inl rfl | exact Or.inr (Nat.le_refl _) | exact Or.inr (by first | (simp; done) | (simp; omega))) _))); done) | (with_reducible refine (HP.out.on ?_).cell 0 _ rfl; (repeat (first | with_reducible assumption | (with_reducible exact Keeps.refl _ _) | (with_reducible refine Keeps.drew ?_) | (with_reducible refine Keeps.drewN ?_ _) | (with_reducible refine Keeps.alloc ?_ _) | (with_reducible refine Keeps.setCell ?_ (by first | exact Or.inl rfl | exact Or.inr (Nat.le_refl _) | exact Or.inr (by first | (simp; done) | (simp; omega))) _))); done) | ((repeat (first | with_reducible assumption | (with_reducible exact Keeps.refl _ _) | (with_reducible refine Keeps.drew ?_) | (with_reducible refine Keeps.drewN ?_ _) | (with_reducible refine Keeps.alloc ?_ _) | (with_reducible refine Keeps.setCell ?_ (by first | exact Or.inl rfl | exact Or.inr (Nat.le_refl _) | exact Or.inr (by first | (simp; done) | (simp; omega))) _))); done))
    (first | (go_at_call 37; refine (HIn.out _ (by (repeat (first | with_reducible assumption | (with_reducible exact Keeps.refl _ _) | (with_reducible refine Keeps.drew ?_) | (with_reducible refine Keeps.drewN ?_ _) | (with_reducible refine Keeps.alloc ?_ _) | (with_reducible refine Keeps.setCell ?_ (by first | exact Or.inl rfl | exact Or.inr (Nat.le_refl _) | exact Or.inr (by first | (simp; done) | (simp; omega))) _))))).mono ?_; rintro e w2 ⟨rfl, hk2⟩; have zky : Keeps NoB wc w2 := Keeps.trans (by (repeat (first | with_reducible assumption | (with_reducible exact Keeps.refl _ _) | (with_reducible refine Keeps.drew ?_) | (with_reducible refine Keeps.drewN ?_ _) | (with_reducible refine Keeps.alloc ?_ _) | (with_reducible refine Keeps.setCell ?_ (by first | exact Or.inl rfl | exact Or.inr (Nat.le_refl _) | exact Or.inr (by first | (simp; done) | (simp; omega))) _)))) hk2; have zs := zky.size; have z0 := (HFS.out.on zky).c0; have z1 := (HP.out.on zky).cell 0 _ rfl; (try (have yb := Bx.newD hk2; have y0 := yb.cell 0 _ rfl; have y1 := yb.cell 1 _ rfl; have y2 := yb.cell 2 _ rfl; have y3 := yb.cell 3 _ rfl; have y4 := yb.cell 4 _ rfl; have yf := yb.fz))))
   all_goals (go_wp2_with fail; go_meet; refine ⟨_, ?_, rfl, rfl, ?_, ?_⟩)
   all_goals first
    | exact Nat.le_refl _
    | exact zs
    | (with_reducible exact Bx.new (Keeps.refl NoB _))
    | (exact ((((yb.put 0 _).put 1 _).put 2 _).put 3 _).put 4 _)
    | ((repeat (first | with_reducible assumption | (with_reducible exact Keeps.refl _ _) | (with_reducible refine Keeps.drew ?_) | (with_reducible refine Keeps.drewN ?_ _) | (with_reducible refine Keeps.alloc ?_ _) | (with_reducible refine Keeps.setCell ?_ (by first | exact Or.inl rfl | exact Or.inr (Nat.le_refl _) | exact Or.inr (by first | (simp; done) | (simp; omega))) _))); done)
    | skip
  case rest =>
   obtain ⟨HIB, hG, rfl, rfl, HI, hk1⟩ := hcut
   replace HI := Lib.hid HI
   clear f0 b0 HIn hG
   replace HFS := Lib.hid (HFS.out.on hk1)
   replace HK := Lib.hid (HK.out.trans hk1.of_none)
   replace HW := Lib.hid (HW.out.on hk1)
   replace HP := Lib.hid (HP.out.on hk1)
   clear hk1
   have i0 := HI.out.cell 0 _ rfl
   by_cases hz : ik = 2
   ·have hb : (ik == 2) = true := by simpa using hz
    rw [if_pos hz] at HOF
  
    clear hz
    go_wp2_with fail
    go_ret
    exact ⟨ret_i64 (by rw [HOF.out]), (by rw [HOF.out]; exact HFS.out.less HSub.out), HK.out⟩
   rw [if_neg hz] at HOF
   have hb : (ik == 2) = false := by simpa using hz
   have Hk := Lib.hid hz
   clear hz
   have b0 := HW.out.cell 0 _ rfl
   have b1 := HW.out.cell 1 _ rfl
   have HFr := Lib.hid (free_any HFS.out at' mask s false hsz)
   obtain ⟨X, hX⟩ : ∃ X, freeR d at' s false = X := ⟨_, rfl⟩
   rw [hX] at HFr HOF
   obtain ⟨⟨qn, qd, qm⟩, qe⟩ := X
   unfold plcV at HFr
   simp only at HFr HOF
   have HXq := Lib.hid hX
   clear hX
   go_upto_region 11 with (go_at_call 38; go_loud (refine HFr.out.mono ?_); rintro e w2 ⟨rfl, k2⟩)
   have HQ := Lib.hid (Bx.new (Keeps.refl NoB (w2.alloc (.cells #[.int .i64 qn, .int .i64 qd, .string qm] 60))))
   have hk1 : Keeps NoB wc (w2.alloc (.cells #[.int .i64 qn, .int .i64 qd, .string qm] 60)) := k2.alloc _
   clear b0 b1 HFr k2
   replace HFS := Lib.hid (HFS.out.on hk1)
   replace HK := Lib.hid (HK.out.trans hk1.of_none)
   replace HW := Lib.hid (HW.out.on hk1)
   replace HP := Lib.hid (HP.out.on hk1)
   replace HI := Lib.hid (HI.out.on hk1)
   clear hk1
   generalize w2.alloc (.cells #[.int .i64 qn, .int .i64 qd, .string qm] 60) = wc at *
   generalize w2.heap.size = HQB at *
   by_cases hz : qe ≠ 0
   ·have hb : (qe != 0) = true := by simpa using hz
    rw [if_pos hz] at HOF
    clear hz
    go_wp2_with fail
    go_ret
    exact ⟨ret_i64 (by rw [HOF.out]), (by rw [HOF.out]; exact HFS.out.less HSub.out), HK.out⟩
   rw [if_neg hz] at HOF
   obtain rfl : qe = 0 := Classical.not_not.1 hz
   clear hz
   have f0 := HFS.out.c0
   have b0 := HQ.out.cell 1 _ rfl
   have b1 := HQ.out.cell 2 _ rfl
   have b2 := HP.out.cell 0 _ rfl
   obtain ⟨x1, x2, _⟩ := freeR_ok HXq.out
   have HL := Lib.hid ((HFS.out.on (Keeps.refl NoB wc).drew).prog2 fun R hR => enterD_any hR qd qm pn (Nat.le_trans x2 (by decide)) hbm (fun _ h2 => absurd (HIk.out.trans h2) Hk.out))
   rw [show enterD d room qd qm pn = (O : Nds × Int).1 by rw [HOF.out] <;> rfl, show enterErr d room qd qm pn = (O : Nds × Int).2 by rw [HOF.out] <;> rfl] at HL
   go_upto_region 13 with fail
   go_still_tail 10, (by kernel_rfl)
   change wpList _ _ _ _ _ wc.drew
   replace HK : Hid (Keeps (fun g => ¬ N g) w wc.drew) := HK.out.drew
   generalize wc.drew = wd at *
   go_wp2_with (go_at_call 51; go_loud (refine HL.out.mono ?_); rintro e w5 ⟨rfl, FS5, k5⟩)
   go_ret
   exact ⟨rfl, FS5.less HSub.out, HK.out.trans (k5.mono (fun g _ hg hN => hg (HSub.out g hN)))⟩
end
structure FSx (W : World) (P : Nat -> Prop) (w : World) (F a : Nat) (d : Nds) (room calls fail : Int) : Prop where
 ex : ∃ N : Nat -> Prop, (∀ g, g < W.heap.size -> N g) ∧ (∀ g, P g -> N g) ∧ FSt N w F a d room calls fail
 keeps : Keeps NoB W w
section
variable {W w w' : World} {P P' : Nat -> Prop} {F a : Nat} {d d' : Nds} {room calls calls' fail : Int}
theorem FSx.inv (h : FSx W P w F a d room calls fail) : DInv d := by obtain ⟨N, _, _, h⟩ := h.ex; exact h.pd.inv
theorem FSx.clean (h : FSx W P w F a d room calls fail) : NoGarb d := by obtain ⟨N, _, _, h⟩ := h.ex; exact h.pd.clean
theorem FSx.small (h : FSx W P w F a d room calls fail) : smallD d := by obtain ⟨N, _, _, h⟩ := h.ex; exact h.pd.small
theorem FSx.lt (h : FSx W P w F a d room calls fail) : F < w.heap.size := by obtain ⟨N, _, _, h⟩ := h.ex; exact h.lt
theorem FSx.low (h : FSx W P w F a d room calls fail) (g : Nat) (hg : P g) : g < w.heap.size := by obtain ⟨N, _, h1, h⟩ := h.ex; exact h.low g (h1 g hg)
theorem FSx.new {W : World} (h : FSt (fun g => g < W.heap.size) w F a d room calls fail) (k : Keeps NoB W w) : FSx W NoB w F a d room calls fail :=
 ⟨⟨_, fun _ hg => hg, fun _ hg => hg.elim, h⟩, k⟩
theorem FSx.more (h : FSx W P w F a d room calls fail) (k : Keeps NoB w w') (hP : ∀ g, P' g -> P g ∨ (w.heap.size <= g ∧ g < w'.heap.size)) : FSx W P' w' F a d room calls fail := by
 obtain ⟨N, h1, h2, h3⟩ := h.ex
 obtain ⟨N1, g1, g2, g3⟩ := h3.wider k
 exact ⟨⟨N1, fun g hg => g1 g (h1 g hg), fun g hg => (hP g hg).elim (fun h => g1 g (h2 g h)) (fun h => g2 g h.1 h.2), g3⟩, h.keeps.trans k⟩
theorem FSx.on (h : FSx W P w F a d room calls fail) (k : Keeps NoB w w') : FSx W P w' F a d room calls fail := h.more k (fun _ hg => .inl hg)
theorem FSx.turn {G : Nat -> Prop} (h : FSx W P w F a d room calls fail) (k : Keeps G w w') (hG : ∀ g, G g -> P g ∧ W.heap.size <= g) : FSx W P w' F a d room calls fail := by
 obtain ⟨N, h1, h2, h3⟩ := h.ex
 exact ⟨⟨N, h1, h2, h3.keep k (fun g hg => h2 g (hG g hg).1)⟩, h.keeps.step k (fun g hg => .inr (hG g hg).2)⟩
def FXo (W : World) (P : Nat -> Prop) (w : World) (F a : Nat) (d' : Nds) (room calls' fail : Int) (V : Value) : Ending -> World -> Prop := fun e w' =>
 e = .returned V ∧ FSx W P w' F a d' room calls' fail ∧ Keeps (fun g => ¬ (g < W.heap.size ∨ P g)) w w'
theorem FSx.call {f : Nat} {args : Array Value} {V : Value} (h : FSx W P w F a d room calls fail) (hc : ∀ N : Nat -> Prop, FSt N w F a d room calls fail -> Calls Tryz.prog f args w (FTo N w F a d' room calls' fail V)) :
 Calls Tryz.prog f args w (FXo W P w F a d' room calls' fail V) := by
 obtain ⟨N, h1, h2, h3⟩ := h.ex
 refine (hc N h3).mono ?_
 rintro e w' ⟨rfl, h4, h5⟩
 have k : Keeps (fun g => ¬ (g < W.heap.size ∨ P g)) w w' := h5.mono (fun g _ hg hn => hg (hn.elim (h1 g) (h2 g)))
 exact ⟨rfl, ⟨⟨N, h1, h2, h4⟩, h.keeps.step k (fun g hg => .inr (by
  rcases Nat.lt_or_ge g W.heap.size with h | h
  ·exact absurd (.inl h) hg
  ·exact h))⟩, k⟩
theorem FSx.asks {f : Nat} {args : Array Value} {Q : Ending -> World -> Prop} (h : FSx W P w F a d room calls fail) (hc : ∀ N : Nat -> Prop, FSt N w F a d room calls fail -> Calls Tryz.prog f args w Q) : Calls Tryz.prog f args w Q := by
 obtain ⟨N, _, _, h3⟩ := h.ex
 exact hc N h3
theorem FSx.kept (h : FSx W P w F a d room calls fail) {B : Nat} {l : List Value} (hb : Bx w B l) (k : Keeps (fun g => ¬ (g < W.heap.size ∨ P g)) w w') (hB : P B) : Bx w' B l := hb.keep k (fun hn => hn (.inr hB))
end
theorem trimb_same (s : ByteArray) (w : World) (h1 : 1 <= s.size) (hm : s.size <= 4294967296) (hne : endS s = false) :
 Calls Tryz.prog 130 #[.string s, .int .u8 47] w fun e w' => e = .returned (.string s) ∧ w = w' := by
 have hb : ((s[s.size - 1].toNat : Int) == 47) = false := by
  rw [endS_last s h1, decide_eq_false_iff_not] at hne
  rw [byte_eq _ _ (by decide) (by decide), decide_eq_false_iff_not]
  exact hne
 clear hne
 go_enter Tryz.func130, Tryz.ntmps130
 go_wp2
 go_loop [0] (fun v => v = .string s) (fun _ => 0)
 case atStart => rfl
 case round =>
  subst hrel
  go_wp2
  go_ret
  exact ⟨rfl, rfl⟩
theorem trim_same (s : ByteArray) (w : World) (h1 : 1 <= s.size) (hm : s.size <= 4294967296) (hne : endS s = false) :
 Calls Tryz.prog 100 #[.string s, .string slashB] w fun e w' => e = .returned (.string s) ∧ w = w' := by
 have HT := Lib.hid (trimb_same s w h1 hm hne)
 have hz : (!s.toList.isEmpty) = true := notEmpty_eq (fun e => by subst e; exact absurd h1 (by decide))
 have hz2 : s.toList.isEmpty = false := by simpa using hz
 clear hne
 go_enter Tryz.func100, Tryz.ntmps100
 go_wp2_with (go_at_call 130; go_loud (refine HT.out.mono ?_); rintro e w1 ⟨rfl, rfl⟩)
 go_ret
 exact ⟨rfl, rfl⟩
def abvL (s : ByteArray) : Nat -> List ByteArray
 | 0 => []
 | k + 1 => abvL s k ++ (if s.data.toList[k]? = some 47 then [s.extract 0 k] else [])
theorem abvL_len (s : ByteArray) : ∀ k, (abvL s k).length <= k
 | 0 => Nat.le_refl _
 | k + 1 => by
   have := abvL_len s k
   rw [abvL, List.length_append]
   split <;> simp <;> omega
theorem above_any (s : ByteArray) (w : World) (hs : s.size <= 4294967280) :
 Calls Tryz.prog 101 #[.string s] w fun e w' => ∃ v, e = .returned v ∧ Own encStr 9 (fun g => w.heap.size <= g) w' v (abvL s s.size) ∧ Keeps NoB w w' := by
 go_enter Tryz.func101, Tryz.ntmps101
 go_wp2
 go_loopw [3, 7] (fun o i wr => ∃ k : Nat, k <= s.size ∧ i = .int .i64 k ∧ Own encStr 9 (fun g => w.heap.size <= g) wr o (abvL s k) ∧ Keeps NoB w wr) (fun _ i _ => s.size - (intOf i).toNat)
 case atStart => exact ⟨0, Nat.zero_le _, rfl, Own.nil _ _ _ _, Keeps.refl _ _⟩
 case round =>
  rename_i wr
  obtain ⟨k, hk, rfl, ho, hkp⟩ := hrel
  have Hkp := Lib.hid hkp
  have hsz := hkp.size
  have hll := abvL_len s k
  clear hkp
  by_cases hlt : k < s.size
  ·have Hg := Lib.hid (show s.data.toList[k]? = some s[k] by rw [List.getElem?_eq_getElem (by rw [len_data]; exact hlt)]; rfl)
   by_cases hc : s[k] = 47
   ·have hb : ((s[k].toNat : Int) == 47) = true := by rw [byte_eq _ _ (by decide) (by decide), decide_eq_true_eq]; exact hc
    have HE := Lib.hid (show abvL s (k + 1) = abvL s k ++ [s.extract 0 k] by rw [abvL, Hg.out, if_pos (by rw [hc])])
    clear hc
    go_wp2_with (at_builtin; refine wpl_append rfl (.tmp 14) (.tmp 18) rfl tStr (ho.keep ((Keeps.refl NoB _).alloc _) (fun _ _ h => h)) (own_lit (S := fun _ => True) [s.extract 0 k] #[.string (s.extract 0 k)] rfl 1 rfl trivial (by decide)).sl rfl rfl (by simp; omega) (by simp [maxLen]; omega) (by simp; omega) ?_; intro v' w' ho' hk' hf')
    go_roundw
    case rel =>
     exact ⟨k + 1, by omega, by go_num, by rw [HE.out]; exact ho', Hkp.out.alloc _ |>.step hk' (fun g hg => Or.inr (ho.2 g hg))⟩
    case measure => simp [intOf]; omega
   ·have hb : ((s[k].toNat : Int) == 47) = false := by rw [byte_eq _ _ (by decide) (by decide), decide_eq_false_iff_not]; exact hc
    have HE := Lib.hid (show abvL s (k + 1) = abvL s k by rw [abvL, Hg.out, if_neg (fun e => hc (Option.some.inj e)), List.append_nil])
    clear hc
    go_wp2
    go_roundw
    case rel => exact ⟨k + 1, by omega, by go_num, by rw [HE.out]; exact ho, Hkp.out⟩
    case measure => simp [intOf]; omega
  ·obtain rfl : k = s.size := by omega
   go_wp2
   go_ret
   exact ⟨_, rfl, ho, Hkp.out⟩
section
variable {S : Nat -> Prop} {w : World} {p : Option Addr} {c : Nat} {l : List ByteArray}
def noFlag (x : ByteArray) : Bool := decide (x.size < 2) || !decide (x.data.toList[0]? = some 45)
theorem noFlag_facts {x : ByteArray} (h : noFlag x = true) : x.size < 2 ∨ ∃ h2 : 2 <= x.size, ((x[0].toNat : Int) != 45) = true := by
 unfold noFlag at h
 rcases Nat.lt_or_ge x.size 2 with h1 | h1
 ·exact .inl h1
 ·refine .inr ⟨h1, ?_⟩
  rw [Bool.or_eq_true, decide_eq_true_eq, Bool.not_eq_true', decide_eq_false_iff_not] at h
  have hq := h.resolve_left (by omega)
  have hg : x.data.toList[0]? = some x[0] := by rw [List.getElem?_eq_getElem (by rw [len_data]; omega)]; rfl
  have := byte_eq x[0] 45 (by decide) (by decide)
  rw [bne, this, Bool.not_eq_true', decide_eq_false_iff_not]
  intro e
  rw [hg, e] at hq
  exact hq rfl
theorem flags_none (h : SlAt encStr S w p c l) (letters : ByteArray) (hx : ∀ x, l[0]? = some x -> noFlag x = true) :
 Calls Tryz.prog 65 #[.slice p l.length c, .string letters] w fun e w' => e = .returned (.tuple #[.string ⟨#[]⟩, .slice p l.length c, .bool true]) ∧ w = w' := by
 have hcap := h.cap
 have hmax := h.max
 unfold maxLen at hmax
 cases hl : l with
 | nil =>
   simp only [List.length_nil]
   go_enter Tryz.func65, Tryz.ntmps65
   go_wp2
   refine wp_scope_goto 0 (fun _ _ => False) (fun _ _ => 0) rfl ?_ (fun _ _ h => h.elim)
   intro HJ
   clear HJ
   go_wp2
   go_step3
   go_step
   go_step
   go_wp2
   simp only [Exit.jump]
   go_ret3
   exact ⟨rfl, rfl⟩
 | cons x l' =>
   subst hl
   obtain ⟨g, o, rfl, _, _, c0⟩ := h.str (i := 0) (x := x) rfl
   rw [List.length_cons] at hcap ⊢
   have c1 : w.cell? ⟨g, o, none⟩ = some (.string x) := c0
   rcases noFlag_facts (hx x rfl) with h1 | ⟨h2, hb⟩
   ·clear hx c0 h
    go_enter Tryz.func65, Tryz.ntmps65
    go_wp2
    refine wp_scope_goto 0 (fun _ _ => False) (fun _ _ => 0) rfl ?_ (fun _ _ h => h.elim)
    intro HJ
    clear HJ
    go_wp2
    go_step3
    go_step
    go_step
    go_wp2
    simp only [Exit.jump]
    go_ret3
    exact ⟨rfl, rfl⟩
   ·clear hx c0 h
    go_enter Tryz.func65, Tryz.ntmps65
    go_wp2
    refine wp_scope_goto 0 (fun _ _ => False) (fun _ _ => 0) rfl ?_ (fun _ _ h => h.elim)
    intro HJ
    clear HJ
    go_wp2
    go_step3
    go_step
    go_step
    go_wp2
    simp only [Exit.jump]
    go_ret3
    exact ⟨rfl, rfl⟩
end
section
variable {S : Nat -> Prop} {w : World} {p : Option Addr} {c : Nat}
def FlA (w : World) (p : Option Addr) (c : Nat) (x : ByteArray) (l : List ByteArray) (letters : ByteArray) (a' : Act) (w' : World) : Prop :=
 (∃ fz : Nat -> Value, a' = { tmps := List.toArray (.slice p (l.length + 1) c :: .string letters :: fz 2 :: fz 3 :: fz 4 :: fz 5 :: fz 6 :: .string ⟨#[]⟩ :: fz 8 :: fz 9 :: fz 10 :: fz 11 :: fz 12 :: fz 13 :: fz 14 :: fz 15 :: fz 16 :: fz 17 :: fz 18 :: fz 19 :: fz 20 :: fz 21 :: fz 22 :: fz 23 :: fz 24 :: fz 25 :: fz 26 :: fz 27 :: fz 28 :: fz 29 :: fz 30 :: fz 31 :: fz 32 :: fz 33 :: fz 34 :: fz 35 :: fz 36 :: fz 37 :: fz 38 :: fz 39 :: fz 40 :: fz 41 :: fz 42 :: fz 43 :: fz 44 :: fz 45 :: fz 46 :: fz 47 :: fz 48 :: fz 49 :: fz 50 :: fz 51 :: fz 52 :: fz 53 :: fz 54 :: fz 55 :: fz 56 :: fz 57 :: fz 58 :: []), defers := [] } ∧ w' = w) ∨
 (∃ fz : Nat -> Value, a' = { tmps := List.toArray (.slice (subAt 1 p c 1) l.length (c - 1) :: .string letters :: fz 2 :: fz 3 :: fz 4 :: fz 5 :: fz 6 :: .string (x.extract 1 x.size) :: fz 8 :: fz 9 :: fz 10 :: fz 11 :: fz 12 :: fz 13 :: fz 14 :: fz 15 :: fz 16 :: fz 17 :: fz 18 :: fz 19 :: fz 20 :: fz 21 :: fz 22 :: fz 23 :: fz 24 :: fz 25 :: fz 26 :: fz 27 :: fz 28 :: fz 29 :: fz 30 :: fz 31 :: fz 32 :: fz 33 :: fz 34 :: fz 35 :: fz 36 :: fz 37 :: fz 38 :: fz 39 :: fz 40 :: fz 41 :: fz 42 :: fz 43 :: fz 44 :: fz 45 :: fz 46 :: fz 47 :: fz 48 :: fz 49 :: fz 50 :: fz 51 :: fz 52 :: fz 53 :: fz 54 :: fz 55 :: fz 56 :: fz 57 :: fz 58 :: []), defers := [] } ∧ Keeps NoB w w')
theorem FlA.one {w : World} {p : Option Addr} {c : Nat} {x : ByteArray} {l : List ByteArray} {letters : ByteArray} {a' : Act}
 (h : (fun fz : Nat -> Value => a' = { tmps := List.toArray (.slice p (l.length + 1) c :: .string letters :: fz 2 :: fz 3 :: fz 4 :: fz 5 :: fz 6 :: .string ⟨#[]⟩ :: fz 8 :: fz 9 :: fz 10 :: fz 11 :: fz 12 :: fz 13 :: fz 14 :: fz 15 :: fz 16 :: fz 17 :: fz 18 :: fz 19 :: fz 20 :: fz 21 :: fz 22 :: fz 23 :: fz 24 :: fz 25 :: fz 26 :: fz 27 :: fz 28 :: fz 29 :: fz 30 :: fz 31 :: fz 32 :: fz 33 :: fz 34 :: fz 35 :: fz 36 :: fz 37 :: fz 38 :: fz 39 :: fz 40 :: fz 41 :: fz 42 :: fz 43 :: fz 44 :: fz 45 :: fz 46 :: fz 47 :: fz 48 :: fz 49 :: fz 50 :: fz 51 :: fz 52 :: fz 53 :: fz 54 :: fz 55 :: fz 56 :: fz 57 :: fz 58 :: []), defers := [] }) (fun i => a'.tmps.toList.getD i undef)) : FlA w p c x l letters a' w := .inl ⟨fun i => a'.tmps.toList.getD i undef, h, rfl⟩
theorem FlA.two {w w' : World} {p : Option Addr} {c : Nat} {x y : ByteArray} {l : List ByteArray} {letters : ByteArray} {a' : Act} (hy : x.extract 1 x.size = y) (k : Keeps NoB w w')
 (h : (fun fz : Nat -> Value => a' = { tmps := List.toArray (.slice (subAt 1 p c 1) l.length (c - 1) :: .string letters :: fz 2 :: fz 3 :: fz 4 :: fz 5 :: fz 6 :: .string y :: fz 8 :: fz 9 :: fz 10 :: fz 11 :: fz 12 :: fz 13 :: fz 14 :: fz 15 :: fz 16 :: fz 17 :: fz 18 :: fz 19 :: fz 20 :: fz 21 :: fz 22 :: fz 23 :: fz 24 :: fz 25 :: fz 26 :: fz 27 :: fz 28 :: fz 29 :: fz 30 :: fz 31 :: fz 32 :: fz 33 :: fz 34 :: fz 35 :: fz 36 :: fz 37 :: fz 38 :: fz 39 :: fz 40 :: fz 41 :: fz 42 :: fz 43 :: fz 44 :: fz 45 :: fz 46 :: fz 47 :: fz 48 :: fz 49 :: fz 50 :: fz 51 :: fz 52 :: fz 53 :: fz 54 :: fz 55 :: fz 56 :: fz 57 :: fz 58 :: []), defers := [] }) (fun i => a'.tmps.toList.getD i undef)) : FlA w p c x l letters a' w' := .inr ⟨fun i => a'.tmps.toList.getD i undef, by subst hy; exact h, k⟩
def flMu (a' : Act) : Nat := match a'.tmps.getD 0 undef with
 | .slice _ n _ => n
 | _ => 0
theorem flags_one {x : ByteArray} {l : List ByteArray} (h : SlAt encStr S w p c (x :: l)) (letters : ByteArray) (hx2 : 2 <= x.size) (hx0 : x.data.toList[0]? = some 45) (hxd : ¬ x = ⟨#[45, 45]⟩) (hxs : x.size <= 1000)
 (hlt : ∀ b ∈ x.data.toList.drop 1, 0 <= bIdx letters b) (hl : ∀ y, l[0]? = some y -> noFlag y = true) :
 Calls Tryz.prog 65 #[.slice p (l.length + 1) c, .string letters] w fun e w' => e = .returned (.tuple #[.string (x.extract 1 x.size), .slice (subAt 1 p c 1) l.length (c - 1), .bool true]) ∧ Keeps NoB w w' := by
 have hcap := h.cap
 have hmax := h.max
 unfold maxLen at hmax
 rw [List.length_cons] at hcap
 have hsub := h.sub 1 (l.length + 1) (by omega) (by simp)
 rw [show ((x :: l).take (l.length + 1)).drop 1 = l by simp] at hsub
 have hsl1 : ∀ wx : World, (Instr.slice 34 (.slice p (l.length + 1) c) (some (.int .i64 1)) none none).run Tryz.prog wx = .ok (.slice (subAt 1 p c 1) l.length (c - 1)) wx := fun wx => run_slice_l (P := Tryz.prog) 34 9 1 Tryz.underlying34 (by kernel_rfl) p (l.length + 1) c 1 (by omega) wx (by omega)
 have hconv := fun wx => Lib.run_convert_string_bytes (P := Tryz.prog) wx 9 81 5 (x.extract 1 x.size) Tryz.underlying9 Tryz.underlying81 Tryz.underlying5
 have hxg : x.data.toList[0]? = some x[0] := by rw [List.getElem?_eq_getElem (by rw [len_data]; omega)]; rfl
 have h45 : ((x[0].toNat : Int) != 45) = false := by
  rw [hxg] at hx0
  rw [Option.some.inj hx0]; rfl
 have hdd : (x.toList == [45, 45]) = false := by
  have := toList_ne hxd
  rw [show (⟨#[45, 45]⟩ : ByteArray).toList = [45, 45] by rw [Lib.toList_data]] at this
  exact this
 have hys : (x.extract 1 x.size).size = x.size - 1 := by rw [ByteArray.size_extract]; omega
 have hyl := sub_list x 1
 rw [<- hyl] at hlt
 obtain ⟨y, hy⟩ : ∃ y, x.extract 1 x.size = y := ⟨_, rfl⟩
 rw [hy] at hys hconv hlt ⊢
 have hyz : y.size <= 1000 := by omega
 have HYS := Lib.hid hys
 clear hys
 have HY := Lib.hid hy
 have HSub := Lib.hid hsub
 have HLT := Lib.hid hlt
 have HL := Lib.hid hl
 have HC := Lib.hid hconv
 have HS1 := Lib.hid hsl1
 obtain ⟨g, o, rfl, _, _, c0⟩ := h.str (i := 0) (x := x) rfl
 have c1 : w.cell? ⟨g, o, none⟩ = some (.string x) := c0
 have C1 := Lib.hid c1
 have HI := Lib.hid fun (b : UInt8) (wx : World) => ib_any letters (b.toNat : Int) wx
 clear h hx0 hxg hxd hyl hlt hl hsub hconv hsl1 c0
 go_enter Tryz.func65, Tryz.ntmps65
 go_wp2
 refine wp_scope_goto 0 (FlA w (some ⟨g, o, none⟩) c x l letters) (fun a' _ => flMu a') rfl ?_ ?_
 ·intro HJ
  have HJ' := Lib.hid HJ
  clear HJ
  go_wp2
  go_step3
  go_step
  go_step
  refine HJ'.out _ _ ?_
  exact FlA.one rfl
 ·rintro a' w1 (⟨fz, rfl, hw⟩ | ⟨fz, rfl, hk⟩)
  ·obtain rfl : w = w1 := hw.symm
   have hconv := HC.out
   have q1 : ((l.length : Int) + 1 == 0) = false := by rw [beq_eq_false_iff_ne]; omega
   have q2 : decide ((x.size : Int) < 2) = false := by rw [decide_eq_false_iff_not]; omega
   have hl2 : y.data.toList.length = y.size := len_data y
   obtain ⟨hsl, hkc⟩ := conv_sl w y (by unfold maxLen; omega)
   have HSL := Lib.hid hsl
   have HK := Lib.hid hkc
   clear hsl hkc
   go_wp2_with fail
   clear hconv HC c1
   generalize grownCap w y.size 0 5 = cp at *
   generalize Lib.bytesWorld w 5 y = w2 at *
   have c1 := (HK.out.cell (p := ⟨g, o, none⟩) (by assumption) (fun h => h)).trans C1.out
   have hcp := HSL.out.cap
   rw [hl2] at hcp
   go_loop [42] (fun i => ∃ k : Nat, k <= y.size ∧ i = .int .i64 k) (fun i => y.size + 1 - (intOf i).toNat)
   case atStart => exact ⟨0, Nat.zero_le _, rfl⟩
   case round =>
    obtain ⟨k, hk, rfl⟩ := hrel
    by_cases hlt : k < y.size
    ·obtain ⟨b, hb⟩ : ∃ b, y.data.toList[k]? = some b := ⟨_, List.getElem?_eq_getElem (by rw [hl2]; exact hlt)⟩
     have t0 : w2.cell? ⟨w.heap.size, k, none⟩ = some (.int .u8 (b.toNat : Int)) := by
      obtain ⟨g, off, e, _, _, hcc⟩ := HSL.out.at hb
      cases e
      have := hcc 0 _ rfl
      simpa [encU8] using this
     have hbb := HLT.out b (List.mem_of_getElem? hb)
     have hI := Lib.hid (HI.out b)
     rw [show ((b.toNat : Int)).toNat.toUInt8 = b by simp] at hI
     have hneg : ¬ bIdx letters b < 0 := by omega
     clear hb hbb
     go_wp2_with (go_at_call 42; go_loud (refine (hI.out _).mono ?_); rintro e w3 ⟨rfl, rfl⟩)
     go_round
     case rel => exact ⟨k + 1, by omega, by go_num⟩
     case measure => simp [intOf]; omega
    ·obtain rfl : k = y.size := by omega
     have hsl1 := HS1.out
     have hE : (⟨#[]⟩ ++ y : ByteArray) = y := ba_eq (by simp)
     go_wp2_with fail
     go_step3
     refine ⟨rfl, FlA.two HY.out HK.out rfl, ?_⟩
     show l.length < l.length + 1
     omega
  ·have hcap2 := HSub.out.cap
   have hmax2 := HSub.out.max
   unfold maxLen at hmax2
   rw [HY.out]
   cases hl : l with
   | nil =>
     subst hl
     simp only [List.length_nil]
     go_wp2
     simp only [Exit.jump]
     go_ret3
     exact ⟨rfl, hk⟩
   | cons z l' =>
     subst hl
     obtain ⟨g2, o2, hs0, _, _, c0⟩ := (HSub.out.keepN hk).str (i := 0) (x := z) rfl
     have hs : subAt 1 (some ⟨g, o, none⟩) c 1 = some ⟨g2, o2, none⟩ := hs0
     rw [hs]
     rw [List.length_cons] at hcap2 ⊢
     have c2 : w1.cell? ⟨g2, o2, none⟩ = some (.string z) := c0
     have HK := Lib.hid hk
     have q1 : ((l'.length : Int) + 1 == 0) = false := by rw [beq_eq_false_iff_ne]; omega
     have HR := Lib.hid hs
     rcases noFlag_facts (HL.out z rfl) with h1 | ⟨h2, hb⟩
     ·have q2 : decide ((z.size : Int) < 2) = true := by rw [decide_eq_true_eq]; omega
      clear c0 hk hs hs0
      go_wp2
      simp only [Exit.jump]
      go_ret3
      refine ⟨?_, HK.out⟩
      rw [HR.out]
      rfl
     ·have q2 : decide ((z.size : Int) < 2) = false := by rw [decide_eq_false_iff_not]; omega
      clear c0 hk hs hs0
      go_wp2
      simp only [Exit.jump]
      go_ret3
      refine ⟨?_, HK.out⟩
      rw [HR.out]
      rfl
end
end Go.Proofs.YtimidmogcbapnaaGreatDoor
