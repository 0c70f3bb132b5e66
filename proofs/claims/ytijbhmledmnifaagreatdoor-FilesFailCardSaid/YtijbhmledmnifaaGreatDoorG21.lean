/-
 Layer 6's statements: what a step leaves of a side.
-/
import Derived.Test.YtijbhmledmnifaaGreatDoorG20
import Derived.Test.YtijbhmledmnifaaGreatDoorG16
import Derived.Test.YtijbhmledmnifaaGreatDoorG11

set_option linter.unusedSimpArgs false
set_option linter.unusedVariables false
set_option maxRecDepth 100000
set_option maxHeartbeats 4000000
namespace Go.Proofs.YtijbhmledmnifaaGreatDoor
open Go Go.RowKit
theorem okO_parts {o : OpS} (h : okO o = true) : (o.s.size : Int) <= 5000 ∧ (o.t.size : Int) <= 5000 ∧ 0 <= o.m ∧ o.m <= 4095 ∧ 0 <= o.n ∧ o.n <= 31 ∧ (o.k < 1000 ∨ 4194304 < o.k) := of_decide_eq_true h
theorem kput4x (w : World) (b : Nat) (v0 v1 v2 v3 : Value) : Keeps (fun g => g = b) w ((((w.setCell ⟨b, 3, none⟩ v0).setCell ⟨b, 4, none⟩ v1).setCell ⟨b, 5, none⟩ v2).setCell ⟨b, 6, none⟩ v3) :=
 ((((Keeps.refl (fun g => g = b) w).setCell (p := ⟨b, 3, none⟩) (.inl (show b = b from rfl)) v0).setCell (p := ⟨b, 4, none⟩) (.inl (show b = b from rfl)) v1).setCell (p := ⟨b, 5, none⟩) (.inl (show b = b from rfl)) v2).setCell (p := ⟨b, 6, none⟩) (.inl (show b = b from rfl)) v3
section
variable {B V : Nat -> Prop} {w w2 w4 w5 : World} {B0 F a : Nat} {d d' : Nds} {room calls calls' fail at' mask : Int} {p p5 : Option Addr} {c c5 k k' : Nat}
theorem Sd.endsV (h : Sd B w B0 F a p c d room calls fail at' mask k) (k2 : Keeps NoB w w2) (k4 : Keeps (fun g => ¬ (B g ∨ V g)) w2 w4) (k5 : Keeps NoB w4 w5)
  (hs : SD (fun g => B g ∨ V g) w5 F a d' room calls' fail p5 c5 d') (hnh : NH d') (hkk : KK d d') (hms : mass d' <= 2 + 4 * k') (hc0 : 0 <= calls') (hc1 : calls' <= 2 * k') :
  Sd (fun g => B g ∨ V g) ((((w5.setCell ⟨B0, 3, none⟩ (.slice p5 d'.length c5)).setCell ⟨B0, 4, none⟩ (.int .i64 room)).setCell ⟨B0, 5, none⟩ (.int .i64 calls')).setCell ⟨B0, 6, none⟩ (.int .i64 fail)) B0 F a p5 c5 d' room calls' fail at' mask k' ∧
   Keeps (fun g => ¬ B g ∨ g = B0) w ((((w5.setCell ⟨B0, 3, none⟩ (.slice p5 d'.length c5)).setCell ⟨B0, 4, none⟩ (.int .i64 room)).setCell ⟨B0, 5, none⟩ (.int .i64 calls')).setCell ⟨B0, 6, none⟩ (.int .i64 fail)) := by
 have kp := kput4x w5 B0 (.slice p5 d'.length c5) (.int .i64 room) (.int .i64 calls') (.int .i64 fail)
 have hb := ((h.bx.on k2).keep k4 (fun hn => hn (.inl h.nb))).on k5
 refine ⟨⟨hs.turn kp (fun g _ hg => .inl (by rw [hg]; exact h.nb)), .inl h.nb, (((hb.put 3 _).put 4 _).put 5 _).put 6 _, hnh, h.usr.kk hkk, h.m0, h.m1, hms, hc0, hc1⟩, ?_⟩
 exact ((k2.of_none.trans (k4.mono (fun g _ hg => .inl (fun hb => hg (.inl hb))))).trans k5.of_none).trans (kp.mono (fun g _ hg => .inr hg))
theorem Sd.ends (h : Sd B w B0 F a p c d room calls fail at' mask k) (k2 : Keeps NoB w w2) (k4 : Keeps (fun g => ¬ (B g ∨ V g)) w2 w4) (k5 : Keeps NoB w4 w5)
  (hs : SD (fun g => B g ∨ V g) w5 F a d' room calls' fail p5 c5 d') (hnh : NH d') (hkk : KK d d') (hms : mass d' <= 2 + 4 * k') (hc0 : 0 <= calls') (hc1 : calls' <= 2 * k') :
  Sd B ((((w5.setCell ⟨B0, 3, none⟩ (.slice p5 d'.length c5)).setCell ⟨B0, 4, none⟩ (.int .i64 room)).setCell ⟨B0, 5, none⟩ (.int .i64 calls')).setCell ⟨B0, 6, none⟩ (.int .i64 fail)) B0 F a p5 c5 d' room calls' fail at' mask k' ∧
   Keeps (fun g => ¬ B g ∨ g = B0) w ((((w5.setCell ⟨B0, 3, none⟩ (.slice p5 d'.length c5)).setCell ⟨B0, 4, none⟩ (.int .i64 room)).setCell ⟨B0, 5, none⟩ (.int .i64 calls')).setCell ⟨B0, 6, none⟩ (.int .i64 fail)) := by
 obtain ⟨h1, h2⟩ := h.endsV k2 k4 k5 hs hnh hkk hms hc0 hc1
 exact ⟨h1.less (fun g hg => .inl hg) h.nb, h2⟩
end
section
variable {N : Nat -> Prop} {w w' : World} {F a : Nat} {d d' : Nds} {room calls fail : Int}
theorem mkdir_any (h : FSt N w F a d room calls fail) (hc0 : 0 <= calls) (hc1 : calls <= 4611686018427387904) (hb : mass d + 3 <= 2147483648) (at' mask : Int) (s : ByteArray) (m : Int) (hsz : s.size <= 4294967280) :
  Calls Tryz.prog 44 #[.pointer (some ⟨F, 0, none⟩), .agg #[.int .i64 at', .int .i64 mask], .string s, .int .i64 m] w
   (FTo N w F a (orFail calls fail d (mkdirR d room at' mask s m)).1 room (calls + 1) fail (.int .i64 (orFail calls fail d (mkdirR d room at' mask s m)).2)) := by
 have kz0 : Keeps NoB w (w.alloc (.cells #[.int .i64 at', .int .i64 mask] 43)) := (Keeps.refl _ _).alloc _
 obtain ⟨N1, hsub, hnew, FS⟩ := h.wider kz0
 have HW := Lib.hid (Bx.new (Keeps.refl NoB (w.alloc (.cells #[.int .i64 at', .int .i64 mask] 43))))
 have HNW := Lib.hid (hnew w.heap.size (Nat.le_refl _) (by simp))
 have HK := Lib.hid (kz0.of_none (F := fun g => ¬ N g))
 have HSub := Lib.hid hsub
 clear hsub hnew h kz0
 have HC := Lib.hid (call_any FS hc0 hc1)
 obtain ⟨ce, hce⟩ : ∃ ce, callE calls fail = ce := ⟨_, rfl⟩
 obtain ⟨O, hO⟩ : ∃ O, orFail calls fail d (mkdirR d room at' mask s m) = O := ⟨_, rfl⟩
 have HOF := Lib.hid (show O = if ce ≠ 0 then (d, ce) else mkdirR d room at' mask s m by rw [<- hO]; unfold orFail; rw [hce])
 rw [hO]
 clear hO
 rw [hce] at HC
 clear hce FS hc0 hc1
 go_enter Tryz.func44, Tryz.ntmps44
 go_upto_region 1 with fail
 generalize w.alloc (.cells #[.int .i64 at', .int .i64 mask] 43) = w0 at *
 generalize w.heap.size = W at *
 go_upto_region 2 with (go_at_call 100; go_loud (refine HC.out.mono ?_); rintro e wc ⟨rfl, FS, k1⟩; replace HW := Lib.hid (HW.out.keep k1 (fun hh => hh HNW.out)); replace HK := Lib.hid (HK.out.trans (k1.mono (fun g _ hg hN => hg (HSub.out g hN)))))
 have HFS := Lib.hid FS
 clear HC k1 FS
 by_cases hz : ce ≠ 0
 ·have hb : (ce != 0) = true := by simpa using hz
  rw [if_pos hz] at HOF
  clear hz
  go_wp2_with fail
  go_ret
  exact ⟨ret_i64 (by rw [HOF.out]), (by rw [HOF.out]; exact HFS.out.less HSub.out), HK.out⟩
 rw [if_neg hz] at HOF
 obtain rfl : ce = 0 := Classical.not_not.1 hz
 clear hz
 have b0 := HW.out.cell 0 _ rfl
 have b1 := HW.out.cell 1 _ rfl
 have f0 := HFS.out.c0
 obtain ⟨X, hX⟩ : ∃ X, freeR d at' s true = X := ⟨_, rfl⟩
 have HFr := Lib.hid (free_any HFS.out at' mask s true hsz)
 have HQ := Lib.hid (show mkdirR d room at' mask s m = if X.2 ≠ 0 then (d, X.2) else madeR d room X.1 2 (freshM m mask) ⟨#[]⟩ by unfold mkdirR; rw [hX])
 rw [hX] at HFr
 obtain ⟨⟨node, dir, name⟩, fe⟩ := X
 unfold plcV at HFr
 simp only at HFr HQ
 have HX := Lib.hid hX
 clear hX hsz
 go_upto_region 5 with (go_at_call 101; go_loud (refine HFr.out.mono ?_); rintro e w2 ⟨rfl, k2⟩)
 have KP := Lib.hid (Bx.new (Keeps.refl NoB (w2.alloc (.cells #[.int .i64 node, .int .i64 dir, .string name] 143))))
 have k3 : Keeps NoB wc (w2.alloc (.cells #[.int .i64 node, .int .i64 dir, .string name] 143)) := k2.alloc _
 obtain ⟨N2, hsub, hnew, FS⟩ := HFS.out.wider k3
 have HNP := Lib.hid (hnew w2.heap.size k2.size (by simp))
 replace HW := Lib.hid (HW.out.on k3)
 replace HK := Lib.hid (HK.out.trans k3.of_none)
 replace HSub := Lib.hid (fun g hg => hsub g (HSub.out g hg))
 replace HNW := Lib.hid (hsub _ HNW.out)
 clear b0 b1 f0 HFr k2 k3 hsub hnew HFS
 generalize w2.alloc (.cells #[.int .i64 node, .int .i64 dir, .string name] 143) = w3 at *
 generalize w2.heap.size = PB at *
 have HFS := Lib.hid FS
 clear FS
 by_cases hz : fe ≠ 0
 ·have hb : (fe != 0) = true := by simpa using hz
  rw [HQ.out, if_pos hz] at HOF
  clear hz
  go_wp2_with fail
  go_ret
  exact ⟨ret_i64 (by rw [HOF.out]), (by rw [HOF.out]; exact HFS.out.less HSub.out), HK.out⟩
 rw [HQ.out, if_neg hz] at HOF
 obtain rfl : fe = 0 := Classical.not_not.1 hz
 clear hz
 have f0 := HFS.out.c0
 have b1 := HW.out.cell 1 _ rfl
 go_upto_region 7 with fail
 have HMk := Lib.hid ((HFS.out.on (Keeps.refl NoB w3).drew).prog2 fun R hR => makeD_any hR 2 (freshM m mask) ⟨#[]⟩ (by omega) (by decide))
 have hQ2 := Lib.hid (show madeR d room ⟨0, dir, name⟩ 2 (freshM m mask) ⟨#[]⟩ = madeR d room ⟨0, dir, name⟩ 2 (freshM m mask) ⟨#[]⟩ from rfl)
 go_cut [12, 11] from 11 to 39 (fun x y wx => x = .int .i64 (makeId d room 2 (freshM m mask) ⟨#[]⟩) ∧ y = .int .i64 (makeErr d room 2 (freshM m mask) ⟨#[]⟩) ∧ FSt N2 wx F a (makeTo d room 2 (freshM m mask) ⟨#[]⟩) room (calls + 1) fail ∧ Keeps (fun g => ¬ N2 g) w3 wx)
 case first =>
  generalize makeId d room 2 (freshM m mask) ⟨#[]⟩ = mi at *
  generalize makeErr d room 2 (freshM m mask) ⟨#[]⟩ = me at *
  generalize makeTo d room 2 (freshM m mask) ⟨#[]⟩ = mt at *
  have d0 := (HFS.out.on (Keeps.refl NoB w3).drew).c0
  have d1 := (HW.out.on (Keeps.refl NoB w3).drew).cell 1 _ rfl
  go_region_held3 (fun wz => wz.cell? ⟨F, 0, none⟩ = some (.pointer (some ⟨a, 0, none⟩)) ∧ wz.cell? ⟨W, 1, none⟩ = some (.int .i64 mask)) (refine ⟨?_, ?_⟩ <;> with_reducible assumption)
   (first | (go_at_call 103; refine (fresh_any _ _ _).mono ?_; rintro e wq ⟨rfl, rfl⟩) | (go_at_call 102; refine HMk.out.mono ?_; rintro e w4 ⟨rfl, FS4, k4⟩; have z0 := FS4.c0; have z1 := ((HW.out.on (Keeps.refl NoB w3).drew).keep k4 (fun hh => hh HNW.out)).cell 1 _ rfl))
  all_goals (go_wp2_with fail; go_meet; exact ⟨rfl, rfl, FS4, (Keeps.refl _ _).drew.trans k4⟩)
 case rest =>
  obtain ⟨rfl, rfl, FS, k4⟩ := hcut
  replace HK := Lib.hid (HK.out.trans (k4.mono (fun g _ hg hN => hg (HSub.out g hN))))
  have HP := Lib.hid (KP.out.keep k4 (fun hh => hh HNP.out))
  clear f0 b1 KP HW HFS HMk k4
  obtain ⟨me, hme⟩ : ∃ me, makeErr d room 2 (freshM m mask) ⟨#[]⟩ = me := ⟨_, rfl⟩
  by_cases hz : makeErr d room 2 (freshM m mask) ⟨#[]⟩ ≠ 0
  ·have ht : makeTo d room 2 (freshM m mask) ⟨#[]⟩ = d := by unfold makeTo; rw [if_neg hz]
   have HQ2 := Lib.hid (show O = (d, me) by rw [HOF.out]; unfold madeR; rw [if_pos hz, hme])
   rw [ht] at FS
   have HFS := Lib.hid FS
   rw [hme] at hz
   rw [hme]
   have hb : (me != 0) = true := by simpa using hz
   clear FS hme hz
   go_wp2_with fail
   go_ret
   exact ⟨ret_i64 (by rw [HQ2.out]), (by rw [HQ2.out]; exact HFS.out.less HSub.out), HK.out⟩
  have h0 : makeErr d room 2 (freshM m mask) ⟨#[]⟩ = 0 := Classical.not_not.1 hz
  obtain ⟨e1, e2⟩ := makeTo_ok h0
  obtain ⟨x1, x2, _⟩ := freeR_ok HX.out
  have HQ2 := Lib.hid (show O = entrR (d ++ [newNd 2 (freshM m mask) ⟨#[]⟩]) room ⟨node, dir, name⟩ d.length by rw [HOF.out]; unfold madeR; rw [if_neg hz])
  rw [e1] at FS
  rw [e2, h0]
  have HEn := Lib.hid (enter_anyF FS ⟨node, dir, name⟩ d.length (by rw [mass_made]; omega) (Nat.le_trans x2 (by decide)) (fun _ _ => made_above x1))
  rw [<- HQ2.out] at HEn
  unfold plcV at HEn
  simp only at HEn
  have p0 := HP.out.cell 0 _ rfl
  have p1 := HP.out.cell 1 _ rfl
  have p2 := HP.out.cell 2 _ rfl
  generalize (d.length : Int) = id at *
  clear FS hz h0 e1 e2 x1 x2 hme HQ HX HQ2 HP
  go_wp2_with (go_at_call 104; go_loud (refine HEn.out.mono ?_); rintro e w5 ⟨rfl, FS5, k5⟩)
  go_ret
  exact ⟨rfl, FS5.less HSub.out, HK.out.trans (k5.mono (fun g _ hg hN => hg (HSub.out g hN)))⟩
end
end Go.Proofs.YtijbhmledmnifaaGreatDoor
