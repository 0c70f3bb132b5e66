/-
 Layer 6: contracts of files: Symlink. (Printed by genfiles.py.)
-/
import Derived.Test.YtijbhmledmnifaaGreatDoorG18
import Derived.Test.YtijbhmledmnifaaGreatDoorG11
import Derived.Test.YtijbhmledmnifaaGreatDoorG08
import Derived.Test.YtijbhmledmnifaaGreatDoorG09
import Derived.Test.YtijbhmledmnifaaGreatDoorG15
import Derived.Deep.RegionHeld3
import Derived.StillTailTactics

set_option linter.unusedSimpArgs false
set_option linter.unusedVariables false
set_option maxRecDepth 100000
set_option maxHeartbeats 4000000
namespace Go.Proofs.YtijbhmledmnifaaGreatDoor
open Go Go.RowKit
section
variable {N : Nat -> Prop} {w w' : World} {F a : Nat} {d d' : Nds} {room calls fail : Int}
theorem sym_any (h : FSt N w F a d room calls fail) (hc0 : 0 <= calls) (hc1 : calls <= 4611686018427387904) (hbm : mass d + 3 <= 2147483648) (at' mask : Int) (t s : ByteArray) (hst : t.size <= 4294967280) (hsz : s.size <= 4294967280) :
  Calls Tryz.prog 49 #[.pointer (some ⟨F, 0, none⟩), .agg #[.int .i64 at', .int .i64 mask], .string t, .string s] w
   (FTo N w F a (orFail calls fail d (symR d room at' t s)).1 room (calls + 1) fail (.int .i64 (orFail calls fail d (symR d room at' t s)).2)) := by
 have kz0 : Keeps NoB w (w.alloc (.cells #[.int .i64 at', .int .i64 mask] 43)) := (Keeps.refl _ _).alloc _
 obtain ⟨N1, hsub, hnew, FS⟩ := h.wider kz0
 have HW := Lib.hid (Bx.new (Keeps.refl NoB (w.alloc (.cells #[.int .i64 at', .int .i64 mask] 43))))
 have HNW := Lib.hid (hnew w.heap.size (Nat.le_refl _) (by simp))
 have HK := Lib.hid (kz0.of_none (F := fun g => ¬ N g))
 have HSub := Lib.hid hsub
 clear hsub hnew h kz0
 have HC := Lib.hid (call_any FS hc0 hc1)
 obtain ⟨ce, hce⟩ : ∃ ce, callE calls fail = ce := ⟨_, rfl⟩
 obtain ⟨O, hO⟩ : ∃ O, orFail calls fail d (symR d room at' t s) = O := ⟨_, rfl⟩
 have HOF := Lib.hid (show O = if ce ≠ 0 then (d, ce) else symR d room at' t s by rw [<- hO]; unfold orFail; rw [hce])
 rw [hO]
 clear hO
 rw [hce] at HC
 clear hce FS hc0 hc1
 go_enter Tryz.func49, Tryz.ntmps49
 go_upto_region 1 with fail
 generalize w.alloc (.cells #[.int .i64 at', .int .i64 mask] 43) = w0 at *
 generalize w.heap.size = W at *
 go_upto_region 2 with (go_at_call 100; go_loud (refine HC.out.mono ?_); rintro e wc ⟨rfl, FS, k1⟩; replace HW := Lib.hid (HW.out.keep k1 (fun hh => hh HNW.out)); replace HK := Lib.hid (HK.out.trans (k1.mono (fun g _ hg hN => hg (HSub.out g hN)))))
 have HFS := Lib.hid FS
 clear HC k1 FS
 by_cases hz : ce ≠ 0
 ·have hb : (ce != 0) = true := by simpa using hz
  rw [if_pos hz] at HOF
  clear hz
  go_wp2_with fail
  go_ret
  exact ⟨ret_i64 (by rw [HOF.out]), (by rw [HOF.out]; exact HFS.out.less HSub.out), HK.out⟩
 rw [if_neg hz] at HOF
 obtain rfl : ce = 0 := Classical.not_not.1 hz
 clear hz
 unfold symR at HOF
 have he := isEmpty_eq t
 by_cases t0 : t = ⟨#[]⟩
 ·rw [decide_eq_true t0] at he
  replace HOF := Lib.hid (show O = (d, 12) by rw [HOF.out]; unfold pathErr; rw [if_pos t0, if_pos (by decide)])
  clear t0
  go_wp2_with fail
  go_ret
  exact ⟨ret_i64 (by rw [HOF.out]), (by rw [HOF.out]; exact HFS.out.less HSub.out), HK.out⟩
 rw [decide_eq_false t0] at he
 by_cases t1 : 4095 < t.size
 ·have hb : (4095 : Int) < (t.size : Int) := by omega
  replace HOF := Lib.hid (show O = (d, 18) by rw [HOF.out]; unfold pathErr; rw [if_neg t0, if_pos t1, if_pos (by decide)])
  clear t0 t1
  go_wp2_with fail
  go_ret
  exact ⟨ret_i64 (by rw [HOF.out]), (by rw [HOF.out]; exact HFS.out.less HSub.out), HK.out⟩
 have hb1 : ¬ (4095 : Int) < (t.size : Int) := by omega
 have HRi := Lib.hid (fun wx : World => pathright_any t wx)
 by_cases t2 : 0 <= bIdx t 0
 ·rw [decide_eq_false (by unfold pathErr; rw [if_neg t0, if_neg t1, if_pos t2]; decide : ¬ pathErr t = 0)] at HRi
  replace HOF := Lib.hid (show O = (d, 11) by rw [HOF.out]; unfold pathErr; rw [if_neg t0, if_neg t1, if_pos t2, if_pos (by decide)])
  clear t0 t1 t2
  go_wp2_with (go_at_call 111; refine (HRi.out _).mono ?_; rintro e w' ⟨rfl, rfl⟩)
  go_ret
  exact ⟨ret_i64 (by rw [HOF.out]), (by rw [HOF.out]; exact HFS.out.less HSub.out), HK.out⟩
 rw [decide_eq_true (by unfold pathErr; rw [if_neg t0, if_neg t1, if_neg t2] : pathErr t = 0)] at HRi
 have hpe : pathErr t = 0 := by unfold pathErr; rw [if_neg t0, if_neg t1, if_neg t2]
 rw [hpe, if_neg (by decide)] at HOF
 clear t0 t1 t2 hpe
 go_upto_region 10 with (go_at_call 111; refine (HRi.out _).mono ?_; rintro e w' ⟨rfl, rfl⟩)
 clear HRi
 have b0 := HW.out.cell 0 _ rfl
 have b1 := HW.out.cell 1 _ rfl
 have HFr := Lib.hid (free_any HFS.out at' mask s false hsz)
 obtain ⟨X, hX⟩ : ∃ X, freeR d at' s false = X := ⟨_, rfl⟩
 rw [hX] at HFr HOF
 obtain ⟨⟨pn, pd, pm⟩, pe⟩ := X
 unfold plcV at HFr
 simp only at HFr HOF
 have HXp := Lib.hid hX
 clear hX
 go_upto_region 11 with (go_at_call 101; go_loud (refine HFr.out.mono ?_); rintro e w2 ⟨rfl, k2⟩)
 have HP := Lib.hid (Bx.new (Keeps.refl NoB (w2.alloc (.cells #[.int .i64 pn, .int .i64 pd, .string pm] 143))))
 have hk1 : Keeps NoB wc (w2.alloc (.cells #[.int .i64 pn, .int .i64 pd, .string pm] 143)) := k2.alloc _
 clear b0 b1 HFr
 obtain ⟨N9, g1, g2, g3⟩ := HFS.out.wider hk1
 have HGU := Lib.hid (⟨N9, fun g hg => g1 g (HSub.out g hg), g2 w2.heap.size k2.size (by simp), g3⟩ : ∃ N2 : Nat -> Prop, (∀ g, N g -> N2 g) ∧ N2 w2.heap.size ∧ FSt N2 _ F a d room (calls + 1) fail)
 clear g1 g2 g3 k2
 replace HFS := Lib.hid (HFS.out.on hk1)
 replace HK := Lib.hid (HK.out.trans hk1.of_none)
 replace HW := Lib.hid (HW.out.on hk1)
 clear hk1
 generalize w2.alloc (.cells #[.int .i64 pn, .int .i64 pd, .string pm] 143) = wc at *
 generalize w2.heap.size = HPB at *
 by_cases hz : pe ≠ 0
 ·have hb : (pe != 0) = true := by simpa using hz
  rw [if_pos hz] at HOF
  clear hz
  go_wp2_with fail
  go_ret
  exact ⟨ret_i64 (by rw [HOF.out]), (by rw [HOF.out]; exact HFS.out.less HSub.out), HK.out⟩
 rw [if_neg hz] at HOF
 obtain rfl : pe = 0 := Classical.not_not.1 hz
 clear hz
 have f0 := HFS.out.c0
 obtain ⟨N2, hN12, hNP, FS2⟩ : ∃ N2 : Nat -> Prop, (∀ g, N g -> N2 g) ∧ N2 HPB ∧ FSt N2 wc F a d room (calls + 1) fail := by
  obtain ⟨N2, h1, h2, h3⟩ := HGU.out
  exact ⟨N2, h1, h2, h3⟩
 have HMk := Lib.hid (FS2.prog2 fun R hR => makeD_any hR 3 511 t (by omega) (Nat.le_trans hst (by decide)))
 replace HSub := Lib.hid hN12
 clear HFS HGU FS2 hN12
 obtain ⟨me, hme⟩ : ∃ me, makeErr d room 3 511 t = me := ⟨_, rfl⟩
 obtain ⟨mi, hmi⟩ : ∃ mi, makeId d room 3 511 t = mi := ⟨_, rfl⟩
 obtain ⟨mt, hmt⟩ : ∃ mt, makeTo d room 3 511 t = mt := ⟨_, rfl⟩
 rw [hme, hmi, hmt] at HMk
 go_upto_region 14 with (go_at_call 102; go_loud (refine HMk.out.mono ?_); rintro e w4 ⟨rfl, FS4, k4⟩)
 have HP4 := Lib.hid (HP.out.keep k4 (fun hh => hh hNP))
 replace HK := Lib.hid (HK.out.trans (k4.mono (fun g _ hg hN => hg (HSub.out g hN))))
 have HFS := Lib.hid FS4
 clear HMk FS4 k4 f0 HP HW
 by_cases hz : me ≠ 0
 ·have ht : mt = d := by rw [<- hmt]; unfold makeTo; rw [if_neg (by rw [hme]; exact hz)]
  subst ht
  replace HOF := Lib.hid (show O = (mt, me) by rw [HOF.out]; unfold madeR; rw [hme, if_pos hz])
  have hb : (me != 0) = true := by simpa using hz
  clear hz hme hmi hmt
  go_wp2_with fail
  go_ret
  exact ⟨ret_i64 (by rw [HOF.out]), (by rw [HOF.out]; exact HFS.out.less HSub.out), HK.out⟩
 obtain rfl : me = 0 := Classical.not_not.1 hz
 obtain ⟨e1, e2⟩ := makeTo_ok hme
 obtain ⟨x1, x2, _⟩ := freeR_ok HXp.out
 replace HOF := Lib.hid (show O = entrR (d ++ [newNd 3 511 t]) room ⟨pn, pd, pm⟩ d.length by rw [HOF.out]; unfold madeR; rw [hme, if_neg (by simp)])
 rw [<- hmt, e1] at HFS
 rw [<- hmi, e2]
 have HEn := Lib.hid (enter_anyF HFS.out ⟨pn, pd, pm⟩ d.length (by rw [mass_made]; omega) (Nat.le_trans x2 (by decide)) (fun _ _ => made_above x1))
 rw [<- HOF.out] at HEn
 unfold plcV at HEn
 simp only at HEn
 have p0 := HP4.out.cell 0 _ rfl
 have p1 := HP4.out.cell 1 _ rfl
 have p2 := HP4.out.cell 2 _ rfl
 generalize (d.length : Int) = id at *
 clear HFS hz e1 e2 x1 x2 hme hmi hmt HP4
 go_wp2_with (go_at_call 104; go_loud (refine HEn.out.mono ?_); rintro e w5 ⟨rfl, FS5, k5⟩)
 go_ret
 exact ⟨rfl, FS5.less HSub.out, HK.out.trans (k5.mono (fun g _ hg hN => hg (HSub.out g hN)))⟩
end
end Go.Proofs.YtijbhmledmnifaaGreatDoor
namespace Go.Proofs.YtijbhmledmnifaaGreatDoor
section
variable {d : Nds} {up : Int -> Int}
theorem lookOf_has (hI : DInv d) (i : Int) (x : ByteArray) : lookOf d i x = 0 ∨ has d (lookOf d i x) := by
 unfold lookOf
 split
 ·exact .inl rfl
 ·cases hg : entGet (nd d i).ents x with
  | none => exact .inl rfl
  | some k => exact .inr (hI.tgt i _ (entGet_mem hg)).1
theorem into_has {i : Int} (h : intoErr d i = 0) : has d i := by
 unfold intoErr at h
 split at h
 ·next h1 => exact absurd h h1
 ·next h1 => exact (folderErr_has (Classical.not_not.1 h1)).1
theorem stepR_has (hI : DInv d) (hup : ∀ i, up i = 0 ∨ has d (up i)) {at' : Int} {x : ByteArray} {fl : Bool} {n : Nat} (h : (stepR d up at' x fl n).e = 0) :
  (stepR d up at' x fl n).p.node = 0 ∨ has d (stepR d up at' x fl n).p.node := by
 unfold stepR at h ⊢
 by_cases h1 : intoErr d at' ≠ 0
 ·rw [if_pos h1] at h; exact absurd h h1
 rw [if_neg h1] at h ⊢
 have h1' := into_has (Classical.not_not.1 h1)
 split
 ·exact .inr h1'
 ·split
  ·exact hup at'
  ·split
   ·exact .inl rfl
   ·split
    ·exact lookOf_has hI _ _
    ·split
     ·exact lookOf_has hI _ _
     ·split
      ·exact .inl rfl
      ·exact lookOf_has hI _ _
theorem scan_has (hI : DInv d) (hup : ∀ i, up i = 0 ∨ has d (up i)) {slash follow : Bool} {q : Plc} : ∀ (l : List ByteArray) (at' : Int) (n : Nat) (p : Plc), (p.node = 0 ∨ has d p.node) -> scan d up slash follow l at' n p = .fin q -> q.node = 0 ∨ has d q.node
 | [], _, _, p, hp, h => by
  rw [scan] at h
  cases h; exact hp
 | x :: r, at', n, p, _, h => by
  rw [scan] at h
  by_cases h1 : (stepR d up at' x (!r.isEmpty || slash || follow) n).e ≠ 0
  ·rw [if_pos h1] at h; cases h
  rw [if_neg h1] at h
  split at h
  ·cases h
  ·split at h
   ·cases h
   ·exact scan_has hI hup r _ _ _ (stepR_has hI hup (Classical.not_not.1 h1)) h
theorem find_has (hI : DInv d) (hup : ∀ i, up i = 0 ∨ has d (up i)) {follow : Bool} : ∀ (fuel : Nat) (i : Int) (s : ByteArray) (n : Nat), (findR d up follow fuel i s n).2 = 0 -> (findR d up follow fuel i s n).1.node = 0 ∨ has d (findR d up follow fuel i s n).1.node
 | 0, _, _, _, h => by rw [findR] at h; cases h
 | fuel + 1, i, s, n, h => by
  rw [findR] at h ⊢
  by_cases h1 : pathErr s ≠ 0
  ·rw [if_pos h1] at h; exact absurd h h1
  rw [if_neg h1] at h ⊢
  by_cases h2 : prts s = []
  ·rw [if_pos h2] at h ⊢
   exact .inr (into_has h)
  rw [if_neg h2] at h ⊢
  rw [scan_p h2 _ (.no)] at h ⊢
  cases hs : scan d up (endS s) follow (prts s) (if absB s then 1 else i) n .no with
  | fin p =>
   rw [hs] at h
   have hp := scan_has hI hup _ _ _ _ (.inl rfl) hs
   show (endR d p (endS s)).1.node = 0 ∨ has d (endR d p (endS s)).1.node
   unfold endR
   split
   ·exact hp
   ·split
    ·exact .inl rfl
    ·exact hp
  | err e => exact .inl rfl
  | again at' s' n' =>
   rw [hs] at h
   exact find_has hI hup fuel _ _ _ h
theorem upC_has (hI : DInv d) (i : Int) : upC d i = 0 ∨ has d (upC d i) := by
 by_cases h1 : i = 1
 ·subst h1
  right
  rw [show upC d 1 = 1 by unfold upC; rw [if_pos rfl]]
  unfold has
  rw [hI.root]; decide
 unfold upC
 rw [if_neg h1]
 split
 ·next h =>
  right
  obtain ⟨_, e, he, _⟩ := Classical.choose_spec h
  intro h0
  have := (hI.node (Classical.choose h)).gone h0
  rw [this] at he
  cases he
 ·exact .inl rfl
theorem thr_has (hI : DInv d) {at' : Int} {s : ByteArray} {follow : Bool} (h : (thrR d at' s follow).2 = 0) : has d (thrR d at' s follow).1.node := by
 unfold thrR thereR at h ⊢
 by_cases h1 : (fndR d at' s follow).2 ≠ 0
 ·rw [if_pos h1] at h; exact absurd h h1
 rw [if_neg h1] at h ⊢
 by_cases h2 : (fndR d at' s follow).1.node = 0
 ·rw [if_pos h2] at h; cases h
 rw [if_neg h2]
 exact (find_has hI (upC_has hI) 41 at' s 0 (Classical.not_not.1 h1)).resolve_left h2
end
section
variable {d : Nds} {at' : Int} {s : ByteArray} {folder : Bool} {P : Plc} {e room : Int}
theorem rem_err (h : thrR d at' s false = (P, e)) (he : e ≠ 0) : remR d at' s folder = (d, e) := by
 have hg : goneR d at' s folder = (.no, e) := by unfold goneR; rw [h]; exact if_pos he
 unfold remR; rw [hg]; exact if_pos he
theorem rem_14 (h : thrR d at' s false = (P, 0)) (hf : folder = true) (hk : ¬ (nd d P.node).kind = 2) : remR d at' s folder = (d, 14) := by
 have hg : goneR d at' s folder = (.no, 14) := by
  unfold goneR; rw [h]
  exact (if_neg (show ¬ (0 : Int) ≠ 0 by simp)).trans (if_pos ⟨hf, hk⟩)
 unfold remR; rw [hg]; exact if_pos (by decide)
theorem rem_15 (h : thrR d at' s false = (P, 0)) (hf : folder = false) (hk : (nd d P.node).kind = 2) : remR d at' s folder = (d, 15) := by
 have hg : goneR d at' s folder = (.no, 15) := by
  unfold goneR; rw [h]
  exact (if_neg (show ¬ (0 : Int) ≠ 0 by simp)).trans ((if_neg (fun x => by rw [hf] at x; cases x.1)).trans (if_pos ⟨hf, hk⟩))
 unfold remR; rw [hg]; exact if_pos (by decide)
theorem gone_ok (h : thrR d at' s false = (P, 0)) (hk : (folder = true ∧ (nd d P.node).kind = 2) ∨ (folder = false ∧ ¬ (nd d P.node).kind = 2)) : goneR d at' s folder = if P.name = ⟨#[]⟩ then (.no, 23) else (P, mayE d P.dir 128) := by
 unfold goneR; rw [h]
 refine (if_neg (show ¬ (0 : Int) ≠ 0 by simp)).trans ((if_neg (fun x => ?_)).trans ((if_neg (fun x => ?_)).trans rfl))
 ·rcases hk with ⟨_, k⟩ | ⟨k, _⟩
  ·exact x.2 k
  ·rw [k] at x; cases x.1
 ·rcases hk with ⟨k, _⟩ | ⟨_, k⟩
  ·rw [k] at x; cases x.1
  ·exact k x.2
theorem rem_23 (h : thrR d at' s false = (P, 0)) (hk : (folder = true ∧ (nd d P.node).kind = 2) ∨ (folder = false ∧ ¬ (nd d P.node).kind = 2)) (hn : P.name = ⟨#[]⟩) : remR d at' s folder = (d, 23) := by
 unfold remR; rw [gone_ok h hk, if_pos hn]; exact if_pos (by decide)
theorem rem_rest (h : thrR d at' s false = (P, 0)) (hk : (folder = true ∧ (nd d P.node).kind = 2) ∨ (folder = false ∧ ¬ (nd d P.node).kind = 2)) (hn : ¬ P.name = ⟨#[]⟩) :
  remR d at' s folder = if mayE d P.dir 128 ≠ 0 then (d, mayE d P.dir 128) else (leaveTo d P.dir P.name, leaveErr d P.dir P.name) := by
 unfold remR; rw [gone_ok h hk, if_neg hn]
end
end Go.Proofs.YtijbhmledmnifaaGreatDoor
set_option maxHeartbeats 8000000
namespace Go.Proofs.YtijbhmledmnifaaGreatDoor
open Go Go.RowKit
section
variable {S : Nat -> Prop} {w : World} {p : Option Addr} {c : Nat} {d : Nds} {room calls fail : Int}
theorem r6symlink_any (H : R6 S w p c d calls) (at' mask : Int) (t s : ByteArray) (hss : s.size <= 4294967280) (hst : t.size <= 4294967280) :
  Calls Tryz.prog 50 #[fV p c d.length room calls fail, .agg #[.int .i64 at', .int .i64 mask], .string t, .string s] w (F6To S w (orFail calls fail d (symR d room at' t s)) room (calls + 1) fail) := by
 have HH := Lib.hid H
 have HCa := Lib.hid (r6call_any p c d.length room calls fail H.c0 H.c1)
 unfold fV at *
 obtain ⟨X, hX⟩ : ∃ X, orFail calls fail d (symR d room at' t s) = X := ⟨_, rfl⟩
 rw [hX]
 replace hX := Lib.hid hX
 clear H
 go_enter Tryz.func50, Tryz.ntmps50
 go_upto_region 1 with fail
 have HF := Lib.hid (F6.new w (.slice p d.length c) room calls fail #[.int .i64 at', .int .i64 mask] #[.slice none 0 0, .int .i64 0, .int .i64 0, .int .i64 0] 37 46 37)
 generalize ((w.alloc (.cells #[.slice p d.length c, .int .i64 room, .int .i64 calls, .int .i64 fail] 37)).alloc (.cells #[.int .i64 at', .int .i64 mask] 46)).alloc (.cells #[.slice none 0 0, .int .i64 0, .int .i64 0, .int .i64 0] 37) = w0 at *
 obtain ⟨f0, f1, f2, f3, u0, u1, rz0, rz1, rz2, rz3, fl0, fl2, ff0, ff2⟩ := HF.out.all
 by_cases hcf : calls = fail
 case pos =>
  have hx : X = (d, 21) := hX.out.symm.trans (by unfold orFail callE; rw [if_pos hcf, if_pos (by decide)])
  subst hx
  rw [if_pos hcf] at HCa
  clear hX hcf
  go_upto_region 2 with (go_at_call 105; go_loud (refine (HCa.out _).mono ?_); rintro e w1 ⟨rfl, hkn⟩; (clear f0 f1 f2 f3 u0 u1 rz0 rz1 rz2 rz3 fl0 fl2 ff0 ff2; replace HF := Lib.hid (HF.out.on hkn); obtain ⟨f0, f1, f2, f3, u0, u1, rz0, rz1, rz2, rz3, fl0, fl2, ff0, ff2⟩ := HF.out.all))
  replace HF := Lib.hid (HF.out.setF (.slice p d.length c) room (calls + 1) fail)
  clear f0 f1 f2 f3 u0 u1 rz0 rz1 rz2 rz3 fl0 fl2 ff0 ff2
  clear hkn
  generalize (((w1.setCell ⟨w.heap.size, 0, none⟩ (.slice p d.length c)).setCell ⟨w.heap.size, 1, none⟩ (.int .i64 room)).setCell ⟨w.heap.size, 2, none⟩ (.int .i64 (calls + 1))).setCell ⟨w.heap.size, 3, none⟩ (.int .i64 fail) = w2 at *
  obtain ⟨f0, f1, f2, f3, u0, u1, rz0, rz1, rz2, rz3, fl0, fl2, ff0, ff2⟩ := HF.out.all
  go_wp2_with fail
  refine bodyPost_ret (v := .tuple #[.agg #[.slice p d.length c, .int .i64 room, .int .i64 (calls + 1), .int .i64 fail], .int .i64 21]) ?_ rfl ⟨p, c, rfl, HH.out.rows.keepN (HF.out.fin _ _ _ _), HF.out.fin _ _ _ _⟩
  rw [rcell_tmp rfl]
  go_simp
 case neg =>
 have hX2 : X = symR d room at' t s := hX.out.symm.trans (by unfold orFail callE; rw [if_neg hcf, if_neg (by decide)])
 rw [if_neg hcf] at HCa
 replace hX := Lib.hid hX2
 clear hcf hX2
 go_upto_region 2 with (go_at_call 105; go_loud (refine (HCa.out _).mono ?_); rintro e w1 ⟨rfl, hkn⟩; (clear f0 f1 f2 f3 u0 u1 rz0 rz1 rz2 rz3 fl0 fl2 ff0 ff2; replace HF := Lib.hid (HF.out.on hkn); obtain ⟨f0, f1, f2, f3, u0, u1, rz0, rz1, rz2, rz3, fl0, fl2, ff0, ff2⟩ := HF.out.all))
 replace HF := Lib.hid (HF.out.setF (.slice p d.length c) room (calls + 1) fail)
 clear f0 f1 f2 f3 u0 u1 rz0 rz1 rz2 rz3 fl0 fl2 ff0 ff2
 clear hkn HCa
 generalize (((w1.setCell ⟨w.heap.size, 0, none⟩ (.slice p d.length c)).setCell ⟨w.heap.size, 1, none⟩ (.int .i64 room)).setCell ⟨w.heap.size, 2, none⟩ (.int .i64 (calls + 1))).setCell ⟨w.heap.size, 3, none⟩ (.int .i64 fail) = w2 at *
 have HR := Lib.hid (HH.out.rows.first (L := [w.heap.size, w.heap.size + 1, w.heap.size + 1 + 1]) HF.out.k (by simp; omega))
 unfold symR at hX
 obtain ⟨f0, f1, f2, f3, u0, u1, rz0, rz1, rz2, rz3, fl0, fl2, ff0, ff2⟩ := HF.out.all
 by_cases h12 : t.size = 0
 case pos =>
  have he : t.toList.isEmpty = true := by rw [emp_dec]; simp [h12]
  have hpe : pathErr t = 12 := if_pos (ByteArray.ext (Array.eq_empty_of_size_eq_zero h12))
  obtain rfl : X = (d, 12) := hX.out.trans (by rw [hpe]; exact if_pos (by decide))
  clear hX hpe h12
  go_wp2_with fail
  refine bodyPost_ret (v := .tuple #[.agg #[.slice p d.length c, .int .i64 room, .int .i64 (calls + 1), .int .i64 fail], .int .i64 12]) ?_ rfl ⟨p, c, rfl, HH.out.rows.keepN (HF.out.fin _ _ _ _), HF.out.fin _ _ _ _⟩
  rw [rcell_tmp rfl]
  go_simp
 case neg =>
 have he : t.toList.isEmpty = false := by rw [emp_dec]; simp [h12]
 have hte : ¬ t = ⟨#[]⟩ := fun e => h12 (by rw [e]; rfl)
 by_cases h18 : 4095 < t.size
 case pos =>
  have h18' : (4095 : Int) < (t.size : Int) := by omega
  have hpe : pathErr t = 18 := by unfold pathErr; rw [if_neg hte, if_pos h18]
  obtain rfl : X = (d, 18) := hX.out.trans (by rw [hpe]; exact if_pos (by decide))
  clear hX hpe h12 hte
  go_wp2_with fail
  refine bodyPost_ret (v := .tuple #[.agg #[.slice p d.length c, .int .i64 room, .int .i64 (calls + 1), .int .i64 fail], .int .i64 18]) ?_ rfl ⟨p, c, rfl, HH.out.rows.keepN (HF.out.fin _ _ _ _), HF.out.fin _ _ _ _⟩
  rw [rcell_tmp rfl]
  go_simp
 case neg =>
 have h18' : ¬ (4095 : Int) < (t.size : Int) := by omega
 have HPe : Hid (pathErr t = if 0 <= bIdx t 0 then 11 else 0) := Lib.hid (by unfold pathErr; rw [if_neg hte, if_neg h18])
 go_upto_region 9 with fail
 go_loopw [11] (fun i wr => ∃ j : Nat, j <= t.size ∧ i = .int .i64 j ∧ (∀ (i : Nat) (hi : i < t.size), i < j -> ¬ t[i] = 0) ∧ wr = w2) (fun i _ => t.size + 1 - (intOf i).toNat)
 case atStart => exact ⟨0, Nat.zero_le _, rfl, fun i _ h => by omega, rfl⟩
 case round =>
  obtain ⟨j, hj, rfl, hno, hwr2⟩ := hrel
  obtain rfl : w2 = wr := hwr2.symm
  have HNo := Lib.hid hno
  clear hno
  by_cases hlt : j < t.size
  case pos =>
   have hlz : (j : Int) < (t.size : Int) := by omega
   have hbe := byte_eq (t[j]'hlt) 0 (by decide) (by decide)
   rw [show (0 : Int).toNat.toUInt8 = 0 from rfl] at hbe
   obtain ⟨ch, hch⟩ : ∃ ch, t[j]'hlt = ch := ⟨_, rfl⟩
   rw [hch] at hbe
   by_cases hc0 : ch = 0
   case pos =>
    have hpe : pathErr t = 11 := by
     rw [HPe.out, if_pos]
     have h1 := bIdx_neg t 0
     have h2 := (hasB_iff t 0).2 ⟨j, hlt, hch.trans hc0⟩
     have h3 : ¬ bIdx t 0 < 0 := fun h => by rw [h1.1 h] at h2; cases h2
     omega
    obtain rfl : X = (d, 11) := hX.out.trans (by rw [hpe]; exact if_pos (by decide))
    rw [decide_eq_true hc0] at hbe
    clear hX hpe h12 hte HPe hc0
    go_wp2_with fail
    refine bodyPost_ret (v := .tuple #[.agg #[.slice p d.length c, .int .i64 room, .int .i64 (calls + 1), .int .i64 fail], .int .i64 11]) ?_ rfl ⟨p, c, rfl, HH.out.rows.keepN (HF.out.fin _ _ _ _), HF.out.fin _ _ _ _⟩
    rw [rcell_tmp rfl]
    go_simp
   case neg =>
    have HN2 : Hid (∀ (i : Nat) (hi : i < t.size), i < j + 1 -> ¬ t[i] = 0) := Lib.hid fun i hi hlt2 => by
     by_cases e : i = j
     ·subst e; rw [hch]; exact hc0
     ·exact HNo.out i hi (by omega)
    rw [decide_eq_false hc0] at hbe
    clear hc0 HNo
    go_wp2_with fail
    exact ⟨⟨j + 1, by omega, rfl, HN2.out, trivial⟩, by simp [intOf]; omega⟩
  case neg =>
   have hlz : ¬ (j : Int) < (t.size : Int) := by omega
   have hpe : pathErr t = 0 := by
    rw [HPe.out, if_neg]
    intro h
    have h1 := bIdx_neg t 0
    have h2 : ¬ hasB t 0 = false := fun e => by have := h1.2 e; omega
    obtain ⟨i, hi, hz⟩ := (hasB_iff t 0).1 (by simpa using h2)
    exact HNo.out i hi (by omega) hz
   rw [hpe] at hX
   replace hX := Lib.hid (hX.out.trans (if_neg (by simp)))
   clear hpe HNo HPe hte h12
   clear f0 f1 f2 f3 u0 u1 rz0 rz1 rz2 rz3 fl0 fl2 ff0 ff2
   have HFr := Lib.hid (fun (wx : World) (k : Keeps NoB w2 wx) => r6fresh_any (room := room) (fail := fail) (calls' := calls + 1) HH.out (HR.out.keepN k) at' mask s false hss)
   have hfo := fun he : (freeR d at' s false).2 = 0 => freeR_ok (d := d) (at' := at') (s := s) (slash := false) (p := (freeR d at' s false).1) (by rw [<- he])
   obtain ⟨Z, hZ⟩ : ∃ Z, freeR d at' s false = Z := ⟨_, rfl⟩
   rw [hZ] at HFr hX hfo
   clear hZ
   obtain ⟨⟨yn, yd, ym⟩, ye⟩ := Z
   unfold FrTo fV at HFr
   simp only at HFr hfo
   obtain ⟨f0, f1, f2, f3, u0, u1, rz0, rz1, rz2, rz3, fl0, fl2, ff0, ff2⟩ := HF.out.all
   go_upto_region 14 with (go_at_call 106; go_loud (refine (HFr.out _ (Keeps.refl _ _)).mono ?_); rintro e w3 ⟨⟨qn, qd, qm⟩, rfl, hq, hkn⟩; (clear f0 f1 f2 f3 u0 u1 rz0 rz1 rz2 rz3 fl0 fl2 ff0 ff2; replace HF := Lib.hid (HF.out.on hkn); obtain ⟨f0, f1, f2, f3, u0, u1, rz0, rz1, rz2, rz3, fl0, fl2, ff0, ff2⟩ := HF.out.all))
   replace hq := Lib.hid hq
   have hpbPB : w.heap.size + 3 <= w3.heap.size := by omega
   have HPB := Lib.hid (Bk.new (Keeps.refl NoB (w3.alloc (.cells #[.int .i64 qn, .int .i64 qd, .string qm] 129))))
   replace HF := Lib.hid (HF.out.on ((Keeps.refl NoB w3).alloc (.cells #[.int .i64 qn, .int .i64 qd, .string qm] 129)))
   replace HR := Lib.hid ((HR.out.keepN hkn).keepN ((Keeps.refl NoB w3).alloc (.cells #[.int .i64 qn, .int .i64 qd, .string qm] 129)))
   clear HFr
   clear f0 f1 f2 f3 u0 u1 rz0 rz1 rz2 rz3 fl0 fl2 ff0 ff2
   clear hkn
   generalize w3.alloc (.cells #[.int .i64 qn, .int .i64 qd, .string qm] 129) = w4 at *
   generalize w3.heap.size = PB at *
   obtain ⟨f0, f1, f2, f3, u0, u1, rz0, rz1, rz2, rz3, fl0, fl2, ff0, ff2⟩ := HF.out.all
   by_cases hye : ye = 0
   case neg =>
    have hb : (ye != 0) = true := by simpa using hye
    obtain rfl : X = (d, ye) := hX.out.trans (if_pos hye)
    clear hX hye
    go_wp2_with fail
    refine bodyPost_ret (v := .tuple #[.agg #[.slice p d.length c, .int .i64 room, .int .i64 (calls + 1), .int .i64 fail], .int .i64 ye]) ?_ rfl ⟨p, c, rfl, HH.out.rows.keepN (HF.out.fin _ _ _ _), HF.out.fin _ _ _ _⟩
    rw [rcell_tmp rfl]
    go_simp
   case pos =>
    subst hye
    have hx2 := hX.out.trans (if_neg (by simp))
    have hqq := hq.out rfl
    cases hqq
    obtain ⟨o1, o2, o3, o4, o5⟩ := hfo rfl
    have o3' : yn = 0 := o3
    clear o3 o4 o5
    subst o3'
    have hne : yd ≠ d.length := fun e => by
     have := has_range o1
     omega
    have HMd : Hid (∀ wx, Keeps NoB w4 wx -> Calls Tryz.prog 107 #[fV p c d.length room (calls + 1) fail, .agg #[.int .i64 0, .int .i64 yd, .string ym], .int .i64 3, .int .i64 511, .string t] wx (F6To (NI S [w.heap.size, w.heap.size + 1, w.heap.size + 1 + 1]) wx X room (calls + 1) fail)) := Lib.hid fun wx k => by
     rw [hx2]
     exact r6made_any (HR.out.keepN k) (NI.new HH.out.all (HF.out.k.trans k) (by have := HF.out.b2.lt; have := k.size; simp; omega)) HH.out.inv HH.out.clean (by have := HH.out.ms; omega) ⟨0, yd, ym⟩ hne o2 3 511 t (by omega)
    unfold F6To fV at HMd
    clear hX hq hfo hx2 o1 o2 hne
    have p0 := HPB.out.cell 0 _ rfl
    have p1 := HPB.out.cell 1 _ rfl
    have p2 := HPB.out.cell 2 _ rfl
    go_wp2_with (go_at_call 107; go_loud (refine (HMd.out _ (Keeps.refl _ _)).mono ?_); rintro e w5 ⟨p3, c3, rfl, hr5, hkn⟩; (clear f0 f1 f2 f3 u0 u1 rz0 rz1 rz2 rz3 fl0 fl2 ff0 ff2; replace HF := Lib.hid (HF.out.on hkn); obtain ⟨f0, f1, f2, f3, u0, u1, rz0, rz1, rz2, rz3, fl0, fl2, ff0, ff2⟩ := HF.out.all))
    refine bodyPost_ret (v := .tuple #[.agg #[.slice p3 X.1.length c3, .int .i64 room, .int .i64 (calls + 1), .int .i64 fail], .int .i64 X.2]) ?_ rfl ⟨p3, c3, rfl, (hr5.put (kput4 w5 (w.heap.size + 1 + 1) _ _ _ _) (by simp)).drop, HF.out.fin _ _ _ _⟩
    rw [rcell_tmp rfl]
    go_simp
end
end Go.Proofs.YtijbhmledmnifaaGreatDoor
