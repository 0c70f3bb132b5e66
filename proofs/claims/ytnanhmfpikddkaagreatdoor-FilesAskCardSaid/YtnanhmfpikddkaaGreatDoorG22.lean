/-
  Layer 6's statements: what a step leaves of a side.
-/
import Derived.Test.YtnanhmfpikddkaaGreatDoorG21
import Derived.Test.YtnanhmfpikddkaaGreatDoorG16
import Derived.Test.YtnanhmfpikddkaaGreatDoorG11

set_option linter.unusedSimpArgs false
set_option linter.unusedVariables false
set_option maxRecDepth 100000
set_option maxHeartbeats 4000000
namespace Go.Proofs.YtnanhmfpikddkaaGreatDoor
open Go Go.RowKit
theorem rz {o:jE} (h:okO o=true):(o.s.size:Int)<=5000∧(o.t.size:Int)<=5000∧0<=o.m∧o.m<=4095∧0<=o.n∧o.n<=31∧(o.k<1000∨4194304<o.k):=of_decide_eq_true h
theorem wL (w:World) (b:Nat) (v0 v1 v2 v3:Value):aa (fun g=>g=b) w ((((w.setCell ⟨b,3,none⟩ v0).setCell ⟨b,4,none⟩ v1).setCell ⟨b,5,none⟩ v2).setCell ⟨b,6,none⟩ v3) :=
 ((((aa.refl (fun g=>g=b) w).setCell (p:=⟨b,3,none⟩) (.inl (show b=b from rfl)) v0).setCell (p:=⟨b,4,none⟩) (.inl (show b=b from rfl)) v1).setCell (p:=⟨b,5,none⟩) (.inl (show b=b from rfl)) v2).setCell (p:=⟨b,6,none⟩) (.inl (show b=b from rfl)) v3
section
variable{B V:Nat->Prop} {w w2 w4 w5:World} {B0 F a:Nat} {d d':ag} {room calls calls' fail at' mask:Int} {p p5:Option Addr} {c c5 k k':Nat}
theorem Sd.Jy (h:Sd B w B0 F a p c d room calls fail at' mask k) (k2:aa af w w2) (k4:aa (fun g=>¬(B g∨V g)) w2 w4) (k5:aa af w4 w5)
 (hs:SD (fun g=>B g∨V g) w5 F a d' room calls' fail p5 c5 d') (ke:NH d') (hkk:KK d d') (hms:aH d'<=2+4*k') (hc0:0<=calls') (hc1:calls'<=2*k') :
 Sd (fun g=>B g∨V g) ((((w5.setCell ⟨B0,3,none⟩ (.slice p5 d'.length c5)).setCell ⟨B0,4,none⟩ (.int .i64 room)).setCell ⟨B0,5,none⟩ (.int .i64 calls')).setCell ⟨B0,6,none⟩ (.int .i64 fail)) B0 F a p5 c5 d' room calls' fail at' mask k' ∧
  aa (fun g=>¬B g∨g=B0) w ((((w5.setCell ⟨B0,3,none⟩ (.slice p5 d'.length c5)).setCell ⟨B0,4,none⟩ (.int .i64 room)).setCell ⟨B0,5,none⟩ (.int .i64 calls')).setCell ⟨B0,6,none⟩ (.int .i64 fail)):=by
 have kp:=wL w5 B0 (.slice p5 d'.length c5) (.int .i64 room) (.int .i64 calls') (.int .i64 fail)
 have hb:=((h.bx.on k2).keep k4 (fun hn=>hn (.inl h.nb))).on k5
 refine⟨⟨hs.turn kp (fun g _ hg=>.inl (by rw[hg];exact h.nb)),.inl h.nb,(((hb.put 3 _).put 4 _).put 5 _).put 6 _,ke,h.usr.kk hkk,h.m0,h.m1,hms,hc0,hc1⟩,?_⟩
 exact((k2.bC.trans (k4.mono (fun g _ hg=>.inl (fun hb=>hg (.inl hb))))).trans k5.bC).trans (kp.mono (fun g _ hg=>.inr hg))
theorem Sd.ends (h:Sd B w B0 F a p c d room calls fail at' mask k) (k2:aa af w w2) (k4:aa (fun g=>¬(B g∨V g)) w2 w4) (k5:aa af w4 w5)
 (hs:SD (fun g=>B g∨V g) w5 F a d' room calls' fail p5 c5 d') (ke:NH d') (hkk:KK d d') (hms:aH d'<=2+4*k') (hc0:0<=calls') (hc1:calls'<=2*k') :
 Sd B ((((w5.setCell ⟨B0,3,none⟩ (.slice p5 d'.length c5)).setCell ⟨B0,4,none⟩ (.int .i64 room)).setCell ⟨B0,5,none⟩ (.int .i64 calls')).setCell ⟨B0,6,none⟩ (.int .i64 fail)) B0 F a p5 c5 d' room calls' fail at' mask k' ∧
  aa (fun g=>¬B g∨g=B0) w ((((w5.setCell ⟨B0,3,none⟩ (.slice p5 d'.length c5)).setCell ⟨B0,4,none⟩ (.int .i64 room)).setCell ⟨B0,5,none⟩ (.int .i64 calls')).setCell ⟨B0,6,none⟩ (.int .i64 fail)):=by
 obtain⟨h1,h2⟩:=h.Jy k2 k4 k5 hs ke hkk hms hc0 hc1
 exact⟨h1.less (fun g hg=>.inl hg) h.nb,h2⟩
end
section
variable{N:Nat->Prop} {w w':World} {F a:Nat} {d d':ag} {room calls fail:Int}
theorem IY (h:aY N w F a d room calls fail) (hc0:0<=calls) (hc1:calls<=4611686018427387904) (hb:aH d+3<=2147483648) (at' mask:Int) (s:ByteArray) (m:Int) (hsz:s.size<=4294967280) :
 Calls Tryz.prog 18 #[.pointer (some ⟨F,0,none⟩),.agg #[.int .i64 at',.int .i64 mask],.string s,.int .i64 m] w
  (lz N w F a (bz calls fail d (gz d room at' mask s m)).1 room (calls+1) fail (.int .i64 (bz calls fail d (gz d room at' mask s m)).2)):=by
 have fG:aa af w (w.alloc (.cells #[.int .i64 at',.int .i64 mask] 34)):=(aa.refl _ _).alloc _
 obtain⟨N1,hsub,hnew,FS⟩:=h.wider fG
 have HW:=Lib.hid (Bx.new (aa.refl af (w.alloc (.cells #[.int .i64 at',.int .i64 mask] 34))))
 have jD:=Lib.hid (hnew w.heap.size (Nat.le_refl _) (by simp))
 have HK:=Lib.hid (fG.bC (F:=fun g=>¬N g))
 have HSub:=Lib.hid hsub
 clear hsub hnew h fG
 have HC:=Lib.hid (q9 FS hc0 hc1)
 obtain⟨ce,hce⟩:∃ce,eG calls fail=ce:=⟨_,rfl⟩
 obtain⟨O,hO⟩:∃O,bz calls fail d (gz d room at' mask s m)=O:=⟨_,rfl⟩
 have aj:=Lib.hid (show O=if ce≠0 then(d,ce)else gz d room at' mask s m by rw[<- hO];unfold bz;rw[hce])
 rw[hO]
 clear hO
 rw[hce]at HC
 clear hce FS hc0 hc1
 go_enter Tryz.func18,Tryz.ntmps18
 go_upto_region 1 with fail
 generalize w.alloc (.cells #[.int .i64 at',.int .i64 mask] 34)=w0 at *
 generalize w.heap.size=W at *
 go_upto_region 2 with(go_at_call 38;go_loud(refine HC.out.mono ?_);rintro e wc ⟨rfl,FS,k1⟩;replace HW:=Lib.hid (HW.out.keep k1 (fun hh=>hh jD.out));replace HK:=Lib.hid (HK.out.trans (k1.mono (fun g _ hg hN=>hg (HSub.out g hN)))))
 have aC:=Lib.hid FS
 clear HC k1 FS
 by_cases hz:ce≠0
 ·have hb:(ce != 0)=true:=by simpa using hz
  rw[if_pos hz]at aj
  clear hz
  go_wp2_with fail
  go_ret
  exact⟨cR (by rw[aj.out]),(by rw[aj.out];exact aC.out.less HSub.out),HK.out⟩
 rw[if_neg hz]at aj
 obtain rfl:ce=0:=Classical.not_not.1 hz
 clear hz
 have b0:=HW.out.cell 0 _ rfl
 have b1:=HW.out.cell 1 _ rfl
 have f0:=aC.out.c0
 obtain⟨X,hX⟩:∃X,eE d at' s true=X:=⟨_,rfl⟩
 have bP:=Lib.hid (Dl aC.out at' mask s true hsz)
 have HQ:=Lib.hid (show gz d room at' mask s m=if X.2≠0 then(d,X.2)else gV d room X.1 2 (bO m mask) ⟨#[]⟩by unfold gz;rw[hX])
 rw[hX]at bP
 obtain⟨⟨node,dir,name⟩,fe⟩:=X
 unfold aF at bP
 simp only at bP HQ
 have HX:=Lib.hid hX
 clear hX hsz
 go_upto_region 5 with(go_at_call 39;go_loud(refine bP.out.mono ?_);rintro e w2 ⟨rfl,k2⟩)
 have KP:=Lib.hid (Bx.new (aa.refl af (w2.alloc (.cells #[.int .i64 node,.int .i64 dir,.string name] 75))))
 have k3:aa af wc (w2.alloc (.cells #[.int .i64 node,.int .i64 dir,.string name] 75)):=k2.alloc _
 obtain⟨N2,hsub,hnew,FS⟩:=aC.out.wider k3
 have Dg:=Lib.hid (hnew w2.heap.size k2.size (by simp))
 replace HW:=Lib.hid (HW.out.on k3)
 replace HK:=Lib.hid (HK.out.trans k3.bC)
 replace HSub:=Lib.hid (fun g hg=>hsub g (HSub.out g hg))
 replace jD:=Lib.hid (hsub _ jD.out)
 clear b0 b1 f0 bP k2 k3 hsub hnew aC
 generalize w2.alloc (.cells #[.int .i64 node,.int .i64 dir,.string name] 75)=w3 at *
 generalize w2.heap.size=PB at *
 have aC:=Lib.hid FS
 clear FS
 by_cases hz:fe≠0
 ·have hb:(fe != 0)=true:=by simpa using hz
  rw[HQ.out,if_pos hz]at aj
  clear hz
  go_wp2_with fail
  go_ret
  exact⟨cR (by rw[aj.out]),(by rw[aj.out];exact aC.out.less HSub.out),HK.out⟩
 rw[HQ.out,if_neg hz]at aj
 obtain rfl:fe=0:=Classical.not_not.1 hz
 clear hz
 have f0:=aC.out.c0
 have b1:=HW.out.cell 1 _ rfl
 go_upto_region 7 with fail
 have jd:=Lib.hid ((aC.out.on (aa.refl af w3).drew).lA fun R hR=>CT hR 2 (bO m mask) ⟨#[]⟩ (by omega) (by decide))
 have kO:=Lib.hid (show gV d room ⟨0,dir,name⟩ 2 (bO m mask) ⟨#[]⟩=gV d room ⟨0,dir,name⟩ 2 (bO m mask) ⟨#[]⟩from rfl)
 go_cut [12,11]from 11 to 39 (fun x y wx=>x=.int .i64 (lu d room 2 (bO m mask) ⟨#[]⟩)∧y=.int .i64 (cP d room 2 (bO m mask) ⟨#[]⟩)∧aY N2 wx F a (iq d room 2 (bO m mask) ⟨#[]⟩) room (calls+1) fail∧aa (fun g=>¬N2 g) w3 wx)
 case first =>
  generalize lu d room 2 (bO m mask) ⟨#[]⟩=mi at *
  generalize cP d room 2 (bO m mask) ⟨#[]⟩=me at *
  generalize iq d room 2 (bO m mask) ⟨#[]⟩=mt at *
  have d0:=(aC.out.on (aa.refl af w3).drew).c0
  have d1:=(HW.out.on (aa.refl af w3).drew).cell 1 _ rfl
  go_region_held3 (fun wz=>wz.cell? ⟨F,0,none⟩=some (.pointer (some ⟨a,0,none⟩))∧wz.cell? ⟨W,1,none⟩=some (.int .i64 mask)) (refine⟨?_,?_⟩<;>with_reducible assumption)
   (first|(go_at_call 41;refine(IE _ _ _).mono ?_;rintro e wq ⟨rfl,rfl⟩)|(go_at_call 40;refine jd.out.mono ?_;rintro e w4 ⟨rfl,oG,k4⟩;have z0:=oG.c0;have z1:=((HW.out.on (aa.refl af w3).drew).keep k4 (fun hh=>hh jD.out)).cell 1 _ rfl))
  all_goals(go_wp2_with fail;go_meet;exact⟨rfl,rfl,oG,(aa.refl _ _).drew.trans k4⟩)
 case rest =>
  obtain⟨rfl,rfl,FS,k4⟩:=hcut
  replace HK:=Lib.hid (HK.out.trans (k4.mono (fun g _ hg hN=>hg (HSub.out g hN))))
  have HP:=Lib.hid (KP.out.keep k4 (fun hh=>hh Dg.out))
  clear f0 b1 KP HW aC jd k4
  obtain⟨me,hme⟩:∃me,cP d room 2 (bO m mask) ⟨#[]⟩=me:=⟨_,rfl⟩
  by_cases hz:cP d room 2 (bO m mask) ⟨#[]⟩≠0
  ·have ht:iq d room 2 (bO m mask) ⟨#[]⟩=d:=by unfold iq;rw[if_neg hz]
   have jO:=Lib.hid (show O=(d,me)by rw[aj.out];unfold gV;rw[if_pos hz,hme])
   rw[ht]at FS
   have aC:=Lib.hid FS
   rw[hme]at hz
   rw[hme]
   have hb:(me != 0)=true:=by simpa using hz
   clear FS hme hz
   go_wp2_with fail
   go_ret
   exact⟨cR (by rw[jO.out]),(by rw[jO.out];exact aC.out.less HSub.out),HK.out⟩
  have h0:cP d room 2 (bO m mask) ⟨#[]⟩=0:=Classical.not_not.1 hz
  obtain⟨e1,e2⟩:=Dd h0
  obtain⟨x1,x2,_⟩:=uD HX.out
  have jO:=Lib.hid (show O=qu (d++[aU 2 (bO m mask) ⟨#[]⟩]) room ⟨node,dir,name⟩ d.length by rw[aj.out];unfold gV;rw[if_neg hz])
  rw[e1]at FS
  rw[e2,h0]
  have gm:=Lib.hid (IW FS ⟨node,dir,name⟩ d.length (by rw[uE];omega) (Nat.le_trans x2 (by decide)) (fun _ _=>ID x1))
  rw[<- jO.out]at gm
  unfold aF at gm
  simp only at gm
  have p0:=HP.out.cell 0 _ rfl
  have p1:=HP.out.cell 1 _ rfl
  have p2:=HP.out.cell 2 _ rfl
  generalize(d.length:Int)=id at *
  clear FS hz h0 e1 e2 x1 x2 hme HQ HX jO HP
  go_wp2_with(go_at_call 42;go_loud(refine gm.out.mono ?_);rintro e w5 ⟨rfl,fO,k5⟩)
  go_ret
  exact⟨rfl,fO.less HSub.out,HK.out.trans (k5.mono (fun g _ hg hN=>hg (HSub.out g hN)))⟩
end
end Go.Proofs.YtnanhmfpikddkaaGreatDoor
