/-
  Layer 6: contracts of files: Rename. (Printed by genfiles.py.)
-/
import Derived.Test.YtnanhmfpikddkaaGreatDoorG18

set_option linter.unusedSimpArgs false
set_option linter.unusedVariables false
set_option maxRecDepth 100000
set_option maxHeartbeats 4000000
namespace Go.Proofs.YtnanhmfpikddkaaGreatDoor
open Go Go.RowKit
section
variable{N:Nat->Prop} {w w':World} {F a:Nat} {d d':ag} {room calls fail:Int}
theorem Qa (h:aY N w F a d room calls fail) (hc0:0<=calls) (hc1:calls<=4611686018427387904) (at' mask:Int) (s b:ByteArray) (hsz:s.size<=4294967280) (I4:b.size<=4294967280) :
 Calls Tryz.prog 54 #[.pointer (some ⟨F,0,none⟩),.agg #[.int .i64 at',.int .i64 mask],.string s,.string b] w
  (lz N w F a (bz calls fail d (jr d room at' s b)).1 room (calls+1) fail (.int .i64 (bz calls fail d (jr d room at' s b)).2)):=by
 have fG:aa af w (w.alloc (.cells #[.int .i64 at',.int .i64 mask] 34)):=(aa.refl _ _).alloc _
 obtain⟨N1,hsub,hnew,FS⟩:=h.wider fG
 have HW:=Lib.hid (Bx.new (aa.refl af (w.alloc (.cells #[.int .i64 at',.int .i64 mask] 34))))
 have jD:=Lib.hid (hnew w.heap.size (Nat.le_refl _) (by simp))
 have HK:=Lib.hid (fG.bC (F:=fun g=>¬N g))
 have HSub:=Lib.hid hsub
 clear hsub hnew h fG
 have HC:=Lib.hid (q9 FS hc0 hc1)
 obtain⟨ce,hce⟩:∃ce,eG calls fail=ce:=⟨_,rfl⟩
 obtain⟨O,hO⟩:∃O,bz calls fail d (jr d room at' s b)=O:=⟨_,rfl⟩
 have aj:=Lib.hid (show O=if ce≠0 then(d,ce)else jr d room at' s b by rw[<- hO];unfold bz;rw[hce])
 rw[hO]
 clear hO
 rw[hce]at HC
 clear hce FS hc0 hc1
 go_enter Tryz.func54,Tryz.ntmps54
 go_upto_region 1 with fail
 generalize w.alloc (.cells #[.int .i64 at',.int .i64 mask] 34)=w0 at *
 generalize w.heap.size=W at *
 go_upto_region 2 with(go_at_call 38;go_loud(refine HC.out.mono ?_);rintro e wc ⟨rfl,FS,k1⟩;replace HW:=Lib.hid (HW.out.keep k1 (fun hh=>hh jD.out));replace HK:=Lib.hid (HK.out.trans (k1.mono (fun g _ hg hN=>hg (HSub.out g hN)))))
 have aC:=Lib.hid FS
 clear HC k1 FS
 by_cases hz:ce≠0
 ·have hb:(ce != 0)=true:=by simpa using hz
  rw[if_pos hz]at aj
  clear hz
  go_wp2_with fail
  go_ret
  exact⟨cR (by rw[aj.out]),(by rw[aj.out];exact aC.out.less HSub.out),HK.out⟩
 rw[if_neg hz]at aj
 obtain rfl:ce=0:=Classical.not_not.1 hz
 clear hz
 unfold jr at aj
 obtain⟨X,hX⟩:∃X,aL d at' s false=X:=⟨_,rfl⟩
 have aW:=Lib.hid (fun(w1:World) (hk:aa af wc w1)=>(aC.out.on hk).wC at' s false hsz)
 rw[hX]at aW aj
 obtain⟨⟨pn,pd,pm⟩,pe⟩:=X
 unfold aF at aW
 simp only at aW aj
 have rq:=Lib.hid hX
 clear hX
 have f0:=aC.out.c0
 have b0:=HW.out.cell 0 _ rfl
 go_upto_region 4 with fail
 go_cut [10,11]from 10 to 32 (fun x y wx=>∃G:Nat,wc.heap.size<=G∧x=.pointer (some ⟨G,0,none⟩)∧y=.int .i64 pe∧Bx wx G [.int .i64 pn,.int .i64 pd,.string pm]∧aa af wc wx)
 case first =>
  have kr:=aa.refl af wc
  have bh:=kr.drew
  have d0:=(aC.out.on bh).c0
  have d1:=(HW.out.on bh).cell 0 _ rfl
  go_region_held3 (fun wz=>wz.cell? ⟨F,0,none⟩=some (.pointer (some ⟨a,0,none⟩))∧wz.cell? ⟨W,0,none⟩=some (.int .i64 at')∧aa af wc wz) (refine⟨?_,?_,?_⟩<;>first|with_reducible assumption|(with_reducible refine(aC.out.on ?_).c0;exact kA)|(with_reducible refine(HW.out.on ?_).cell 0 _ rfl;exact kA)|(exact kA))
   (first|(go_at_call 27;refine(aW.out _ kA).mono ?_;rintro e w2 ⟨rfl,hk2⟩;have bV:aa af wc w2:=aa.trans kA hk2;have zs:=bV.size;have z0:=(aC.out.on bV).c0;have z1:=(HW.out.on bV).cell 0 _ rfl;(try(have yb:=Bx.bW hk2;have y0:=yb.cell 0 _ rfl;have y1:=yb.cell 1 _ rfl;have y2:=yb.cell 2 _ rfl;have yf:=yb.fz))))
  all_goals(go_wp2_with fail;go_meet;refine⟨_,?_,rfl,rfl,?_,?_⟩)
  all_goals first
   | exact Nat.le_refl _
   | exact zs
   | (with_reducible exact Bx.new (aa.refl af _))
   | (exact((yb.put 0 _).put 1 _).put 2 _)
   | (exact kA)
   | skip
 case rest =>
  obtain⟨bn,hG,rfl,rfl,HP,hk1⟩:=hcut
  replace HP:=Lib.hid HP
  clear f0 b0 aW hG
  replace aC:=Lib.hid (aC.out.on hk1)
  replace HK:=Lib.hid (HK.out.trans hk1.bC)
  replace HW:=Lib.hid (HW.out.on hk1)
  by_cases hz:pe≠0
  ·have hb:(pe != 0)=true:=by simpa using hz
   rw[if_pos hz]at aj
   clear hz
   go_wp2_with fail
   go_ret
   exact⟨cR (by rw[aj.out]),(by rw[aj.out];exact aC.out.less HSub.out),HK.out⟩
  rw[if_neg hz]at aj
  obtain rfl:pe=0:=Classical.not_not.1 hz
  clear hz
  obtain⟨X,hX⟩:∃X,aQ d at' b false=X:=⟨_,rfl⟩
  have aW:=Lib.hid (fun(w1:World) (hk:aa af wc w1)=>(aC.out.on hk).Df at' b false I4)
  rw[hX]at aW aj
  obtain⟨⟨qn,qd,qm⟩,qe⟩:=X
  unfold aF at aW
  simp only at aW aj
  have zT:=Lib.hid hX
  clear hX
  have f0:=aC.out.c0
  have b0:=HW.out.cell 0 _ rfl
  go_upto_region 7 with fail
  go_cut [12,11]from 11 to 46 (fun x y wx=>∃G:Nat,wc.heap.size<=G∧x=.pointer (some ⟨G,0,none⟩)∧y=.int .i64 qe∧Bx wx G [.int .i64 qn,.int .i64 qd,.string qm]∧aa af wc wx)
  case first =>
   have kr:=aa.refl af wc
   have bh:=kr.drew
   have d0:=(aC.out.on bh).c0
   have d1:=(HW.out.on bh).cell 0 _ rfl
   go_region_held3 (fun wz=>wz.cell? ⟨F,0,none⟩=some (.pointer (some ⟨a,0,none⟩))∧wz.cell? ⟨W,0,none⟩=some (.int .i64 at')∧aa af wc wz) (refine⟨?_,?_,?_⟩<;>first|with_reducible assumption|(with_reducible refine(aC.out.on ?_).c0;exact kA)|(with_reducible refine(HW.out.on ?_).cell 0 _ rfl;exact kA)|(exact kA))
    (first|(go_at_call 43;refine(aW.out _ kA).mono ?_;rintro e w2 ⟨rfl,hk2⟩;have bV:aa af wc w2:=aa.trans kA hk2;have zs:=bV.size;have z0:=(aC.out.on bV).c0;have z1:=(HW.out.on bV).cell 0 _ rfl;(try(have yb:=Bx.bW hk2;have y0:=yb.cell 0 _ rfl;have y1:=yb.cell 1 _ rfl;have y2:=yb.cell 2 _ rfl;have yf:=yb.fz))))
   all_goals(go_wp2_with fail;go_meet;refine⟨_,?_,rfl,rfl,?_,?_⟩)
   all_goals first
    | exact Nat.le_refl _
    | exact zs
    | (with_reducible exact Bx.new (aa.refl af _))
    | (exact((yb.put 0 _).put 1 _).put 2 _)
    | (exact kA)
    | skip
  case rest =>
   obtain⟨iD,hG,rfl,rfl,HQ,hk1⟩:=hcut
   replace HQ:=Lib.hid HQ
   clear f0 b0 aW hG
   replace aC:=Lib.hid (aC.out.on hk1)
   replace HK:=Lib.hid (HK.out.trans hk1.bC)
   replace HW:=Lib.hid (HW.out.on hk1)
   replace HP:=Lib.hid (HP.out.on hk1)
   by_cases hz:qe≠0
   ·have hb:(qe != 0)=true:=by simpa using hz
    rw[if_pos hz]at aj
    clear hz
    go_wp2_with fail
    go_ret
    exact⟨cR (by rw[aj.out]),(by rw[aj.out];exact aC.out.less HSub.out),HK.out⟩
   rw[if_neg hz]at aj
   obtain rfl:qe=0:=Classical.not_not.1 hz
   clear hz
   obtain⟨ik,im,il,ih,iz,hik,jN,_,hie⟩:=aC.out.tell pn
   obtain⟨ie,kL⟩:∃ie,(if has d pn then 0 else 12:Int)=ie:=⟨_,rfl⟩
   have cw:=Lib.hid (fun(w1:World) (hk:aa af wc w1)=>(aC.out.on hk).info pn)
   rw[hie,kL]at cw
   rw[<- hik]at aj
   have wG:=Lib.hid hik
   have zP:=Lib.hid jN
   have zQ:=Lib.hid hie
   have zR:=Lib.hid kL
   clear hie kL hik jN
   have f0:=aC.out.c0
   have b0:=HP.out.cell 0 _ rfl
   go_upto_region 10 with fail
   go_cut [13,14]from 13 to 59 (fun x y wx=>∃G:Nat,wc.heap.size<=G∧x=.pointer (some ⟨G,0,none⟩)∧y=.int .i64 ie∧Bx wx G [.int .i64 ik,.int .i64 im,.int .i64 il,.int .i64 ih,.int .i64 iz]∧aa af wc wx)
   case first =>
    have kr:=aa.refl af wc
    have bh:=kr.drew
    have d0:=(aC.out.on bh).c0
    have d1:=(HP.out.on bh).cell 0 _ rfl
    go_region_held3 (fun wz=>wz.cell? ⟨F,0,none⟩=some (.pointer (some ⟨a,0,none⟩))∧wz.cell? ⟨bn,0,none⟩=some (.int .i64 pn)∧aa af wc wz) (refine⟨?_,?_,?_⟩<;>first|with_reducible assumption|(with_reducible refine(aC.out.on ?_).c0;exact kA)|(with_reducible refine(HP.out.on ?_).cell 0 _ rfl;exact kA)|(exact kA))
     (first|(go_at_call 28;refine(cw.out _ kA).mono ?_;rintro e w2 ⟨rfl,hk2⟩;have bV:aa af wc w2:=aa.trans kA hk2;have zs:=bV.size;have z0:=(aC.out.on bV).c0;have z1:=(HP.out.on bV).cell 0 _ rfl;(try(have yb:=Bx.bW hk2;have y0:=yb.cell 0 _ rfl;have y1:=yb.cell 1 _ rfl;have y2:=yb.cell 2 _ rfl;have y3:=yb.cell 3 _ rfl;have y4:=yb.cell 4 _ rfl;have yf:=yb.fz))))
    all_goals(go_wp2_with fail;go_meet;refine⟨_,?_,rfl,rfl,?_,?_⟩)
    all_goals first
     | exact Nat.le_refl _
     | exact zs
     | (with_reducible exact Bx.new (aa.refl af _))
     | (exact((((yb.put 0 _).put 1 _).put 2 _).put 3 _).put 4 _)
     | (exact kA)
     | skip
   case rest =>
    obtain⟨Dj,hG,rfl,rfl,HI,hk1⟩:=hcut
    replace HI:=Lib.hid HI
    clear f0 b0 cw hG
    replace aC:=Lib.hid (aC.out.on hk1)
    replace HK:=Lib.hid (HK.out.trans hk1.bC)
    replace HW:=Lib.hid (HW.out.on hk1)
    replace HP:=Lib.hid (HP.out.on hk1)
    replace HQ:=Lib.hid (HQ.out.on hk1)
    clear hk1
    have i0:=HI.out.cell 0 _ rfl
    have p1:=HP.out.cell 1 _ rfl
    have p2:=HP.out.cell 2 _ rfl
    have q0:=HQ.out.cell 0 _ rfl
    have q1:=HQ.out.cell 1 _ rfl
    have q2:=HQ.out.cell 2 _ rfl
    have uH:=Lib.hid (show qm.size<=4294967296 by have:=si d at' b false;rw[zT.out]at this;exact Nat.le_trans this (by decide))
    have I5:=isEmpty_eq pm
    by_cases p0:pm=⟨#[]⟩
    ·rw[decide_eq_true p0]at I5
     replace aj:=Lib.hid (show O=(d,23)by rw[aj.out,if_pos (.inl p0)])
     clear p0
     go_wp2_with fail
     go_ret
     exact⟨cR (by rw[aj.out]),(by rw[aj.out];exact aC.out.less HSub.out),HK.out⟩
    rw[decide_eq_false p0]at I5
    have heq:=isEmpty_eq qm
    by_cases c0:qm=⟨#[]⟩
    ·rw[decide_eq_true c0]at heq
     replace aj:=Lib.hid (show O=(d,23)by rw[aj.out,if_pos (.inr c0)])
     clear p0 c0
     go_wp2_with fail
     go_ret
     exact⟨cR (by rw[aj.out]),(by rw[aj.out];exact aC.out.less HSub.out),HK.out⟩
    rw[decide_eq_false c0]at heq
    rw[if_neg (fun x=>x.elim p0 c0)]at aj
    clear p0 c0
    have iB:=Lib.hid (fun wx:World=>hs1 b wx (Nat.le_trans I4 (by decide)))
    have hn0:(qn==0)=decide (qn=0):=by rw[Bool.eq_iff_iff];simp
    have hi2:(ik != 2)=decide (ik≠2):=by rw[Bool.eq_iff_iff];simp
    by_cases hz:qn=0∧cg b=true∧ik≠2
    ·rw[decide_eq_true hz.1]at hn0
     rw[decide_eq_true hz.2.2]at hi2
     rw[hz.2.1]at iB
     rw[if_pos hz]at aj
     clear hz
     go_wp2_with(go_at_call 66;refine(iB.out _).mono ?_;rintro e w' ⟨rfl,rfl⟩)
     go_ret
     exact⟨cR (by rw[aj.out]),(by rw[aj.out];exact aC.out.less HSub.out),HK.out⟩
    rw[if_neg hz]at aj
    have jP:=Lib.hid (fun(wx:World) (k:aa af wc wx)=>uF (aC.out.on k) pd 128 (by decide))
    have jQ:=Lib.hid (fun(wx:World) (k:aa af wc wx)=>uF (aC.out.on k) qd 128 (by decide))
    have uJ:=Lib.hid (fun(wx:World) (k:aa af wc wx)=>(aC.out.on k).lA fun R hR=>OC hR pd pm qd qm (uH.out))
    have js:=Lib.hid (fun(wx:World) (k:aa af wc wx)=>(⟨(aC.out.on k).c0,(HP.out.on k).cell 1 _ rfl,(HP.out.on k).cell 2 _ rfl,(HQ.out.on k).cell 1 _ rfl,(HQ.out.on k).cell 2 _ rfl⟩ :
     wx.cell? ⟨F,0,none⟩=some (.pointer (some ⟨a,0,none⟩))∧wx.cell? ⟨bn,1,none⟩=some (.int .i64 pd)∧wx.cell? ⟨bn,2,none⟩=some (.string pm)∧wx.cell? ⟨iD,1,none⟩=some (.int .i64 qd)∧wx.cell? ⟨iD,2,none⟩=some (.string qm)))
    obtain⟨m1,bU⟩:∃m1,cD d pd 128=m1:=⟨_,rfl⟩
    obtain⟨m2,hm2⟩:∃m2,cD d qd 128=m2:=⟨_,rfl⟩
    simp only[show((128:Nat):Int)=128 from rfl,bU]at jP
    simp only[show((128:Nat):Int)=128 from rfl,hm2]at jQ
    rw[bU,hm2]at aj
    have hcs:qn≠0∨(qn=0∧cg b=false)∨(qn=0∧cg b=true∧ik=2):=by
     by_cases x1:qn=0
     ·right
      by_cases x2:cg b=true
      ·right;exact⟨x1,x2,Classical.not_not.1 (fun x3=>hz ⟨x1,x2,x3⟩)⟩
      ·left;exact⟨x1,by simpa using x2⟩
     ·left;exact x1
    clear hz bU hm2 rq zT wG zP HI HW
    rcases hcs with x1|⟨x1,x2⟩|⟨x1,x2,x3⟩
    ·rw[decide_eq_false x1]at hn0
     clear x1
     by_cases z1:m1≠0
     ·have hb1:(m1 != 0)=true:=by simpa using z1
      rw[if_pos z1]at aj
      clear z1
      go_wp2_with(first|(go_at_call 66;refine(iB.out _).mono ?_;rintro e w' ⟨rfl,rfl⟩)|(go_at_call 67;go_loud(refine(jP.out _ (aa.refl _ _)).mono ?_);rintro e w2 ⟨rfl,hk2⟩;obtain⟨g0,g1,g2,g3,g4⟩:=js.out _ hk2;clear p1 p2 q0 q1 q2;clear jP)|(go_at_call 67;go_loud(refine(jQ.out _ hk2).mono ?_);rintro e w3 ⟨rfl,aV⟩;obtain⟨l0,l1,l2,l3,l4⟩:=js.out _ (hk2.trans aV);clear g0 g1 g2 g3 g4;clear jQ))
      go_ret
      exact⟨cR (by rw[aj.out]),(by rw[aj.out];exact(aC.out.on hk2).less HSub.out),HK.out.trans hk2.bC⟩
     rw[if_neg z1]at aj
     obtain rfl:m1=0:=Classical.not_not.1 z1
     clear z1
     by_cases z2:m2≠0
     ·have hb1:(m2 != 0)=true:=by simpa using z2
      rw[if_pos z2]at aj
      clear z2
      go_wp2_with(first|(go_at_call 66;refine(iB.out _).mono ?_;rintro e w' ⟨rfl,rfl⟩)|(go_at_call 67;go_loud(refine(jP.out _ (aa.refl _ _)).mono ?_);rintro e w2 ⟨rfl,hk2⟩;obtain⟨g0,g1,g2,g3,g4⟩:=js.out _ hk2;clear p1 p2 q0 q1 q2;clear jP)|(go_at_call 67;go_loud(refine(jQ.out _ hk2).mono ?_);rintro e w3 ⟨rfl,aV⟩;obtain⟨l0,l1,l2,l3,l4⟩:=js.out _ (hk2.trans aV);clear g0 g1 g2 g3 g4;clear jQ))
      go_ret
      exact⟨cR (by rw[aj.out]),(by rw[aj.out];exact(aC.out.on (hk2.trans aV)).less HSub.out),HK.out.trans (hk2.trans aV).bC⟩
     rw[if_neg z2]at aj
     obtain rfl:m2=0:=Classical.not_not.1 z2
     clear z2
     go_upto_region 21 with(first|(go_at_call 66;refine(iB.out _).mono ?_;rintro e w' ⟨rfl,rfl⟩)|(go_at_call 67;go_loud(refine(jP.out _ (aa.refl _ _)).mono ?_);rintro e w2 ⟨rfl,hk2⟩;obtain⟨g0,g1,g2,g3,g4⟩:=js.out _ hk2;clear p1 p2 q0 q1 q2;clear jP)|(go_at_call 67;go_loud(refine(jQ.out _ hk2).mono ?_);rintro e w3 ⟨rfl,aV⟩;obtain⟨l0,l1,l2,l3,l4⟩:=js.out _ (hk2.trans aV);clear g0 g1 g2 g3 g4;clear jQ))
     have HL:=Lib.hid (uJ.out _ (hk2.trans aV).drew)
     rw[show iJ d room pd pm qd qm=(O:ag × Int).1 by rw[aj.out]<;>rfl,show jA d room pd pm qd qm=(O:ag × Int).2 by rw[aj.out]<;>rfl]at HL
     have dw:=HK.out.trans (hk2.trans aV).drew.bC
     clear uJ js hk2 aV
     go_still_tail 12,(by kernel_rfl)
     change wpList _ _ _ _ _ w3.drew
     generalize w3.drew=wd at *
     go_wp2_with(go_at_call 91;go_loud(refine HL.out.mono ?_);rintro e w5 ⟨rfl,fO,k5⟩)
     go_ret
     exact⟨rfl,fO.less HSub.out,dw.trans (k5.mono (fun g _ hg hN=>hg (HSub.out g hN)))⟩
    ·rw[decide_eq_true x1]at hn0
     rw[x2]at iB
     clear x1 x2
     by_cases z1:m1≠0
     ·have hb1:(m1 != 0)=true:=by simpa using z1
      rw[if_pos z1]at aj
      clear z1
      go_wp2_with(first|(go_at_call 66;refine(iB.out _).mono ?_;rintro e w' ⟨rfl,rfl⟩)|(go_at_call 67;go_loud(refine(jP.out _ (aa.refl _ _)).mono ?_);rintro e w2 ⟨rfl,hk2⟩;obtain⟨g0,g1,g2,g3,g4⟩:=js.out _ hk2;clear p1 p2 q0 q1 q2;clear jP)|(go_at_call 67;go_loud(refine(jQ.out _ hk2).mono ?_);rintro e w3 ⟨rfl,aV⟩;obtain⟨l0,l1,l2,l3,l4⟩:=js.out _ (hk2.trans aV);clear g0 g1 g2 g3 g4;clear jQ))
      go_ret
      exact⟨cR (by rw[aj.out]),(by rw[aj.out];exact(aC.out.on hk2).less HSub.out),HK.out.trans hk2.bC⟩
     rw[if_neg z1]at aj
     obtain rfl:m1=0:=Classical.not_not.1 z1
     clear z1
     by_cases z2:m2≠0
     ·have hb1:(m2 != 0)=true:=by simpa using z2
      rw[if_pos z2]at aj
      clear z2
      go_wp2_with(first|(go_at_call 66;refine(iB.out _).mono ?_;rintro e w' ⟨rfl,rfl⟩)|(go_at_call 67;go_loud(refine(jP.out _ (aa.refl _ _)).mono ?_);rintro e w2 ⟨rfl,hk2⟩;obtain⟨g0,g1,g2,g3,g4⟩:=js.out _ hk2;clear p1 p2 q0 q1 q2;clear jP)|(go_at_call 67;go_loud(refine(jQ.out _ hk2).mono ?_);rintro e w3 ⟨rfl,aV⟩;obtain⟨l0,l1,l2,l3,l4⟩:=js.out _ (hk2.trans aV);clear g0 g1 g2 g3 g4;clear jQ))
      go_ret
      exact⟨cR (by rw[aj.out]),(by rw[aj.out];exact(aC.out.on (hk2.trans aV)).less HSub.out),HK.out.trans (hk2.trans aV).bC⟩
     rw[if_neg z2]at aj
     obtain rfl:m2=0:=Classical.not_not.1 z2
     clear z2
     go_upto_region 21 with(first|(go_at_call 66;refine(iB.out _).mono ?_;rintro e w' ⟨rfl,rfl⟩)|(go_at_call 67;go_loud(refine(jP.out _ (aa.refl _ _)).mono ?_);rintro e w2 ⟨rfl,hk2⟩;obtain⟨g0,g1,g2,g3,g4⟩:=js.out _ hk2;clear p1 p2 q0 q1 q2;clear jP)|(go_at_call 67;go_loud(refine(jQ.out _ hk2).mono ?_);rintro e w3 ⟨rfl,aV⟩;obtain⟨l0,l1,l2,l3,l4⟩:=js.out _ (hk2.trans aV);clear g0 g1 g2 g3 g4;clear jQ))
     have HL:=Lib.hid (uJ.out _ (hk2.trans aV).drew)
     rw[show iJ d room pd pm qd qm=(O:ag × Int).1 by rw[aj.out]<;>rfl,show jA d room pd pm qd qm=(O:ag × Int).2 by rw[aj.out]<;>rfl]at HL
     have dw:=HK.out.trans (hk2.trans aV).drew.bC
     clear uJ js hk2 aV
     go_still_tail 12,(by kernel_rfl)
     change wpList _ _ _ _ _ w3.drew
     generalize w3.drew=wd at *
     go_wp2_with(go_at_call 91;go_loud(refine HL.out.mono ?_);rintro e w5 ⟨rfl,fO,k5⟩)
     go_ret
     exact⟨rfl,fO.less HSub.out,dw.trans (k5.mono (fun g _ hg hN=>hg (HSub.out g hN)))⟩
    ·rw[decide_eq_true x1]at hn0
     rw[x2]at iB
     rw[decide_eq_false (by simpa using x3)]at hi2
     clear x1 x2 x3
     by_cases z1:m1≠0
     ·have hb1:(m1 != 0)=true:=by simpa using z1
      rw[if_pos z1]at aj
      clear z1
      go_wp2_with(first|(go_at_call 66;refine(iB.out _).mono ?_;rintro e w' ⟨rfl,rfl⟩)|(go_at_call 67;go_loud(refine(jP.out _ (aa.refl _ _)).mono ?_);rintro e w2 ⟨rfl,hk2⟩;obtain⟨g0,g1,g2,g3,g4⟩:=js.out _ hk2;clear p1 p2 q0 q1 q2;clear jP)|(go_at_call 67;go_loud(refine(jQ.out _ hk2).mono ?_);rintro e w3 ⟨rfl,aV⟩;obtain⟨l0,l1,l2,l3,l4⟩:=js.out _ (hk2.trans aV);clear g0 g1 g2 g3 g4;clear jQ))
      go_ret
      exact⟨cR (by rw[aj.out]),(by rw[aj.out];exact(aC.out.on hk2).less HSub.out),HK.out.trans hk2.bC⟩
     rw[if_neg z1]at aj
     obtain rfl:m1=0:=Classical.not_not.1 z1
     clear z1
     by_cases z2:m2≠0
     ·have hb1:(m2 != 0)=true:=by simpa using z2
      rw[if_pos z2]at aj
      clear z2
      go_wp2_with(first|(go_at_call 66;refine(iB.out _).mono ?_;rintro e w' ⟨rfl,rfl⟩)|(go_at_call 67;go_loud(refine(jP.out _ (aa.refl _ _)).mono ?_);rintro e w2 ⟨rfl,hk2⟩;obtain⟨g0,g1,g2,g3,g4⟩:=js.out _ hk2;clear p1 p2 q0 q1 q2;clear jP)|(go_at_call 67;go_loud(refine(jQ.out _ hk2).mono ?_);rintro e w3 ⟨rfl,aV⟩;obtain⟨l0,l1,l2,l3,l4⟩:=js.out _ (hk2.trans aV);clear g0 g1 g2 g3 g4;clear jQ))
      go_ret
      exact⟨cR (by rw[aj.out]),(by rw[aj.out];exact(aC.out.on (hk2.trans aV)).less HSub.out),HK.out.trans (hk2.trans aV).bC⟩
     rw[if_neg z2]at aj
     obtain rfl:m2=0:=Classical.not_not.1 z2
     clear z2
     go_upto_region 21 with(first|(go_at_call 66;refine(iB.out _).mono ?_;rintro e w' ⟨rfl,rfl⟩)|(go_at_call 67;go_loud(refine(jP.out _ (aa.refl _ _)).mono ?_);rintro e w2 ⟨rfl,hk2⟩;obtain⟨g0,g1,g2,g3,g4⟩:=js.out _ hk2;clear p1 p2 q0 q1 q2;clear jP)|(go_at_call 67;go_loud(refine(jQ.out _ hk2).mono ?_);rintro e w3 ⟨rfl,aV⟩;obtain⟨l0,l1,l2,l3,l4⟩:=js.out _ (hk2.trans aV);clear g0 g1 g2 g3 g4;clear jQ))
     have HL:=Lib.hid (uJ.out _ (hk2.trans aV).drew)
     rw[show iJ d room pd pm qd qm=(O:ag × Int).1 by rw[aj.out]<;>rfl,show jA d room pd pm qd qm=(O:ag × Int).2 by rw[aj.out]<;>rfl]at HL
     have dw:=HK.out.trans (hk2.trans aV).drew.bC
     clear uJ js hk2 aV
     go_still_tail 12,(by kernel_rfl)
     change wpList _ _ _ _ _ w3.drew
     generalize w3.drew=wd at *
     go_wp2_with(go_at_call 91;go_loud(refine HL.out.mono ?_);rintro e w5 ⟨rfl,fO,k5⟩)
     go_ret
     exact⟨rfl,fO.less HSub.out,dw.trans (k5.mono (fun g _ hg hN=>hg (HSub.out g hN)))⟩
end
end Go.Proofs.YtnanhmfpikddkaaGreatDoor
