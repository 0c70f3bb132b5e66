/-
  Layer 6: contracts of files: Chmod,Rmdir,Unlink. (Printed by genfiles.py.)
-/
import Derived.Test.YtnanhmfpikddkaaGreatDoorG17
import Derived.Test.YtnanhmfpikddkaaGreatDoorG16
import Derived.Test.YtnanhmfpikddkaaGreatDoorG01
import Derived.Test.YtnanhmfpikddkaaGreatDoorG04

set_option linter.unusedSimpArgs false
set_option linter.unusedVariables false
set_option maxRecDepth 100000
set_option maxHeartbeats 4000000
namespace Go.Proofs.YtnanhmfpikddkaaGreatDoor
open Go Go.RowKit
section
variable{N:Nat->Prop} {w w':World} {F a:Nat} {d d':ag} {room calls fail:Int}
theorem P4 (h:aY N w F a d room calls fail) (hc0:0<=calls) (hc1:calls<=4611686018427387904) (at' mask:Int) (s:ByteArray) (m:Int) (hsz:s.size<=4294967280) :
 Calls Tryz.prog 56 #[.pointer (some ⟨F,0,none⟩),.agg #[.int .i64 at',.int .i64 mask],.string s,.int .i64 m] w
  (lz N w F a (bz calls fail d (kI d at' s m)).1 room (calls+1) fail (.int .i64 (bz calls fail d (kI d at' s m)).2)):=by
 have fG:aa af w (w.alloc (.cells #[.int .i64 at',.int .i64 mask] 34)):=(aa.refl _ _).alloc _
 obtain⟨N1,hsub,hnew,FS⟩:=h.wider fG
 have HW:=Lib.hid (Bx.new (aa.refl af (w.alloc (.cells #[.int .i64 at',.int .i64 mask] 34))))
 have jD:=Lib.hid (hnew w.heap.size (Nat.le_refl _) (by simp))
 have HK:=Lib.hid (fG.bC (F:=fun g=>¬N g))
 have HSub:=Lib.hid hsub
 clear hsub hnew h fG
 have HC:=Lib.hid (q9 FS hc0 hc1)
 obtain⟨ce,hce⟩:∃ce,eG calls fail=ce:=⟨_,rfl⟩
 obtain⟨O,hO⟩:∃O,bz calls fail d (kI d at' s m)=O:=⟨_,rfl⟩
 have aj:=Lib.hid (show O=if ce≠0 then(d,ce)else kI d at' s m by rw[<- hO];unfold bz;rw[hce])
 rw[hO]
 clear hO
 rw[hce]at HC
 clear hce FS hc0 hc1
 go_enter Tryz.func56,Tryz.ntmps56
 go_upto_region 1 with fail
 generalize w.alloc (.cells #[.int .i64 at',.int .i64 mask] 34)=w0 at *
 generalize w.heap.size=W at *
 go_upto_region 2 with(go_at_call 38;go_loud(refine HC.out.mono ?_);rintro e wc ⟨rfl,FS,k1⟩;replace HW:=Lib.hid (HW.out.keep k1 (fun hh=>hh jD.out));replace HK:=Lib.hid (HK.out.trans (k1.mono (fun g _ hg hN=>hg (HSub.out g hN)))))
 have aC:=Lib.hid FS
 clear HC k1 FS
 by_cases hz:ce≠0
 ·have hb:(ce != 0)=true:=by simpa using hz
  rw[if_pos hz]at aj
  clear hz
  go_wp2_with fail
  go_ret
  exact⟨cR (by rw[aj.out]),(by rw[aj.out];exact aC.out.less HSub.out),HK.out⟩
 rw[if_neg hz]at aj
 obtain rfl:ce=0:=Classical.not_not.1 hz
 clear hz
 unfold kI at aj
 obtain⟨X,hX⟩:∃X,aL d at' s true=X:=⟨_,rfl⟩
 have aW:=Lib.hid (fun(w1:World) (hk:aa af wc w1)=>(aC.out.on hk).wC at' s true hsz)
 rw[hX]at aW aj
 obtain⟨⟨pn,pd,pm⟩,pe⟩:=X
 unfold aF at aW
 simp only at aW aj
 have rq:=Lib.hid hX
 clear hX
 have f0:=aC.out.c0
 have b0:=HW.out.cell 0 _ rfl
 go_upto_region 4 with fail
 go_cut [10,11]from 10 to 27 (fun x y wx=>∃G:Nat,wc.heap.size<=G∧x=.pointer (some ⟨G,0,none⟩)∧y=.int .i64 pe∧Bx wx G [.int .i64 pn,.int .i64 pd,.string pm]∧aa af wc wx)
 case first =>
  have kr:=aa.refl af wc
  have bh:=kr.drew
  have d0:=(aC.out.on bh).c0
  have d1:=(HW.out.on bh).cell 0 _ rfl
  go_region_held3 (fun wz=>wz.cell? ⟨F,0,none⟩=some (.pointer (some ⟨a,0,none⟩))∧wz.cell? ⟨W,0,none⟩=some (.int .i64 at')∧aa af wc wz) (refine⟨?_,?_,?_⟩<;>first|with_reducible assumption|(with_reducible refine(aC.out.on ?_).c0;exact kA)|(with_reducible refine(HW.out.on ?_).cell 0 _ rfl;exact kA)|(exact kA))
   (first|(go_at_call 27;refine(aW.out _ kA).mono ?_;rintro e w2 ⟨rfl,hk2⟩;have bV:aa af wc w2:=aa.trans kA hk2;have zs:=bV.size;have z0:=(aC.out.on bV).c0;have z1:=(HW.out.on bV).cell 0 _ rfl;(try(have yb:=Bx.bW hk2;have y0:=yb.cell 0 _ rfl;have y1:=yb.cell 1 _ rfl;have y2:=yb.cell 2 _ rfl;have yf:=yb.fz))))
  all_goals(go_wp2_with fail;go_meet;refine⟨_,?_,rfl,rfl,?_,?_⟩)
  all_goals first
   | exact Nat.le_refl _
   | exact zs
   | (with_reducible exact Bx.new (aa.refl af _))
   | (exact((yb.put 0 _).put 1 _).put 2 _)
   | (exact kA)
   | skip
 case rest =>
  obtain⟨bn,hG,rfl,rfl,HP,hk1⟩:=hcut
  replace HP:=Lib.hid HP
  clear f0 b0 aW hG
  replace aC:=Lib.hid (aC.out.on hk1)
  replace HK:=Lib.hid (HK.out.trans hk1.bC)
  replace HW:=Lib.hid (HW.out.on hk1)
  by_cases hz:pe≠0
  ·have hb:(pe != 0)=true:=by simpa using hz
   rw[if_pos hz]at aj
   clear hz
   go_wp2_with fail
   go_ret
   exact⟨cR (by rw[aj.out]),(by rw[aj.out];exact aC.out.less HSub.out),HK.out⟩
  rw[if_neg hz]at aj
  obtain rfl:pe=0:=Classical.not_not.1 hz
  clear hz
  have f0:=aC.out.c0
  have b0:=HP.out.cell 0 _ rfl
  have HL:=Lib.hid ((aC.out.on (aa.refl af wc).drew).lA fun R hR=>OV hR pn m)
  rw[show(if ic d pn m=0 then mS d pn m else d)=(O:ag × Int).1 by rw[aj.out]<;>rfl,show ic d pn m=(O:ag × Int).2 by rw[aj.out]<;>rfl]at HL
  go_upto_region 7 with fail
  go_still_tail 7,(by kernel_rfl)
  change wpList _ _ _ _ _ wc.drew
  replace HK:Hid (aa (fun g=>¬N g) w wc.drew):=HK.out.drew
  generalize wc.drew=wd at *
  go_wp2_with(go_at_call 94;go_loud(refine HL.out.mono ?_);rintro e w5 ⟨rfl,fO,k5⟩)
  go_ret
  exact⟨rfl,fO.less HSub.out,HK.out.trans (k5.mono (fun g _ hg hN=>hg (HSub.out g hN)))⟩
theorem P5 (h:aY N w F a d room calls fail) (hc0:0<=calls) (hc1:calls<=4611686018427387904) (at' mask:Int) (s:ByteArray) (hsz:s.size<=4294967280) :
 Calls Tryz.prog 51 #[.pointer (some ⟨F,0,none⟩),.agg #[.int .i64 at',.int .i64 mask],.string s] w
  (lz N w F a (bz calls fail d (eI d at' s true)).1 room (calls+1) fail (.int .i64 (bz calls fail d (eI d at' s true)).2)):=by
 have fG:aa af w (w.alloc (.cells #[.int .i64 at',.int .i64 mask] 34)):=(aa.refl _ _).alloc _
 obtain⟨N1,hsub,hnew,FS⟩:=h.wider fG
 have HW:=Lib.hid (Bx.new (aa.refl af (w.alloc (.cells #[.int .i64 at',.int .i64 mask] 34))))
 have jD:=Lib.hid (hnew w.heap.size (Nat.le_refl _) (by simp))
 have HK:=Lib.hid (fG.bC (F:=fun g=>¬N g))
 have HSub:=Lib.hid hsub
 clear hsub hnew h fG
 have HC:=Lib.hid (q9 FS hc0 hc1)
 obtain⟨ce,hce⟩:∃ce,eG calls fail=ce:=⟨_,rfl⟩
 obtain⟨O,hO⟩:∃O,bz calls fail d (eI d at' s true)=O:=⟨_,rfl⟩
 have aj:=Lib.hid (show O=if ce≠0 then(d,ce)else eI d at' s true by rw[<- hO];unfold bz;rw[hce])
 rw[hO]
 clear hO
 rw[hce]at HC
 clear hce FS hc0 hc1
 go_enter Tryz.func51,Tryz.ntmps51
 go_upto_region 1 with fail
 generalize w.alloc (.cells #[.int .i64 at',.int .i64 mask] 34)=w0 at *
 generalize w.heap.size=W at *
 go_upto_region 2 with(go_at_call 38;go_loud(refine HC.out.mono ?_);rintro e wc ⟨rfl,FS,k1⟩;replace HW:=Lib.hid (HW.out.keep k1 (fun hh=>hh jD.out));replace HK:=Lib.hid (HK.out.trans (k1.mono (fun g _ hg hN=>hg (HSub.out g hN)))))
 have aC:=Lib.hid FS
 clear HC k1 FS
 by_cases hz:ce≠0
 ·have hb:(ce != 0)=true:=by simpa using hz
  rw[if_pos hz]at aj
  clear hz
  go_wp2_with fail
  go_ret
  exact⟨cR (by rw[aj.out]),(by rw[aj.out];exact aC.out.less HSub.out),HK.out⟩
 rw[if_neg hz]at aj
 obtain rfl:ce=0:=Classical.not_not.1 hz
 clear hz
 unfold eI at aj
 have b0:=HW.out.cell 0 _ rfl
 have b1:=HW.out.cell 1 _ rfl
 have bP:=Lib.hid (IZ aC.out at' mask s true hsz)
 obtain⟨X,hX⟩:∃X,jk d at' s true=X:=⟨_,rfl⟩
 rw[hX]at bP aj
 obtain⟨⟨pn,pd,pm⟩,pe⟩:=X
 unfold aF at bP
 simp only at bP aj
 clear hX
 go_upto_region 5 with(go_at_call 87;go_loud(refine bP.out.mono ?_);rintro e w2 ⟨rfl,k2⟩)
 have HP:=Lib.hid (Bx.new (aa.refl af (w2.alloc (.cells #[.int .i64 pn,.int .i64 pd,.string pm] 75))))
 have hk1:aa af wc (w2.alloc (.cells #[.int .i64 pn,.int .i64 pd,.string pm] 75)):=k2.alloc _
 clear b0 b1 bP k2
 replace aC:=Lib.hid (aC.out.on hk1)
 replace HK:=Lib.hid (HK.out.trans hk1.bC)
 replace HW:=Lib.hid (HW.out.on hk1)
 clear hk1
 generalize w2.alloc (.cells #[.int .i64 pn,.int .i64 pd,.string pm] 75)=wc at *
 generalize w2.heap.size=bn at *
 by_cases hz:pe≠0
 ·have hb:(pe != 0)=true:=by simpa using hz
  rw[if_pos hz]at aj
  clear hz
  go_wp2_with fail
  go_ret
  exact⟨cR (by rw[aj.out]),(by rw[aj.out];exact aC.out.less HSub.out),HK.out⟩
 rw[if_neg hz]at aj
 obtain rfl:pe=0:=Classical.not_not.1 hz
 clear hz
 have f0:=aC.out.c0
 have b0:=HP.out.cell 1 _ rfl
 have b1:=HP.out.cell 2 _ rfl
 have HL:=Lib.hid ((aC.out.on (aa.refl af wc).drew).lA fun R hR=>G0 hR pd pm)
 rw[show iU d pd pm=(O:ag × Int).1 by rw[aj.out]<;>rfl,show gF d pd pm=(O:ag × Int).2 by rw[aj.out]<;>rfl]at HL
 go_upto_region 7 with fail
 go_still_tail 8,(by kernel_rfl)
 change wpList _ _ _ _ _ wc.drew
 replace HK:Hid (aa (fun g=>¬N g) w wc.drew):=HK.out.drew
 generalize wc.drew=wd at *
 go_wp2_with(go_at_call 88;go_loud(refine HL.out.mono ?_);rintro e w5 ⟨rfl,fO,k5⟩)
 go_ret
 exact⟨rfl,fO.less HSub.out,HK.out.trans (k5.mono (fun g _ hg hN=>hg (HSub.out g hN)))⟩
theorem P6 (h:aY N w F a d room calls fail) (hc0:0<=calls) (hc1:calls<=4611686018427387904) (at' mask:Int) (s:ByteArray) (hsz:s.size<=4294967280) :
 Calls Tryz.prog 53 #[.pointer (some ⟨F,0,none⟩),.agg #[.int .i64 at',.int .i64 mask],.string s] w
  (lz N w F a (bz calls fail d (eI d at' s false)).1 room (calls+1) fail (.int .i64 (bz calls fail d (eI d at' s false)).2)):=by
 have fG:aa af w (w.alloc (.cells #[.int .i64 at',.int .i64 mask] 34)):=(aa.refl _ _).alloc _
 obtain⟨N1,hsub,hnew,FS⟩:=h.wider fG
 have HW:=Lib.hid (Bx.new (aa.refl af (w.alloc (.cells #[.int .i64 at',.int .i64 mask] 34))))
 have jD:=Lib.hid (hnew w.heap.size (Nat.le_refl _) (by simp))
 have HK:=Lib.hid (fG.bC (F:=fun g=>¬N g))
 have HSub:=Lib.hid hsub
 clear hsub hnew h fG
 have HC:=Lib.hid (q9 FS hc0 hc1)
 obtain⟨ce,hce⟩:∃ce,eG calls fail=ce:=⟨_,rfl⟩
 obtain⟨O,hO⟩:∃O,bz calls fail d (eI d at' s false)=O:=⟨_,rfl⟩
 have aj:=Lib.hid (show O=if ce≠0 then(d,ce)else eI d at' s false by rw[<- hO];unfold bz;rw[hce])
 rw[hO]
 clear hO
 rw[hce]at HC
 clear hce FS hc0 hc1
 go_enter Tryz.func53,Tryz.ntmps53
 go_upto_region 1 with fail
 generalize w.alloc (.cells #[.int .i64 at',.int .i64 mask] 34)=w0 at *
 generalize w.heap.size=W at *
 go_upto_region 2 with(go_at_call 38;go_loud(refine HC.out.mono ?_);rintro e wc ⟨rfl,FS,k1⟩;replace HW:=Lib.hid (HW.out.keep k1 (fun hh=>hh jD.out));replace HK:=Lib.hid (HK.out.trans (k1.mono (fun g _ hg hN=>hg (HSub.out g hN)))))
 have aC:=Lib.hid FS
 clear HC k1 FS
 by_cases hz:ce≠0
 ·have hb:(ce != 0)=true:=by simpa using hz
  rw[if_pos hz]at aj
  clear hz
  go_wp2_with fail
  go_ret
  exact⟨cR (by rw[aj.out]),(by rw[aj.out];exact aC.out.less HSub.out),HK.out⟩
 rw[if_neg hz]at aj
 obtain rfl:ce=0:=Classical.not_not.1 hz
 clear hz
 unfold eI at aj
 have b0:=HW.out.cell 0 _ rfl
 have b1:=HW.out.cell 1 _ rfl
 have bP:=Lib.hid (IZ aC.out at' mask s false hsz)
 obtain⟨X,hX⟩:∃X,jk d at' s false=X:=⟨_,rfl⟩
 rw[hX]at bP aj
 obtain⟨⟨pn,pd,pm⟩,pe⟩:=X
 unfold aF at bP
 simp only at bP aj
 clear hX
 go_upto_region 5 with(go_at_call 87;go_loud(refine bP.out.mono ?_);rintro e w2 ⟨rfl,k2⟩)
 have HP:=Lib.hid (Bx.new (aa.refl af (w2.alloc (.cells #[.int .i64 pn,.int .i64 pd,.string pm] 75))))
 have hk1:aa af wc (w2.alloc (.cells #[.int .i64 pn,.int .i64 pd,.string pm] 75)):=k2.alloc _
 clear b0 b1 bP k2
 replace aC:=Lib.hid (aC.out.on hk1)
 replace HK:=Lib.hid (HK.out.trans hk1.bC)
 replace HW:=Lib.hid (HW.out.on hk1)
 clear hk1
 generalize w2.alloc (.cells #[.int .i64 pn,.int .i64 pd,.string pm] 75)=wc at *
 generalize w2.heap.size=bn at *
 by_cases hz:pe≠0
 ·have hb:(pe != 0)=true:=by simpa using hz
  rw[if_pos hz]at aj
  clear hz
  go_wp2_with fail
  go_ret
  exact⟨cR (by rw[aj.out]),(by rw[aj.out];exact aC.out.less HSub.out),HK.out⟩
 rw[if_neg hz]at aj
 obtain rfl:pe=0:=Classical.not_not.1 hz
 clear hz
 have f0:=aC.out.c0
 have b0:=HP.out.cell 1 _ rfl
 have b1:=HP.out.cell 2 _ rfl
 have HL:=Lib.hid ((aC.out.on (aa.refl af wc).drew).lA fun R hR=>G0 hR pd pm)
 rw[show iU d pd pm=(O:ag × Int).1 by rw[aj.out]<;>rfl,show gF d pd pm=(O:ag × Int).2 by rw[aj.out]<;>rfl]at HL
 go_upto_region 7 with fail
 go_still_tail 8,(by kernel_rfl)
 change wpList _ _ _ _ _ wc.drew
 replace HK:Hid (aa (fun g=>¬N g) w wc.drew):=HK.out.drew
 generalize wc.drew=wd at *
 go_wp2_with(go_at_call 88;go_loud(refine HL.out.mono ?_);rintro e w5 ⟨rfl,fO,k5⟩)
 go_ret
 exact⟨rfl,fO.less HSub.out,HK.out.trans (k5.mono (fun g _ hg hN=>hg (HSub.out g hN)))⟩
end
section
variable{N:Nat->Prop} {w w':World} {F a:Nat} {d d':ag} {room calls fail:Int}
theorem P7 (h:aY N w F a d room calls fail) (hc0:0<=calls) (hc1:calls<=4611686018427387904) (oF:aH d+1<=2147483648) (at' mask:Int) (old s:ByteArray) (s7:old.size<=4294967280) (hsz:s.size<=4294967280) :
 Calls Tryz.prog 49 #[.pointer (some ⟨F,0,none⟩),.agg #[.int .i64 at',.int .i64 mask],.string old,.string s] w
  (lz N w F a (bz calls fail d (kH d room at' old s)).1 room (calls+1) fail (.int .i64 (bz calls fail d (kH d room at' old s)).2)):=by
 have fG:aa af w (w.alloc (.cells #[.int .i64 at',.int .i64 mask] 34)):=(aa.refl _ _).alloc _
 obtain⟨N1,hsub,hnew,FS⟩:=h.wider fG
 have HW:=Lib.hid (Bx.new (aa.refl af (w.alloc (.cells #[.int .i64 at',.int .i64 mask] 34))))
 have jD:=Lib.hid (hnew w.heap.size (Nat.le_refl _) (by simp))
 have HK:=Lib.hid (fG.bC (F:=fun g=>¬N g))
 have HSub:=Lib.hid hsub
 clear hsub hnew h fG
 have HC:=Lib.hid (q9 FS hc0 hc1)
 obtain⟨ce,hce⟩:∃ce,eG calls fail=ce:=⟨_,rfl⟩
 obtain⟨O,hO⟩:∃O,bz calls fail d (kH d room at' old s)=O:=⟨_,rfl⟩
 have aj:=Lib.hid (show O=if ce≠0 then(d,ce)else kH d room at' old s by rw[<- hO];unfold bz;rw[hce])
 rw[hO]
 clear hO
 rw[hce]at HC
 clear hce FS hc0 hc1
 go_enter Tryz.func49,Tryz.ntmps49
 go_upto_region 1 with fail
 generalize w.alloc (.cells #[.int .i64 at',.int .i64 mask] 34)=w0 at *
 generalize w.heap.size=W at *
 go_upto_region 2 with(go_at_call 38;go_loud(refine HC.out.mono ?_);rintro e wc ⟨rfl,FS,k1⟩;replace HW:=Lib.hid (HW.out.keep k1 (fun hh=>hh jD.out));replace HK:=Lib.hid (HK.out.trans (k1.mono (fun g _ hg hN=>hg (HSub.out g hN)))))
 have aC:=Lib.hid FS
 clear HC k1 FS
 by_cases hz:ce≠0
 ·have hb:(ce != 0)=true:=by simpa using hz
  rw[if_pos hz]at aj
  clear hz
  go_wp2_with fail
  go_ret
  exact⟨cR (by rw[aj.out]),(by rw[aj.out];exact aC.out.less HSub.out),HK.out⟩
 rw[if_neg hz]at aj
 obtain rfl:ce=0:=Classical.not_not.1 hz
 clear hz
 unfold kH at aj
 obtain⟨X,hX⟩:∃X,aL d at' old false=X:=⟨_,rfl⟩
 have aW:=Lib.hid (fun(w1:World) (hk:aa af wc w1)=>(aC.out.on hk).wC at' old false s7)
 rw[hX]at aW aj
 obtain⟨⟨pn,pd,pm⟩,pe⟩:=X
 unfold aF at aW
 simp only at aW aj
 have rq:=Lib.hid hX
 clear hX
 have f0:=aC.out.c0
 have b0:=HW.out.cell 0 _ rfl
 go_upto_region 4 with fail
 go_cut [10,11]from 10 to 30 (fun x y wx=>∃G:Nat,wc.heap.size<=G∧x=.pointer (some ⟨G,0,none⟩)∧y=.int .i64 pe∧Bx wx G [.int .i64 pn,.int .i64 pd,.string pm]∧aa af wc wx)
 case first =>
  have kr:=aa.refl af wc
  have bh:=kr.drew
  have d0:=(aC.out.on bh).c0
  have d1:=(HW.out.on bh).cell 0 _ rfl
  go_region_held3 (fun wz=>wz.cell? ⟨F,0,none⟩=some (.pointer (some ⟨a,0,none⟩))∧wz.cell? ⟨W,0,none⟩=some (.int .i64 at')∧aa af wc wz) (refine⟨?_,?_,?_⟩<;>first|with_reducible assumption|(with_reducible refine(aC.out.on ?_).c0;exact kA)|(with_reducible refine(HW.out.on ?_).cell 0 _ rfl;exact kA)|(exact kA))
   (first|(go_at_call 27;refine(aW.out _ kA).mono ?_;rintro e w2 ⟨rfl,hk2⟩;have bV:aa af wc w2:=aa.trans kA hk2;have zs:=bV.size;have z0:=(aC.out.on bV).c0;have z1:=(HW.out.on bV).cell 0 _ rfl;(try(have yb:=Bx.bW hk2;have y0:=yb.cell 0 _ rfl;have y1:=yb.cell 1 _ rfl;have y2:=yb.cell 2 _ rfl;have yf:=yb.fz))))
  all_goals(go_wp2_with fail;go_meet;refine⟨_,?_,rfl,rfl,?_,?_⟩)
  all_goals first
   | exact Nat.le_refl _
   | exact zs
   | (with_reducible exact Bx.new (aa.refl af _))
   | (exact((yb.put 0 _).put 1 _).put 2 _)
   | (exact kA)
   | skip
 case rest =>
  obtain⟨bn,hG,rfl,rfl,HP,hk1⟩:=hcut
  replace HP:=Lib.hid HP
  clear f0 b0 aW hG
  replace aC:=Lib.hid (aC.out.on hk1)
  replace HK:=Lib.hid (HK.out.trans hk1.bC)
  replace HW:=Lib.hid (HW.out.on hk1)
  by_cases hz:pe≠0
  ·have hb:(pe != 0)=true:=by simpa using hz
   rw[if_pos hz]at aj
   clear hz
   go_wp2_with fail
   go_ret
   exact⟨cR (by rw[aj.out]),(by rw[aj.out];exact aC.out.less HSub.out),HK.out⟩
  rw[if_neg hz]at aj
  obtain rfl:pe=0:=Classical.not_not.1 hz
  clear hz
  obtain⟨ik,im,il,ih,iz,hik,jN,_,hie⟩:=aC.out.tell pn
  obtain⟨ie,kL⟩:∃ie,(if has d pn then 0 else 12:Int)=ie:=⟨_,rfl⟩
  have cw:=Lib.hid (fun(w1:World) (hk:aa af wc w1)=>(aC.out.on hk).info pn)
  rw[hie,kL]at cw
  rw[<- hik]at aj
  have wG:=Lib.hid hik
  have zP:=Lib.hid jN
  have zQ:=Lib.hid hie
  have zR:=Lib.hid kL
  clear hie kL hik jN
  have f0:=aC.out.c0
  have b0:=HP.out.cell 0 _ rfl
  go_upto_region 7 with fail
  go_cut [12,13]from 12 to 43 (fun x y wx=>∃G:Nat,wc.heap.size<=G∧x=.pointer (some ⟨G,0,none⟩)∧y=.int .i64 ie∧Bx wx G [.int .i64 ik,.int .i64 im,.int .i64 il,.int .i64 ih,.int .i64 iz]∧aa af wc wx)
  case first =>
   have kr:=aa.refl af wc
   have bh:=kr.drew
   have d0:=(aC.out.on bh).c0
   have d1:=(HP.out.on bh).cell 0 _ rfl
   go_region_held3 (fun wz=>wz.cell? ⟨F,0,none⟩=some (.pointer (some ⟨a,0,none⟩))∧wz.cell? ⟨bn,0,none⟩=some (.int .i64 pn)∧aa af wc wz) (refine⟨?_,?_,?_⟩<;>first|with_reducible assumption|(with_reducible refine(aC.out.on ?_).c0;exact kA)|(with_reducible refine(HP.out.on ?_).cell 0 _ rfl;exact kA)|(exact kA))
    (first|(go_at_call 28;refine(cw.out _ kA).mono ?_;rintro e w2 ⟨rfl,hk2⟩;have bV:aa af wc w2:=aa.trans kA hk2;have zs:=bV.size;have z0:=(aC.out.on bV).c0;have z1:=(HP.out.on bV).cell 0 _ rfl;(try(have yb:=Bx.bW hk2;have y0:=yb.cell 0 _ rfl;have y1:=yb.cell 1 _ rfl;have y2:=yb.cell 2 _ rfl;have y3:=yb.cell 3 _ rfl;have y4:=yb.cell 4 _ rfl;have yf:=yb.fz))))
   all_goals(go_wp2_with fail;go_meet;refine⟨_,?_,rfl,rfl,?_,?_⟩)
   all_goals first
    | exact Nat.le_refl _
    | exact zs
    | (with_reducible exact Bx.new (aa.refl af _))
    | (exact((((yb.put 0 _).put 1 _).put 2 _).put 3 _).put 4 _)
    | (exact kA)
    | skip
  case rest =>
   obtain⟨Dj,hG,rfl,rfl,HI,hk1⟩:=hcut
   replace HI:=Lib.hid HI
   clear f0 b0 cw hG
   replace aC:=Lib.hid (aC.out.on hk1)
   replace HK:=Lib.hid (HK.out.trans hk1.bC)
   replace HW:=Lib.hid (HW.out.on hk1)
   replace HP:=Lib.hid (HP.out.on hk1)
   clear hk1
   have i0:=HI.out.cell 0 _ rfl
   by_cases hz:ik=2
   ·have hb:(ik==2)=true:=by simpa using hz
    rw[if_pos hz]at aj
  
    clear hz
    go_wp2_with fail
    go_ret
    exact⟨cR (by rw[aj.out]),(by rw[aj.out];exact aC.out.less HSub.out),HK.out⟩
   rw[if_neg hz]at aj
   have hb:(ik==2)=false:=by simpa using hz
   have Hk:=Lib.hid hz
   clear hz
   have b0:=HW.out.cell 0 _ rfl
   have b1:=HW.out.cell 1 _ rfl
   have bP:=Lib.hid (Dl aC.out at' mask s false hsz)
   obtain⟨X,hX⟩:∃X,eE d at' s false=X:=⟨_,rfl⟩
   rw[hX]at bP aj
   obtain⟨⟨qn,qd,qm⟩,qe⟩:=X
   unfold aF at bP
   simp only at bP aj
   have zT:=Lib.hid hX
   clear hX
   go_upto_region 11 with(go_at_call 39;go_loud(refine bP.out.mono ?_);rintro e w2 ⟨rfl,k2⟩)
   have HQ:=Lib.hid (Bx.new (aa.refl af (w2.alloc (.cells #[.int .i64 qn,.int .i64 qd,.string qm] 75))))
   have hk1:aa af wc (w2.alloc (.cells #[.int .i64 qn,.int .i64 qd,.string qm] 75)):=k2.alloc _
   clear b0 b1 bP k2
   replace aC:=Lib.hid (aC.out.on hk1)
   replace HK:=Lib.hid (HK.out.trans hk1.bC)
   replace HW:=Lib.hid (HW.out.on hk1)
   replace HP:=Lib.hid (HP.out.on hk1)
   replace HI:=Lib.hid (HI.out.on hk1)
   clear hk1
   generalize w2.alloc (.cells #[.int .i64 qn,.int .i64 qd,.string qm] 75)=wc at *
   generalize w2.heap.size=iD at *
   by_cases hz:qe≠0
   ·have hb:(qe != 0)=true:=by simpa using hz
    rw[if_pos hz]at aj
    clear hz
    go_wp2_with fail
    go_ret
    exact⟨cR (by rw[aj.out]),(by rw[aj.out];exact aC.out.less HSub.out),HK.out⟩
   rw[if_neg hz]at aj
   obtain rfl:qe=0:=Classical.not_not.1 hz
   clear hz
   have f0:=aC.out.c0
   have b0:=HQ.out.cell 1 _ rfl
   have b1:=HQ.out.cell 2 _ rfl
   have b2:=HP.out.cell 0 _ rfl
   obtain⟨x1,x2,_⟩:=uD zT.out
   have HL:=Lib.hid ((aC.out.on (aa.refl af wc).drew).lA fun R hR=>CW hR qd qm pn (Nat.le_trans x2 (by decide)) oF (fun _ h2=>absurd (wG.out.trans h2) Hk.out))
   rw[show bM d room qd qm pn=(O:ag × Int).1 by rw[aj.out]<;>rfl,show cH d room qd qm pn=(O:ag × Int).2 by rw[aj.out]<;>rfl]at HL
   go_upto_region 13 with fail
   go_still_tail 10,(by kernel_rfl)
   change wpList _ _ _ _ _ wc.drew
   replace HK:Hid (aa (fun g=>¬N g) w wc.drew):=HK.out.drew
   generalize wc.drew=wd at *
   go_wp2_with(go_at_call 70;go_loud(refine HL.out.mono ?_);rintro e w5 ⟨rfl,fO,k5⟩)
   go_ret
   exact⟨rfl,fO.less HSub.out,HK.out.trans (k5.mono (fun g _ hg hN=>hg (HSub.out g hN)))⟩
end
structure fU (W:World) (P:Nat->Prop) (w:World) (F a:Nat) (d:ag) (room calls fail:Int):Prop where
 ex:∃N:Nat->Prop,(∀g,g<W.heap.size->N g)∧(∀g,P g->N g)∧aY N w F a d room calls fail
 keeps:aa af W w
section
variable{W w w':World} {P P':Nat->Prop} {F a:Nat} {d d':ag} {room calls calls' fail:Int}
theorem fU.inv (h:fU W P w F a d room calls fail):aG d:=by obtain⟨N,_,_,h⟩:=h.ex;exact h.pd.inv
theorem fU.clean (h:fU W P w F a d room calls fail):bK d:=by obtain⟨N,_,_,h⟩:=h.ex;exact h.pd.clean
theorem fU.small (h:fU W P w F a d room calls fail):aP d:=by obtain⟨N,_,_,h⟩:=h.ex;exact h.pd.small
theorem fU.lt (h:fU W P w F a d room calls fail):F<w.heap.size:=by obtain⟨N,_,_,h⟩:=h.ex;exact h.lt
theorem fU.low (h:fU W P w F a d room calls fail) (g:Nat) (hg:P g):g<w.heap.size:=by obtain⟨N,_,h1,h⟩:=h.ex;exact h.low g (h1 g hg)
theorem fU.new {W:World} (h:aY (fun g=>g<W.heap.size) w F a d room calls fail) (k:aa af W w):fU W af w F a d room calls fail :=
 ⟨⟨_,fun _ hg=>hg,fun _ hg=>hg.elim,h⟩,k⟩
theorem fU.more (h:fU W P w F a d room calls fail) (k:aa af w w') (hP:∀g,P' g->P g∨(w.heap.size<=g∧g<w'.heap.size)):fU W P' w' F a d room calls fail:=by
 obtain⟨N,h1,h2,h3⟩:=h.ex
 obtain⟨N1,g1,g2,g3⟩:=h3.wider k
 exact⟨⟨N1,fun g hg=>g1 g (h1 g hg),fun g hg=>(hP g hg).elim (fun h=>g1 g (h2 g h)) (fun h=>g2 g h.1 h.2),g3⟩,h.keeps.trans k⟩
theorem fU.on (h:fU W P w F a d room calls fail) (k:aa af w w'):fU W P w' F a d room calls fail:=h.more k (fun _ hg=>.inl hg)
theorem fU.turn {G:Nat->Prop} (h:fU W P w F a d room calls fail) (k:aa G w w') (hG:∀g,G g->P g∧W.heap.size<=g):fU W P w' F a d room calls fail:=by
 obtain⟨N,h1,h2,h3⟩:=h.ex
 exact⟨⟨N,h1,h2,h3.keep k (fun g hg=>h2 g (hG g hg).1)⟩,h.keeps.step k (fun g hg=>.inr (hG g hg).2)⟩
def Qc (W:World) (P:Nat->Prop) (w:World) (F a:Nat) (d':ag) (room calls' fail:Int) (V:Value):Ending->World->Prop:=fun e w' =>
 e=.returned V∧fU W P w' F a d' room calls' fail∧aa (fun g=>¬(g<W.heap.size∨P g)) w w'
theorem fU.call {f:Nat} {args:Array Value} {V:Value} (h:fU W P w F a d room calls fail) (hc:∀N:Nat->Prop,aY N w F a d room calls fail->Calls Tryz.prog f args w (lz N w F a d' room calls' fail V)) :
 Calls Tryz.prog f args w (Qc W P w F a d' room calls' fail V):=by
 obtain⟨N,h1,h2,h3⟩:=h.ex
 refine(hc N h3).mono ?_
 rintro e w' ⟨rfl,h4,h5⟩
 have k:aa (fun g=>¬(g<W.heap.size∨P g)) w w':=h5.mono (fun g _ hg hn=>hg (hn.elim (h1 g) (h2 g)))
 exact⟨rfl,⟨⟨N,h1,h2,h4⟩,h.keeps.step k (fun g hg=>.inr (by
  rcases Nat.lt_or_ge g W.heap.size with h|h
  ·exact absurd (.inl h) hg
  ·exact h))⟩,k⟩
theorem fU.asks {f:Nat} {args:Array Value} {Q:Ending->World->Prop} (h:fU W P w F a d room calls fail) (hc:∀N:Nat->Prop,aY N w F a d room calls fail->Calls Tryz.prog f args w Q):Calls Tryz.prog f args w Q:=by
 obtain⟨N,_,_,h3⟩:=h.ex
 exact hc N h3
theorem fU.kept (h:fU W P w F a d room calls fail) {B:Nat} {l:List Value} (hb:Bx w B l) (k:aa (fun g=>¬(g<W.heap.size∨P g)) w w') (hB:P B):Bx w' B l:=hb.keep k (fun hn=>hn (.inr hB))
end
structure jE where
 kind:Int
 s:ByteArray
 t:ByteArray
 m:Int
 n:Int
 k:Int
def pE:hU jE where
 enc:=fun o=>[.int .i64 o.kind,.string o.s,.string o.t,.int .i64 o.m,.int .i64 o.n,.int .i64 o.k]
 k:=6
 pos:=by decide
 len:=fun _=>rfl
 one:=fun x v hv=>by simp at hv;rcases hv with rfl|rfl|rfl|rfl|rfl|rfl<;>rfl
def okO (o:jE):Bool:=decide ((o.s.size:Int)<=5000∧(o.t.size:Int)<=5000∧0<=o.m∧o.m<=4095∧0<=o.n∧o.n<=31∧(o.k<1000∨4194304<o.k))
theorem QV (kd m n k:Int) (s t:ByteArray) (hs:s.size<=9223372036854775807) (ht:t.size<=9223372036854775807) (w:World) :
 Calls Tryz.prog 20 #[.agg #[.int .i64 kd,.string s,.string t,.int .i64 m,.int .i64 n,.int .i64 k]] w fun e w'=>e=.returned (.bool (okO ⟨kd,s,t,m,n,k⟩))∧aa af w w':=by
 by_cases h1:(s.size:Int)<=5000
 case neg =>
  have HO:Hid (okO ⟨kd,s,t,m,n,k⟩=false):=Lib.hid (by unfold okO;exact decide_eq_false (fun x=>h1 (x.1)))
  go_enter Tryz.func20,Tryz.ntmps20
  go_wp2_with fail
  go_ret
  exact⟨by rw[HO.out];rfl,(aa.refl _ _).alloc _⟩
 by_cases h2:(t.size:Int)<=5000
 case neg =>
  have HO:Hid (okO ⟨kd,s,t,m,n,k⟩=false):=Lib.hid (by unfold okO;exact decide_eq_false (fun x=>h2 (x.2.1)))
  go_enter Tryz.func20,Tryz.ntmps20
  go_wp2_with fail
  go_ret
  exact⟨by rw[HO.out];rfl,(aa.refl _ _).alloc _⟩
 by_cases h3:0<=m
 case neg =>
  have HO:Hid (okO ⟨kd,s,t,m,n,k⟩=false):=Lib.hid (by unfold okO;exact decide_eq_false (fun x=>h3 (x.2.2.1)))
  go_enter Tryz.func20,Tryz.ntmps20
  go_wp2_with fail
  go_ret
  exact⟨by rw[HO.out];rfl,(aa.refl _ _).alloc _⟩
 by_cases h4:m<=4095
 case neg =>
  have HO:Hid (okO ⟨kd,s,t,m,n,k⟩=false):=Lib.hid (by unfold okO;exact decide_eq_false (fun x=>h4 (x.2.2.2.1)))
  go_enter Tryz.func20,Tryz.ntmps20
  go_wp2_with fail
  go_ret
  exact⟨by rw[HO.out];rfl,(aa.refl _ _).alloc _⟩
 by_cases h5:0<=n
 case neg =>
  have HO:Hid (okO ⟨kd,s,t,m,n,k⟩=false):=Lib.hid (by unfold okO;exact decide_eq_false (fun x=>h5 (x.2.2.2.2.1)))
  go_enter Tryz.func20,Tryz.ntmps20
  go_wp2_with fail
  go_ret
  exact⟨by rw[HO.out];rfl,(aa.refl _ _).alloc _⟩
 by_cases h6:n<=31
 case neg =>
  have HO:Hid (okO ⟨kd,s,t,m,n,k⟩=false):=Lib.hid (by unfold okO;exact decide_eq_false (fun x=>h6 (x.2.2.2.2.2.1)))
  go_enter Tryz.func20,Tryz.ntmps20
  go_wp2_with fail
  go_ret
  exact⟨by rw[HO.out];rfl,(aa.refl _ _).alloc _⟩
 by_cases h7:k<1000
 case pos =>
  have HO:Hid (okO ⟨kd,s,t,m,n,k⟩=true):=Lib.hid (by unfold okO;exact decide_eq_true ⟨h1,h2,h3,h4,h5,h6,.inl h7⟩)
  go_enter Tryz.func20,Tryz.ntmps20
  go_wp2_with fail
  go_ret
  exact⟨by rw[HO.out];rfl,(aa.refl _ _).alloc _⟩
 by_cases h8:4194304<k
 case pos =>
  have HO:Hid (okO ⟨kd,s,t,m,n,k⟩=true):=Lib.hid (by unfold okO;exact decide_eq_true ⟨h1,h2,h3,h4,h5,h6,.inr h8⟩)
  go_enter Tryz.func20,Tryz.ntmps20
  go_wp2_with fail
  go_ret
  exact⟨by rw[HO.out];rfl,(aa.refl _ _).alloc _⟩
 case neg =>
  have HO:Hid (okO ⟨kd,s,t,m,n,k⟩=false):=Lib.hid (by unfold okO;exact decide_eq_false (fun x=>x.2.2.2.2.2.2.elim h7 h8))
  go_enter Tryz.func20,Tryz.ntmps20
  go_wp2_with fail
  go_ret
  exact⟨by rw[HO.out];rfl,(aa.refl _ _).alloc _⟩
def uO (s:ByteArray):ByteArray:=if 10000<s.size then s.extract 0 10000 else s
theorem QW (s:ByteArray) (hs:s.size<=9223372036854775807) (w:World):Calls Tryz.prog 100 #[.string s] w fun e w'=>e=.returned (.string (uO s))∧w'=w:=by
 unfold uO
 by_cases h:10000<s.size
 ·have hz:(10000:Int)<(s.size:Int):=by omega
  rw[if_pos h]
  go_enter Tryz.func100,Tryz.ntmps100
  go_wp2_with fail
  go_ret
  exact⟨rfl,rfl⟩
 ·have hz:¬(10000:Int)<(s.size:Int):=by omega
  rw[if_neg h]
  go_enter Tryz.func100,Tryz.ntmps100
  go_wp2_with fail
  go_ret
  exact⟨rfl,rfl⟩
theorem bt.Ju {S:Nat->Prop} {w:World} {p:Option Addr} {c:Nat} {l:List jE} (h:bt pE S w p c l) {i:Nat} {x:jE} (hi:l[i]?=some x) :
 ∃g off,p=some ⟨g,off,none⟩∧S g∧g<w.heap.size∧w.cell? ⟨g,off+i*6,none⟩=some (.int .i64 x.kind)∧w.cell? ⟨g,off+i*6+1,none⟩=some (.string x.s)∧w.cell? ⟨g,off+i*6+2,none⟩=some (.string x.t) ∧
  w.cell? ⟨g,off+i*6+3,none⟩=some (.int .i64 x.m)∧w.cell? ⟨g,off+i*6+4,none⟩=some (.int .i64 x.n)∧w.cell? ⟨g,off+i*6+5,none⟩=some (.int .i64 x.k):=by
 obtain⟨g,off,hp,hS,hg,hc⟩:=h.at hi
 refine⟨g,off,hp,hS,hg,hc 0 _ rfl,?_,?_,?_,?_,?_⟩
 ·have:=hc 1 _ rfl;rwa [<- Nat.add_assoc]at this
 ·have:=hc 2 _ rfl;rwa [<- Nat.add_assoc]at this
 ·have:=hc 3 _ rfl;rwa [<- Nat.add_assoc]at this
 ·have:=hc 4 _ rfl;rwa [<- Nat.add_assoc]at this
 ·have:=hc 5 _ rfl;rwa [<- Nat.add_assoc]at this
def qw (l:List jE):Bool:=l.all okO&&decide (l.length<=40)
theorem Jv {S:Nat->Prop} {w:World} {p:Option Addr} {c:Nat} {l:List jE} (h:bt pE S w p c l) (hz:∀o∈l,o.s.size<=9223372036854775807∧o.t.size<=9223372036854775807) :
 Calls Tryz.prog 6 #[.slice p l.length c] w fun e w'=>e=.returned (.bool (qw l))∧aa af w w':=by
 have HH:=Lib.hid h
 have HZ:=Lib.hid hz
 have hcap:=h.cap
 have hmax:=h.max
 unfold maxLen at hmax
 clear h hz
 go_enter Tryz.func6,Tryz.ntmps6
 go_wp2
 go_loopw [7] (fun i wr=>∃k:Nat,k<=l.length∧i=.int .i64 k∧(∀o∈l.take k,okO o=true)∧aa af w wr) (fun i _=>l.length+1-(intOf i).toNat)
 case atStart=>exact⟨0,Nat.zero_le _,rfl,fun o ho=>by simp at ho,aa.refl _ _⟩
 case round =>
  obtain⟨k,hk,rfl,hall,hkp⟩:=hrel
  have HA:=Lib.hid hall
  have HK:=Lib.hid hkp
  clear hall hkp
  by_cases hlt:k<l.length
  case pos =>
   have hlz:(k:Int)<(l.length:Int):=by omega
   obtain⟨x,hx⟩:∃x,l[k]?=some x:=⟨_,List.getElem?_eq_getElem hlt⟩
   obtain⟨g,off,rfl,_,_,c0,c1,c2,c3,c4,c5⟩:=(HH.out.ai HK.out).Ju hx
   obtain⟨hs1,hs2⟩:=HZ.out x (List.mem_of_getElem? hx)
   have HN:okO x=true->∀o∈l.take (k+1),okO o=true:=fun e o ho=>by
    obtain⟨h1,h2⟩:=List.getElem?_eq_some_iff.1 hx
    rw[List.take_succ_eq_append_getElem h1,h2]at ho
    rcases List.mem_append.1 ho with h|h
    ·exact HA.out o h
    ·rw[List.mem_singleton.1 h];exact e
   have HM:okO x=false->qw l=false:=fun e=>by
    unfold qw
    rw[Bool.and_eq_false_iff]
    left
    rw[List.all_eq_false]
    exact⟨x,List.mem_of_getElem? hx,by rw[e];decide⟩
   replace HN:=Lib.hid HN
   replace HM:=Lib.hid HM
   obtain⟨kd,s,t,m,n,kk⟩:=x
   simp only at c0 c1 c2 c3 c4 c5 hs1 hs2
   have HR:=Lib.hid (QV kd m n kk s t hs1 hs2)
   clear hx
   obtain⟨bo,Jw⟩:∃bo,okO ⟨kd,s,t,m,n,kk⟩=bo:=⟨_,rfl⟩
   rw[Jw]at HN HM HR
   clear Jw
   cases bo with
   | true =>
     go_wp2_with(go_at_call 20;go_loud(refine(HR.out _).mono ?_);rintro e w4 ⟨rfl,bB⟩)
     go_roundw
     case rel=>exact⟨k+1,by omega,by go_num,(by first|exact HN.out trivial|exact HN.out rfl),(HK.out.alloc _).trans bB⟩
     case measure=>simp[intOf];omega
   | false =>
     go_wp2_with(go_at_call 20;go_loud(refine(HR.out _).mono ?_);rintro e w4 ⟨rfl,bB⟩)
     go_ret
     exact⟨by rw[show qw l=false by first|exact HM.out trivial|exact HM.out rfl];rfl,(HK.out.alloc _).trans bB⟩
  case neg =>
   obtain rfl:k=l.length:=by omega
   have hlz:¬(l.length:Int)<(l.length:Int):=by omega
   have HS:Hid (qw l=decide ((l.length:Int)<=40)):=Lib.hid (by
    unfold qw
    rw[List.all_eq_true.2 (fun o ho=>HA.out o (by rw[List.take_length];exact ho)),Bool.true_and]
    exact decide_eq_decide.2 (by omega))
   go_wp2_with fail
   go_ret
   exact⟨by rw[HS.out];rfl,HK.out⟩
end Go.Proofs.YtnanhmfpikddkaaGreatDoor
namespace Go.Proofs.YtnanhmfpikddkaaGreatDoor
open Go.RowKit
theorem yX {a b:ByteArray} (h:a.data.toList=b.data.toList):a=b:=ByteArray.ext (Array.toList_inj.1 h)
theorem Cl (s:ByteArray) (x:Nat) (t:ByteArray):(over s x t).data.toList=s.data.toList.take x++t.data.toList++s.data.toList.drop (x+t.size):=by simp[over]
theorem NU {D s:ByteArray} {X:Nat} (h:D.size<X):(D++cX (X-D.size)).extract 0 X++s=over (D++cX (max D.size (X+s.size)-D.size)) X s:=by
 have hd:=Lib.size_eq D
 have hs:=Lib.size_eq s
 apply yX
 rw[Cl]
 have e1:((D++cX (X-D.size)).extract 0 X).data.toList=D.data.toList++List.replicate (X-D.size) 0:=by
  have hl:(D.data.toList++List.replicate (X-D.size) (0:UInt8)).length=X:=by rw[List.length_append,List.length_replicate];omega
  simp only[ByteArray.data_extract,ByteArray.data_append,Array.toList_extract,Array.toList_append,cX,Array.toList_replicate]
  rw[List.extract_eq_take_drop]
  simp only[List.drop_zero,Nat.sub_zero]
  rw[Array.toList_append,Array.toList_replicate]
  exact List.take_of_length_le (Nat.le_of_eq hl)
 have e2:(D++cX (max D.size (X+s.size)-D.size)).data.toList=(D.data.toList++List.replicate (X-D.size) 0)++List.replicate s.size 0:=by
  simp only[ByteArray.data_append,Array.toList_append,cX,Array.toList_replicate]
  rw[show max D.size (X+s.size)-D.size=(X-D.size)+s.size by omega,<- List.replicate_append_replicate,List.append_assoc]
 have hl:(D.data.toList++List.replicate (X-D.size) (0:UInt8)).length=X:=by rw[List.length_append,List.length_replicate];omega
 rw[ByteArray.data_append,Array.toList_append,e1,e2]
 rw[List.take_append_of_le_length (by omega),List.take_of_length_le (by omega),List.drop_eq_nil_of_le (by rw[List.length_append,List.length_replicate];omega),List.append_nil]
theorem NV {D s:ByteArray} {X:Nat} (h:X<=D.size) (h2:D.size<=X+s.size):D.extract 0 X++s=over (D++cX (max D.size (X+s.size)-D.size)) X s:=by
 have hd:=Lib.size_eq D
 have hs:=Lib.size_eq s
 apply yX
 rw[Cl]
 have e2:(D++cX (max D.size (X+s.size)-D.size)).data.toList=D.data.toList++List.replicate (X+s.size-D.size) 0:=by
  simp only[ByteArray.data_append,Array.toList_append,cX,Array.toList_replicate]
  rw[show max D.size (X+s.size)-D.size=X+s.size-D.size by omega]
 rw[ByteArray.data_append,Array.toList_append,e2]
 rw[List.take_append_of_le_length (by omega),List.drop_eq_nil_of_le (by rw[List.length_append,List.length_replicate];omega),List.append_nil]
 simp only[ByteArray.data_extract,Array.toList_extract]
 rw[List.extract_eq_take_drop]
 simp
theorem NW {D s:ByteArray} {X:Nat} (h2:X+s.size<D.size):D.extract 0 X++s++D.extract (X+s.size) D.size=over (D++cX (max D.size (X+s.size)-D.size)) X s:=by
 have hd:=Lib.size_eq D
 have hs:=Lib.size_eq s
 apply yX
 rw[Cl]
 have e2:(D++cX (max D.size (X+s.size)-D.size)).data.toList=D.data.toList:=by
  simp only[ByteArray.data_append,Array.toList_append,cX,Array.toList_replicate]
  rw[show max D.size (X+s.size)-D.size=0 by omega]
  simp
 rw[ByteArray.data_append,Array.toList_append,ByteArray.data_append,Array.toList_append,e2]
 simp only[ByteArray.data_extract,Array.toList_extract]
 rw[List.extract_eq_take_drop,List.extract_eq_take_drop]
 simp only[List.drop_zero,Nat.sub_zero]
 rw[List.take_of_length_le (l:=List.drop _ _) (by rw[List.length_drop];omega)]
theorem GV (a:ByteArray):a++⟨#[]⟩=a:=by
 apply yX
 simp[ByteArray.data_append]
theorem NX {D s:ByteArray} {X:Nat} (h:D.size<X):(D++cX (X-D.size)).extract 0 X++s++⟨#[]⟩=over (D++cX (max D.size (X+s.size)-D.size)) X s:=by rw[GV];exact NU h
theorem GW {D s:ByteArray} {X:Nat} (h:X<=D.size) (h2:D.size<=X+s.size):D.extract 0 X++s++⟨#[]⟩=over (D++cX (max D.size (X+s.size)-D.size)) X s:=by rw[GV];exact NV h h2
end Go.Proofs.YtnanhmfpikddkaaGreatDoor
