/-
  Layer 6: contracts of files: Symlink. (Printed by genfiles.py.)
-/
import Derived.Test.YtnanhmfpikddkaaGreatDoorG18
import Derived.Test.YtnanhmfpikddkaaGreatDoorG11
import Derived.Test.YtnanhmfpikddkaaGreatDoorG08
import Derived.Test.YtnanhmfpikddkaaGreatDoorG09
import Derived.Test.YtnanhmfpikddkaaGreatDoorG15
import Derived.Deep.RegionHeld3
import Derived.StillTailTactics

set_option linter.unusedSimpArgs false
set_option linter.unusedVariables false
set_option maxRecDepth 100000
set_option maxHeartbeats 4000000
namespace Go.Proofs.YtnanhmfpikddkaaGreatDoor
open Go Go.RowKit
section
variable{N:Nat->Prop} {w w':World} {F a:Nat} {d d':ag} {room calls fail:Int}
theorem P8 (h:aY N w F a d room calls fail) (hc0:0<=calls) (hc1:calls<=4611686018427387904) (oF:aH d+3<=2147483648) (at' mask:Int) (t s:ByteArray) (hst:t.size<=4294967280) (hsz:s.size<=4294967280) :
 Calls Tryz.prog 47 #[.pointer (some ⟨F,0,none⟩),.agg #[.int .i64 at',.int .i64 mask],.string t,.string s] w
  (lz N w F a (bz calls fail d (kg d room at' t s)).1 room (calls+1) fail (.int .i64 (bz calls fail d (kg d room at' t s)).2)):=by
 have fG:aa af w (w.alloc (.cells #[.int .i64 at',.int .i64 mask] 34)):=(aa.refl _ _).alloc _
 obtain⟨N1,hsub,hnew,FS⟩:=h.wider fG
 have HW:=Lib.hid (Bx.new (aa.refl af (w.alloc (.cells #[.int .i64 at',.int .i64 mask] 34))))
 have jD:=Lib.hid (hnew w.heap.size (Nat.le_refl _) (by simp))
 have HK:=Lib.hid (fG.bC (F:=fun g=>¬N g))
 have HSub:=Lib.hid hsub
 clear hsub hnew h fG
 have HC:=Lib.hid (q9 FS hc0 hc1)
 obtain⟨ce,hce⟩:∃ce,eG calls fail=ce:=⟨_,rfl⟩
 obtain⟨O,hO⟩:∃O,bz calls fail d (kg d room at' t s)=O:=⟨_,rfl⟩
 have aj:=Lib.hid (show O=if ce≠0 then(d,ce)else kg d room at' t s by rw[<- hO];unfold bz;rw[hce])
 rw[hO]
 clear hO
 rw[hce]at HC
 clear hce FS hc0 hc1
 go_enter Tryz.func47,Tryz.ntmps47
 go_upto_region 1 with fail
 generalize w.alloc (.cells #[.int .i64 at',.int .i64 mask] 34)=w0 at *
 generalize w.heap.size=W at *
 go_upto_region 2 with(go_at_call 38;go_loud(refine HC.out.mono ?_);rintro e wc ⟨rfl,FS,k1⟩;replace HW:=Lib.hid (HW.out.keep k1 (fun hh=>hh jD.out));replace HK:=Lib.hid (HK.out.trans (k1.mono (fun g _ hg hN=>hg (HSub.out g hN)))))
 have aC:=Lib.hid FS
 clear HC k1 FS
 by_cases hz:ce≠0
 ·have hb:(ce != 0)=true:=by simpa using hz
  rw[if_pos hz]at aj
  clear hz
  go_wp2_with fail
  go_ret
  exact⟨cR (by rw[aj.out]),(by rw[aj.out];exact aC.out.less HSub.out),HK.out⟩
 rw[if_neg hz]at aj
 obtain rfl:ce=0:=Classical.not_not.1 hz
 clear hz
 unfold kg at aj
 have he:=isEmpty_eq t
 by_cases t0:t=⟨#[]⟩
 ·rw[decide_eq_true t0]at he
  replace aj:=Lib.hid (show O=(d,12)by rw[aj.out];unfold cO;rw[if_pos t0,if_pos (by decide)])
  clear t0
  go_wp2_with fail
  go_ret
  exact⟨cR (by rw[aj.out]),(by rw[aj.out];exact aC.out.less HSub.out),HK.out⟩
 rw[decide_eq_false t0]at he
 by_cases t1:4095<t.size
 ·have hb:(4095:Int)<(t.size:Int):=by omega
  replace aj:=Lib.hid (show O=(d,18)by rw[aj.out];unfold cO;rw[if_neg t0,if_pos t1,if_pos (by decide)])
  clear t0 t1
  go_wp2_with fail
  go_ret
  exact⟨cR (by rw[aj.out]),(by rw[aj.out];exact aC.out.less HSub.out),HK.out⟩
 have hb1:¬(4095:Int)<(t.size:Int):=by omega
 have wH:=Lib.hid (fun wx:World=>PZ t wx)
 by_cases t2:0<=jx t 0
 ·rw[decide_eq_false (by unfold cO;rw[if_neg t0,if_neg t1,if_pos t2];decide:¬cO t=0)]at wH
  replace aj:=Lib.hid (show O=(d,11)by rw[aj.out];unfold cO;rw[if_neg t0,if_neg t1,if_pos t2,if_pos (by decide)])
  clear t0 t1 t2
  go_wp2_with(go_at_call 85;refine(wH.out _).mono ?_;rintro e w' ⟨rfl,rfl⟩)
  go_ret
  exact⟨cR (by rw[aj.out]),(by rw[aj.out];exact aC.out.less HSub.out),HK.out⟩
 rw[decide_eq_true (by unfold cO;rw[if_neg t0,if_neg t1,if_neg t2]:cO t=0)]at wH
 have hpe:cO t=0:=by unfold cO;rw[if_neg t0,if_neg t1,if_neg t2]
 rw[hpe,if_neg (by decide)]at aj
 clear t0 t1 t2 hpe
 go_upto_region 10 with(go_at_call 85;refine(wH.out _).mono ?_;rintro e w' ⟨rfl,rfl⟩)
 clear wH
 have b0:=HW.out.cell 0 _ rfl
 have b1:=HW.out.cell 1 _ rfl
 have bP:=Lib.hid (Dl aC.out at' mask s false hsz)
 obtain⟨X,hX⟩:∃X,eE d at' s false=X:=⟨_,rfl⟩
 rw[hX]at bP aj
 obtain⟨⟨pn,pd,pm⟩,pe⟩:=X
 unfold aF at bP
 simp only at bP aj
 have rq:=Lib.hid hX
 clear hX
 go_upto_region 11 with(go_at_call 39;go_loud(refine bP.out.mono ?_);rintro e w2 ⟨rfl,k2⟩)
 have HP:=Lib.hid (Bx.new (aa.refl af (w2.alloc (.cells #[.int .i64 pn,.int .i64 pd,.string pm] 75))))
 have hk1:aa af wc (w2.alloc (.cells #[.int .i64 pn,.int .i64 pd,.string pm] 75)):=k2.alloc _
 clear b0 b1 bP
 obtain⟨N9,g1,g2,g3⟩:=aC.out.wider hk1
 have I1:=Lib.hid (⟨N9,fun g hg=>g1 g (HSub.out g hg),g2 w2.heap.size k2.size (by simp),g3⟩:∃N2:Nat->Prop,(∀g,N g->N2 g)∧N2 w2.heap.size∧aY N2 _ F a d room (calls+1) fail)
 clear g1 g2 g3 k2
 replace aC:=Lib.hid (aC.out.on hk1)
 replace HK:=Lib.hid (HK.out.trans hk1.bC)
 replace HW:=Lib.hid (HW.out.on hk1)
 clear hk1
 generalize w2.alloc (.cells #[.int .i64 pn,.int .i64 pd,.string pm] 75)=wc at *
 generalize w2.heap.size=bn at *
 by_cases hz:pe≠0
 ·have hb:(pe != 0)=true:=by simpa using hz
  rw[if_pos hz]at aj
  clear hz
  go_wp2_with fail
  go_ret
  exact⟨cR (by rw[aj.out]),(by rw[aj.out];exact aC.out.less HSub.out),HK.out⟩
 rw[if_neg hz]at aj
 obtain rfl:pe=0:=Classical.not_not.1 hz
 clear hz
 have f0:=aC.out.c0
 obtain⟨N2,I2,P9,I3⟩:∃N2:Nat->Prop,(∀g,N g->N2 g)∧N2 bn∧aY N2 wc F a d room (calls+1) fail:=by
  obtain⟨N2,h1,h2,h3⟩:=I1.out
  exact⟨N2,h1,h2,h3⟩
 have jd:=Lib.hid (I3.lA fun R hR=>CT hR 3 511 t (by omega) (Nat.le_trans hst (by decide)))
 replace HSub:=Lib.hid I2
 clear aC I1 I3 I2
 obtain⟨me,hme⟩:∃me,cP d room 3 511 t=me:=⟨_,rfl⟩
 obtain⟨mi,rm⟩:∃mi,lu d room 3 511 t=mi:=⟨_,rfl⟩
 obtain⟨mt,o7⟩:∃mt,iq d room 3 511 t=mt:=⟨_,rfl⟩
 rw[hme,rm,o7]at jd
 go_upto_region 14 with(go_at_call 40;go_loud(refine jd.out.mono ?_);rintro e w4 ⟨rfl,oG,k4⟩)
 have sn:=Lib.hid (HP.out.keep k4 (fun hh=>hh P9))
 replace HK:=Lib.hid (HK.out.trans (k4.mono (fun g _ hg hN=>hg (HSub.out g hN))))
 have aC:=Lib.hid oG
 clear jd oG k4 f0 HP HW
 by_cases hz:me≠0
 ·have ht:mt=d:=by rw[<- o7];unfold iq;rw[if_neg (by rw[hme];exact hz)]
  subst ht
  replace aj:=Lib.hid (show O=(mt,me)by rw[aj.out];unfold gV;rw[hme,if_pos hz])
  have hb:(me != 0)=true:=by simpa using hz
  clear hz hme rm o7
  go_wp2_with fail
  go_ret
  exact⟨cR (by rw[aj.out]),(by rw[aj.out];exact aC.out.less HSub.out),HK.out⟩
 obtain rfl:me=0:=Classical.not_not.1 hz
 obtain⟨e1,e2⟩:=Dd hme
 obtain⟨x1,x2,_⟩:=uD rq.out
 replace aj:=Lib.hid (show O=qu (d++[aU 3 511 t]) room ⟨pn,pd,pm⟩ d.length by rw[aj.out];unfold gV;rw[hme,if_neg (by simp)])
 rw[<- o7,e1]at aC
 rw[<- rm,e2]
 have gm:=Lib.hid (IW aC.out ⟨pn,pd,pm⟩ d.length (by rw[uE];omega) (Nat.le_trans x2 (by decide)) (fun _ _=>ID x1))
 rw[<- aj.out]at gm
 unfold aF at gm
 simp only at gm
 have p0:=sn.out.cell 0 _ rfl
 have p1:=sn.out.cell 1 _ rfl
 have p2:=sn.out.cell 2 _ rfl
 generalize(d.length:Int)=id at *
 clear aC hz e1 e2 x1 x2 hme rm o7 sn
 go_wp2_with(go_at_call 42;go_loud(refine gm.out.mono ?_);rintro e w5 ⟨rfl,fO,k5⟩)
 go_ret
 exact⟨rfl,fO.less HSub.out,HK.out.trans (k5.mono (fun g _ hg hN=>hg (HSub.out g hN)))⟩
end
end Go.Proofs.YtnanhmfpikddkaaGreatDoor
namespace Go.Proofs.YtnanhmfpikddkaaGreatDoor
section
variable{d:ag} {up:Int->Int}
theorem Fc (hI:aG d) (i:Int) (x:ByteArray):aN d i x=0∨has d (aN d i x):=by
 unfold aN
 split
 ·exact .inl rfl
 ·cases hg:bk (nd d i).ah x with
  | none=>exact .inl rfl
  | some k=>exact .inr (hI.tgt i _ (dV hg)).1
theorem LW {i:Int} (h:bI d i=0):has d i:=by
 unfold bI at h
 split at h
 ·next h1=>exact absurd h h1
 ·next h1=>exact(oO (Classical.not_not.1 h1)).1
theorem U0 (hI:aG d) (cA:∀i,up i=0∨has d (up i)) {at':Int} {x:ByteArray} {fl:Bool} {n:Nat} (h:(ck d up at' x fl n).e=0) :
 (ck d up at' x fl n).p.node=0∨has d (ck d up at' x fl n).p.node:=by
 unfold ck at h ⊢
 by_cases h1:bI d at'≠0
 ·rw[if_pos h1]at h;exact absurd h h1
 rw[if_neg h1]at h ⊢
 have h1':=LW (Classical.not_not.1 h1)
 split
 ·exact .inr h1'
 ·split
  ·exact cA at'
  ·split
   ·exact .inl rfl
   ·split
    ·exact Fc hI _ _
    ·split
     ·exact Fc hI _ _
     ·split
      ·exact .inl rfl
      ·exact Fc hI _ _
theorem LX (hI:aG d) (cA:∀i,up i=0∨has d (up i)) {slash follow:Bool} {q:aJ}:∀(l:List ByteArray) (at':Int) (n:Nat) (p:aJ),(p.node=0∨has d p.node)->scan d up slash follow l at' n p=.fin q->q.node=0∨has d q.node
 | [],_,_,p,hp,h=>by
   rw[scan]at h
   cases h;exact hp
 | x::r,at',n,p,_,h=>by
   rw[scan]at h
   by_cases h1:(ck d up at' x (!r.isEmpty||slash||follow) n).e≠0
   ·rw[if_pos h1]at h;cases h
   rw[if_neg h1]at h
   split at h
   ·cases h
   ·split at h
    ·cases h
    ·exact LX hI cA r _ _ _ (U0 hI cA (Classical.not_not.1 h1)) h
theorem En (hI:aG d) (cA:∀i,up i=0∨has d (up i)) {follow:Bool}:∀(fuel:Nat) (i:Int) (s:ByteArray) (n:Nat),(eD d up follow fuel i s n).2=0->(eD d up follow fuel i s n).1.node=0∨has d (eD d up follow fuel i s n).1.node
 | 0,_,_,_,h=>by rw[eD]at h;cases h
 | fuel+1,i,s,n,h=>by
   rw[eD]at h ⊢
   by_cases h1:cO s≠0
   ·rw[if_pos h1]at h;exact absurd h h1
   rw[if_neg h1]at h ⊢
   by_cases h2:iG s=[]
   ·rw[if_pos h2]at h ⊢
    exact .inr (LW h)
   rw[if_neg h2]at h ⊢
   rw[CY h2 _ (.no)]at h ⊢
   cases hs:scan d up (cg s) follow (iG s) (if fj s then 1 else i) n .no with
   | fin p =>
     rw[hs]at h
     have hp:=LX hI cA _ _ _ _ (.inl rfl) hs
     show(jC d p (cg s)).1.node=0∨has d (jC d p (cg s)).1.node
     unfold jC
     split
     ·exact hp
     ·split
      ·exact .inl rfl
      ·exact hp
   | err e=>exact .inl rfl
   | again at' s' n' =>
     rw[hs]at h
     exact En hI cA fuel _ _ _ h
theorem KJ (hI:aG d) (i:Int):iA d i=0∨has d (iA d i):=by
 by_cases h1:i=1
 ·subst h1
  right
  rw[show iA d 1=1 by unfold iA;rw[if_pos rfl]]
  unfold has
  rw[hI.root];decide
 unfold iA
 rw[if_neg h1]
 split
 ·next h =>
  right
  obtain⟨_,e,he,_⟩:=Classical.choose_spec h
  intro h0
  have:=(hI.node (Classical.choose h)).gone h0
  rw[this]at he
  cases he
 ·exact .inl rfl
theorem qv (hI:aG d) {at':Int} {s:ByteArray} {follow:Bool} (h:(aL d at' s follow).2=0):has d (aL d at' s follow).1.node:=by
 unfold aL iL at h ⊢
 by_cases h1:(aQ d at' s follow).2≠0
 ·rw[if_pos h1]at h;exact absurd h h1
 rw[if_neg h1]at h ⊢
 by_cases h2:(aQ d at' s follow).1.node=0
 ·rw[if_pos h2]at h;cases h
 rw[if_neg h2]
 exact(En hI (KJ hI) 41 at' s 0 (Classical.not_not.1 h1)).resolve_left h2
end
section
variable{d:ag} {at':Int} {s:ByteArray} {folder:Bool} {P:aJ} {e room:Int}
theorem Mp (h:aL d at' s false=(P,e)) (he:e≠0):eI d at' s folder=(d,e):=by
 have hg:jk d at' s folder=(.no,e):=by unfold jk;rw[h];exact if_pos he
 unfold eI;rw[hg];exact if_pos he
theorem Mq (h:aL d at' s false=(P,0)) (hf:folder=true) (hk:¬(nd d P.node).kind=2):eI d at' s folder=(d,14):=by
 have hg:jk d at' s folder=(.no,14):=by
  unfold jk;rw[h]
  exact(if_neg (show ¬(0:Int)≠0 by simp)).trans (if_pos ⟨hf,hk⟩)
 unfold eI;rw[hg];exact if_pos (by decide)
theorem Mr (h:aL d at' s false=(P,0)) (hf:folder=false) (hk:(nd d P.node).kind=2):eI d at' s folder=(d,15):=by
 have hg:jk d at' s folder=(.no,15):=by
  unfold jk;rw[h]
  exact(if_neg (show ¬(0:Int)≠0 by simp)).trans ((if_neg (fun x=>by rw[hf]at x;cases x.1)).trans (if_pos ⟨hf,hk⟩))
 unfold eI;rw[hg];exact if_pos (by decide)
theorem FC (h:aL d at' s false=(P,0)) (hk:(folder=true∧(nd d P.node).kind=2)∨(folder=false∧¬(nd d P.node).kind=2)):jk d at' s folder=if P.name=⟨#[]⟩then(.no,23)else(P,cD d P.dir 128):=by
 unfold jk;rw[h]
 refine(if_neg (show ¬(0:Int)≠0 by simp)).trans ((if_neg (fun x=>?_)).trans ((if_neg (fun x=>?_)).trans rfl))
 ·rcases hk with⟨_,k⟩|⟨k,_⟩
  ·exact x.2 k
  ·rw[k]at x;cases x.1
 ·rcases hk with⟨k,_⟩|⟨_,k⟩
  ·rw[k]at x;cases x.1
  ·exact k x.2
theorem FD (h:aL d at' s false=(P,0)) (hk:(folder=true∧(nd d P.node).kind=2)∨(folder=false∧¬(nd d P.node).kind=2)) (hn:P.name=⟨#[]⟩):eI d at' s folder=(d,23):=by
 unfold eI;rw[FC h hk,if_pos hn];exact if_pos (by decide)
theorem FE (h:aL d at' s false=(P,0)) (hk:(folder=true∧(nd d P.node).kind=2)∨(folder=false∧¬(nd d P.node).kind=2)) (hn:¬P.name=⟨#[]⟩) :
 eI d at' s folder=if cD d P.dir 128≠0 then(d,cD d P.dir 128)else(iU d P.dir P.name,gF d P.dir P.name):=by
 unfold eI;rw[FC h hk,if_neg hn]
end
noncomputable def pS (d:ag) (at':Int) (s:ByteArray):ByteArray × Int :=
 if (aL d at' s false).2≠0 then(⟨#[]⟩,(aL d at' s false).2)else if (nd d (aL d at' s false).1.node).kind≠3 then(⟨#[]⟩,43)else((nd d (aL d at' s false).1.node).data,0)
noncomputable def fI (d:ag) (at':Int) (s:ByteArray) (bit:Int):Int × Int :=
 if (aL d at' s true).2≠0 then(0,(aL d at' s true).2)else if (nd d (aL d at' s true).1.node).kind≠2 then(0,14)else if (nd d (aL d at' s true).1.node).mode / bit % 2=0 then(0,19)else((aL d at' s true).1.node,0)
end Go.Proofs.YtnanhmfpikddkaaGreatDoor
set_option maxHeartbeats 8000000
namespace Go.Proofs.YtnanhmfpikddkaaGreatDoor
open Go Go.RowKit
section
variable{S:Nat->Prop} {w:World} {p:Option Addr} {c:Nat} {d:ag} {room calls fail:Int}
theorem RU (H:R6 S w p c d calls) (at' mask:Int) (t s:ByteArray) (tU:s.size<=4294967280) (hst:t.size<=4294967280) :
 Calls Tryz.prog 48 #[fV p c d.length room calls fail,.agg #[.int .i64 at',.int .i64 mask],.string t,.string s] w (l8 S w (bz calls fail d (kg d room at' t s)) room (calls+1) fail):=by
 have HH:=Lib.hid H
 have cm:=Lib.hid (qG p c d.length room calls fail H.c0 H.c1)
 unfold fV at *
 obtain⟨X,hX⟩:∃X,bz calls fail d (kg d room at' t s)=X:=⟨_,rfl⟩
 rw[hX]
 replace hX:=Lib.hid hX
 clear H
 go_enter Tryz.func48,Tryz.ntmps48
 go_upto_region 1 with fail
 have HF:=Lib.hid (F6.new w (.slice p d.length c) room calls fail #[.int .i64 at',.int .i64 mask] #[.slice none 0 0,.int .i64 0,.int .i64 0,.int .i64 0] 39 40 39)
 generalize((w.alloc (.cells #[.slice p d.length c,.int .i64 room,.int .i64 calls,.int .i64 fail] 39)).alloc (.cells #[.int .i64 at',.int .i64 mask] 40)).alloc (.cells #[.slice none 0 0,.int .i64 0,.int .i64 0,.int .i64 0] 39)=w0 at *
 obtain⟨f0,f1,f2,f3,u0,u1,ak,aq,au,aB,ay,av,aA,ax⟩:=HF.out.all
 by_cases bG:calls=fail
 case pos =>
  have hx:X=(d,21):=hX.out.symm.trans (by unfold bz eG;rw[if_pos bG,if_pos (by decide)])
  subst hx
  rw[if_pos bG]at cm
  clear hX bG
  go_upto_region 2 with(go_at_call 81;go_loud(refine(cm.out _).mono ?_);rintro e w1 ⟨rfl,hkn⟩;(clear f0 f1 f2 f3 u0 u1 ak aq au aB ay av aA ax;replace HF:=Lib.hid (HF.out.on hkn);obtain⟨f0,f1,f2,f3,u0,u1,ak,aq,au,aB,ay,av,aA,ax⟩:=HF.out.all))
  replace HF:=Lib.hid (HF.out.jU (.slice p d.length c) room (calls+1) fail)
  clear f0 f1 f2 f3 u0 u1 ak aq au aB ay av aA ax
  clear hkn
  generalize(((w1.setCell ⟨w.heap.size,0,none⟩ (.slice p d.length c)).setCell ⟨w.heap.size,1,none⟩ (.int .i64 room)).setCell ⟨w.heap.size,2,none⟩ (.int .i64 (calls+1))).setCell ⟨w.heap.size,3,none⟩ (.int .i64 fail)=w2 at *
  obtain⟨f0,f1,f2,f3,u0,u1,ak,aq,au,aB,ay,av,aA,ax⟩:=HF.out.all
  go_wp2_with fail
  refine bodyPost_ret (v:=.tuple #[.agg #[.slice p d.length c,.int .i64 room,.int .i64 (calls+1),.int .i64 fail],.int .i64 21]) ?_ rfl ⟨p,c,rfl,HH.out.rows.ai (HF.out.fin _ _ _ _),HF.out.fin _ _ _ _⟩
  rw[cL rfl]
  go_simp
 case neg =>
 have jB:X=kg d room at' t s:=hX.out.symm.trans (by unfold bz eG;rw[if_neg bG,if_neg (by decide)])
 rw[if_neg bG]at cm
 replace hX:=Lib.hid jB
 clear bG jB
 go_upto_region 2 with(go_at_call 81;go_loud(refine(cm.out _).mono ?_);rintro e w1 ⟨rfl,hkn⟩;(clear f0 f1 f2 f3 u0 u1 ak aq au aB ay av aA ax;replace HF:=Lib.hid (HF.out.on hkn);obtain⟨f0,f1,f2,f3,u0,u1,ak,aq,au,aB,ay,av,aA,ax⟩:=HF.out.all))
 replace HF:=Lib.hid (HF.out.jU (.slice p d.length c) room (calls+1) fail)
 clear f0 f1 f2 f3 u0 u1 ak aq au aB ay av aA ax
 clear hkn cm
 generalize(((w1.setCell ⟨w.heap.size,0,none⟩ (.slice p d.length c)).setCell ⟨w.heap.size,1,none⟩ (.int .i64 room)).setCell ⟨w.heap.size,2,none⟩ (.int .i64 (calls+1))).setCell ⟨w.heap.size,3,none⟩ (.int .i64 fail)=w2 at *
 have HR:=Lib.hid (HH.out.rows.first (L:=[w.heap.size,w.heap.size+1,w.heap.size+1+1]) HF.out.k (by simp;omega))
 unfold kg at hX
 obtain⟨f0,f1,f2,f3,u0,u1,ak,aq,au,aB,ay,av,aA,ax⟩:=HF.out.all
 by_cases h12:t.size=0
 case pos =>
  have he:t.toList.isEmpty=true:=by rw[n8];simp[h12]
  have hpe:cO t=12:=if_pos (ByteArray.ext (Array.eq_empty_of_size_eq_zero h12))
  obtain rfl:X=(d,12):=hX.out.trans (by rw[hpe];exact if_pos (by decide))
  clear hX hpe h12
  go_wp2_with fail
  refine bodyPost_ret (v:=.tuple #[.agg #[.slice p d.length c,.int .i64 room,.int .i64 (calls+1),.int .i64 fail],.int .i64 12]) ?_ rfl ⟨p,c,rfl,HH.out.rows.ai (HF.out.fin _ _ _ _),HF.out.fin _ _ _ _⟩
  rw[cL rfl]
  go_simp
 case neg =>
 have he:t.toList.isEmpty=false:=by rw[n8];simp[h12]
 have hte:¬t=⟨#[]⟩:=fun e=>h12 (by rw[e];rfl)
 by_cases LR:4095<t.size
 case pos =>
  have UI:(4095:Int)<(t.size:Int):=by omega
  have hpe:cO t=18:=by unfold cO;rw[if_neg hte,if_pos LR]
  obtain rfl:X=(d,18):=hX.out.trans (by rw[hpe];exact if_pos (by decide))
  clear hX hpe h12 hte
  go_wp2_with fail
  refine bodyPost_ret (v:=.tuple #[.agg #[.slice p d.length c,.int .i64 room,.int .i64 (calls+1),.int .i64 fail],.int .i64 18]) ?_ rfl ⟨p,c,rfl,HH.out.rows.ai (HF.out.fin _ _ _ _),HF.out.fin _ _ _ _⟩
  rw[cL rfl]
  go_simp
 case neg =>
 have UI:¬(4095:Int)<(t.size:Int):=by omega
 have A8:Hid (cO t=if 0<=jx t 0 then 11 else 0):=Lib.hid (by unfold cO;rw[if_neg hte,if_neg LR])
 go_upto_region 9 with fail
 go_loopw [11] (fun i wr=>∃j:Nat,j<=t.size∧i=.int .i64 j∧(∀(i:Nat) (hi:i<t.size),i<j->¬t[i]=0)∧wr=w2) (fun i _=>t.size+1-(intOf i).toNat)
 case atStart=>exact⟨0,Nat.zero_le _,rfl,fun i _ h=>by omega,rfl⟩
 case round =>
  obtain⟨j,hj,rfl,hno,UJ⟩:=hrel
  obtain rfl:w2=wr:=UJ.symm
  have ru:=Lib.hid hno
  clear hno
  by_cases hlt:j<t.size
  case pos =>
   have hlz:(j:Int)<(t.size:Int):=by omega
   have hbe:=qM (t[j]'hlt) 0 (by decide) (by decide)
   rw[show(0:Int).toNat.toUInt8=0 from rfl]at hbe
   obtain⟨ch,hch⟩:∃ch,t[j]'hlt=ch:=⟨_,rfl⟩
   rw[hch]at hbe
   by_cases hc0:ch=0
   case pos =>
    have hpe:cO t=11:=by
     rw[A8.out,if_pos]
     have h1:=yz t 0
     have h2:=(ug t 0).2 ⟨j,hlt,hch.trans hc0⟩
     have h3:¬jx t 0<0:=fun h=>by rw[h1.1 h]at h2;cases h2
     omega
    obtain rfl:X=(d,11):=hX.out.trans (by rw[hpe];exact if_pos (by decide))
    rw[decide_eq_true hc0]at hbe
    clear hX hpe h12 hte A8 hc0
    go_wp2_with fail
    refine bodyPost_ret (v:=.tuple #[.agg #[.slice p d.length c,.int .i64 room,.int .i64 (calls+1),.int .i64 fail],.int .i64 11]) ?_ rfl ⟨p,c,rfl,HH.out.rows.ai (HF.out.fin _ _ _ _),HF.out.fin _ _ _ _⟩
    rw[cL rfl]
    go_simp
   case neg =>
    have CN:Hid (∀(i:Nat) (hi:i<t.size),i<j+1->¬t[i]=0):=Lib.hid fun i hi pU=>by
     by_cases e:i=j
     ·subst e;rw[hch];exact hc0
     ·exact ru.out i hi (by omega)
    rw[decide_eq_false hc0]at hbe
    clear hc0 ru
    go_wp2_with fail
    exact⟨⟨j+1,by omega,rfl,CN.out,trivial⟩,by simp[intOf];omega⟩
  case neg =>
   have hlz:¬(j:Int)<(t.size:Int):=by omega
   have hpe:cO t=0:=by
    rw[A8.out,if_neg]
    intro h
    have h1:=yz t 0
    have h2:¬hasB t 0=false:=fun e=>by have:=h1.2 e;omega
    obtain⟨i,hi,hz⟩:=(ug t 0).1 (by simpa using h2)
    exact ru.out i hi (by omega) hz
   rw[hpe]at hX
   replace hX:=Lib.hid (hX.out.trans (if_neg (by simp)))
   clear hpe ru A8 hte h12
   clear f0 f1 f2 f3 u0 u1 ak aq au aB ay av aA ax
   have bP:=Lib.hid (fun(wx:World) (k:aa af w2 wx)=>E0 (room:=room) (fail:=fail) (calls':=calls+1) HH.out (HR.out.ai k) at' mask s false tU)
   have hfo:=fun he:(eE d at' s false).2=0=>uD (d:=d) (at':=at') (s:=s) (slash:=false) (p:=(eE d at' s false).1) (by rw[<- he])
   obtain⟨Z,hZ⟩:∃Z,eE d at' s false=Z:=⟨_,rfl⟩
   rw[hZ]at bP hX hfo
   clear hZ
   obtain⟨⟨yn,yd,ym⟩,ye⟩:=Z
   unfold A6 fV at bP
   simp only at bP hfo
   obtain⟨f0,f1,f2,f3,u0,u1,ak,aq,au,aB,ay,av,aA,ax⟩:=HF.out.all
   go_upto_region 14 with(go_at_call 82;go_loud(refine(bP.out _ (aa.refl _ _)).mono ?_);rintro e w3 ⟨⟨qn,qd,qm⟩,rfl,hq,hkn⟩;(clear f0 f1 f2 f3 u0 u1 ak aq au aB ay av aA ax;replace HF:=Lib.hid (HF.out.on hkn);obtain⟨f0,f1,f2,f3,u0,u1,ak,aq,au,aB,ay,av,aA,ax⟩:=HF.out.all))
   replace hq:=Lib.hid hq
   have A9:w.heap.size+3<=w3.heap.size:=by omega
   have bn:=Lib.hid (Bk.new (aa.refl af (w3.alloc (.cells #[.int .i64 qn,.int .i64 qd,.string qm] 82))))
   replace HF:=Lib.hid (HF.out.on ((aa.refl af w3).alloc (.cells #[.int .i64 qn,.int .i64 qd,.string qm] 82)))
   replace HR:=Lib.hid ((HR.out.ai hkn).ai ((aa.refl af w3).alloc (.cells #[.int .i64 qn,.int .i64 qd,.string qm] 82)))
   clear bP
   clear f0 f1 f2 f3 u0 u1 ak aq au aB ay av aA ax
   clear hkn
   generalize w3.alloc (.cells #[.int .i64 qn,.int .i64 qd,.string qm] 82)=w4 at *
   generalize w3.heap.size=PB at *
   obtain⟨f0,f1,f2,f3,u0,u1,ak,aq,au,aB,ay,av,aA,ax⟩:=HF.out.all
   by_cases cC:ye=0
   case neg =>
    have hb:(ye != 0)=true:=by simpa using cC
    obtain rfl:X=(d,ye):=hX.out.trans (if_pos cC)
    clear hX cC
    go_wp2_with fail
    refine bodyPost_ret (v:=.tuple #[.agg #[.slice p d.length c,.int .i64 room,.int .i64 (calls+1),.int .i64 fail],.int .i64 ye]) ?_ rfl ⟨p,c,rfl,HH.out.rows.ai (HF.out.fin _ _ _ _),HF.out.fin _ _ _ _⟩
    rw[cL rfl]
    go_simp
   case pos =>
    subst cC
    have hx2:=hX.out.trans (if_neg (by simp))
    have tT:=hq.out rfl
    cases tT
    obtain⟨o1,o2,o3,o4,o5⟩:=hfo rfl
    have xI:yn=0:=o3
    clear o3 o4 o5
    subst xI
    have hne:yd≠d.length:=fun e=>by
     have:=bF o1
     omega
    have xJ:Hid (∀wx,aa af w4 wx->Calls Tryz.prog 83 #[fV p c d.length room (calls+1) fail,.agg #[.int .i64 0,.int .i64 yd,.string ym],.int .i64 3,.int .i64 511,.string t] wx (l8 (NI S [w.heap.size,w.heap.size+1,w.heap.size+1+1]) wx X room (calls+1) fail)):=Lib.hid fun wx k=>by
     rw[hx2]
     exact LQ (HR.out.ai k) (NI.new HH.out.all (HF.out.k.trans k) (by have:=HF.out.b2.lt;have:=k.size;simp;omega)) HH.out.inv HH.out.clean (by have:=HH.out.ms;omega) ⟨0,yd,ym⟩ hne o2 3 511 t (by omega)
    unfold l8 fV at xJ
    clear hX hq hfo hx2 o1 o2 hne
    have p0:=bn.out.cell 0 _ rfl
    have p1:=bn.out.cell 1 _ rfl
    have p2:=bn.out.cell 2 _ rfl
    go_wp2_with(go_at_call 83;go_loud(refine(xJ.out _ (aa.refl _ _)).mono ?_);rintro e w5 ⟨p3,c3,rfl,rF,hkn⟩;(clear f0 f1 f2 f3 u0 u1 ak aq au aB ay av aA ax;replace HF:=Lib.hid (HF.out.on hkn);obtain⟨f0,f1,f2,f3,u0,u1,ak,aq,au,aB,ay,av,aA,ax⟩:=HF.out.all))
    refine bodyPost_ret (v:=.tuple #[.agg #[.slice p3 X.1.length c3,.int .i64 room,.int .i64 (calls+1),.int .i64 fail],.int .i64 X.2]) ?_ rfl ⟨p3,c3,rfl,(rF.put (gB w5 (w.heap.size+1+1) _ _ _ _) (by simp)).drop,HF.out.fin _ _ _ _⟩
    rw[cL rfl]
    go_simp
end
end Go.Proofs.YtnanhmfpikddkaaGreatDoor
