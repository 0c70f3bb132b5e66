/-
  Contracts of the reference for layer 6: Open,case 2 of 3. Printed by wip/genref6o.py.
-/
import Derived.Test.YtnanhmfpikddkaaGreatDoorG41
import Derived.Test.YtnanhmfpikddkaaGreatDoorG15
import Derived.Deep.RegionHeld3

set_option linter.unusedSimpArgs false
set_option linter.unusedVariables false
set_option maxRecDepth 100000
set_option maxHeartbeats 8000000
namespace Go.Proofs.YtnanhmfpikddkaaGreatDoor
open Go Go.RowKit
section
variable{S:Nat->Prop} {w:World} {p:Option Addr} {c:Nat} {d:ag} {room calls fail:Int}
theorem UW (H:R6 S w p c d calls) (at' mask:Int) (s:ByteArray) (hs:s.size<=4294967280) (flags m:Int) (gy:0<=flags) (dK:flags<=31) (hm0:0<=m) (bU:m<=4095) (bS:0<=mask) (hk1:mask<=511) (h4:bg flags 4=false) (h8:bg flags 8=true) :
 Calls Tryz.prog 96 #[fV p c d.length room calls fail,.agg #[.int .i64 at',.int .i64 mask],.string s,.int .i64 flags,.int .i64 m] w (sH S w (fF calls fail d room at' mask s flags m) room (kJ calls flags) fail):=by
 have HH:=Lib.hid H
 have hcap:=H.rows.cap
 have hmax:=H.rows.max
 unfold maxLen at hmax
 have cm:=Lib.hid (qG p c d.length room calls fail H.c0 H.c1)
 unfold fV at *
 obtain⟨g12,g10⟩:=El gy dK
 have jI:Hid (∀n:Int,(n=1∨n=2∨n=4∨n=8∨n=16)->∀wx,Calls Tryz.prog 133 #[.int .i64 flags,.int .i64 n] wx fun e w'=>e=.returned (.bool (bg flags n))∧w'=wx):=Lib.hid fun n hn wx=>by
  have:=AX (FG:=bg) (fun _ _=>rfl) flags gy dK n.toNat (by omega) wx
  rw[show((n.toNat:Nat):Int)=n by omega]at this
  exact this
 obtain⟨X,hX⟩:∃X,fF calls fail d room at' mask s flags m=X:=⟨_,rfl⟩
 obtain⟨cc,hcc⟩:∃cc,kJ calls flags=cc:=⟨_,rfl⟩
 rw[hX,hcc]
 unfold fF at hX
 unfold kJ at hcc
 unfold tf at hX hcc
 have hal:ni flags=(bg flags 4&&bg flags 16):=rfl
 rw[g12,h4,h8]at hX hcc
 rw[h4]at hal
 rw[Bool.false_or]at hX hcc
 obtain rfl:calls+1=cc:=(if_pos rfl).symm.trans hcc
 clear hcc
 rw[Bool.false_and]at hal
 obtain⟨al,o8⟩:∃al,false=al:=⟨_,rfl⟩
 rw[o8]at hal
 obtain⟨fo,hfo⟩:∃fo,(!al)=fo:=⟨_,rfl⟩
 have aW:=Lib.hid (fun(wx:World) (S':Nat->Prop) (p':Option Addr) (c':Nat) (hr:aI S' wx p' c' d)=>xH (room:=room) hr H.inv H.small (pz H.nh H.inv H.clean) at' s fo hs)
 unfold aE aF at aW
 have aW:Hid (∀(wx:World) (S':Nat->Prop) (p':Option Addr) (c':Nat),aI S' wx p' c' d->Calls Tryz.prog 61 #[.agg #[.slice p' d.length c',.int .i64 room],.int .i64 at',.string s,.bool fo] wx fun e w'=>e=.returned (.tuple #[.agg #[.int .i64 (qF (aQ d at' s fo)).1.node,.int .i64 (qF (aQ d at' s fo)).1.dir,.string (qF (aQ d at' s fo)).1.name],.int .i64 (qF (aQ d at' s fo)).2])∧aa af wx w'):=Lib.hid fun wx S' p' c' hr=>by
  rw[nE]
  exact aW.out wx S' p' c' hr
 have lM:(qF (aQ d at' s fo)).2=0->qF (aQ d at' s fo)=aQ d at' s fo:=fun e=>by rw[nE]at e;exact if_pos e
 have hq:jc d room at' mask s flags m=if (qF (aQ d at' s fo)).2≠0 then(d,0,(qF (aQ d at' s fo)).2)else if (qF (aQ d at' s fo)).1.node=0 then fL d room mask (qF (aQ d at' s fo)).1 s flags m else if al=true then(d,0,13)else fM d (qF (aQ d at' s fo)).1.node flags:=by
  unfold jc
  rw[hal,hfo]
  by_cases h1:(aQ d at' s fo).2=0
  ·rw[lM (by rw[nE];exact h1)]
  ·rw[if_pos h1,nE,if_pos h1]
 have hsz:(qF (aQ d at' s fo)).2=0->(qF (aQ d at' s fo)).1.name.size<=255:=fun e=>by rw[lM e];exact si d at' s fo
 have aT:(qF (aQ d at' s fo)).2=0->(qF (aQ d at' s fo)).1.node≠0->has d (qF (aQ d at' s fo)).1.node:=fun e=>by
  rw[lM e]
  rw[lM e]at e
  exact AB H.inv e
 clear lM H
 generalize qF (aQ d at' s fo)=Y at *
 obtain⟨⟨yn,yd,ym⟩,ye⟩:=Y
 simp only at aW hq hsz aT
 replace hX:=Lib.hid hX
 replace hq:=Lib.hid hq
 replace hsz:=Lib.hid hsz
 replace aT:=Lib.hid aT
 replace g10:=Lib.hid g10
 clear g12 hal
 subst o8
 obtain rfl:true=fo:=hfo
 (try clear hfo)
 go_enter Tryz.func96,Tryz.ntmps96
 go_upto_region 1 with fail
 have HF:=Lib.hid (F6.new w (.slice p d.length c) room calls fail #[.int .i64 at',.int .i64 mask] #[.slice none 0 0,.int .i64 0,.int .i64 0,.int .i64 0] 39 40 39)
 generalize((w.alloc (.cells #[.slice p d.length c,.int .i64 room,.int .i64 calls,.int .i64 fail] 39)).alloc (.cells #[.int .i64 at',.int .i64 mask] 40)).alloc (.cells #[.slice none 0 0,.int .i64 0,.int .i64 0,.int .i64 0] 39)=w0 at *
 obtain⟨f0,f1,f2,f3,u0,u1,ak,aq,au,aB,ay,av,aA,ax⟩:=HF.out.all
 go_upto_region 2 with(go_at_call 133;go_loud(refine(jI.out _ (by omega) _).mono ?_);rintro e wf ⟨rfl,hwf⟩;obtain rfl:_=wf:=hwf.symm)
 by_cases bG:calls=fail
 case pos =>
  have hx:X=(d,0,21):=hX.out.symm.trans (by unfold eG;rw[if_pos bG];exact if_pos (by decide))
  subst hx
  rw[if_pos bG]at cm
  clear hX bG
  go_upto_region 3 with(go_at_call 81;go_loud(refine(cm.out _).mono ?_);rintro e w1 ⟨rfl,hkn⟩;(clear f0 f1 f2 f3 u0 u1 ak aq au aB ay av aA ax;replace HF:=Lib.hid (HF.out.on hkn);obtain⟨f0,f1,f2,f3,u0,u1,ak,aq,au,aB,ay,av,aA,ax⟩:=HF.out.all))
  replace HF:=Lib.hid (HF.out.on ((aa.refl af w1).alloc (.cells #[.slice p d.length c,.int .i64 room,.int .i64 (calls+1),.int .i64 fail] 39)))
  have HG:=Lib.hid (Bk.new (aa.refl af (w1.alloc (.cells #[.slice p d.length c,.int .i64 room,.int .i64 (calls+1),.int .i64 fail] 39))))
  clear f0 f1 f2 f3 u0 u1 ak aq au aB ay av aA ax
  clear hkn
  generalize w1.alloc (.cells #[.slice p d.length c,.int .i64 room,.int .i64 (calls+1),.int .i64 fail] 39)=w2 at *
  generalize w1.heap.size=GB at *
  obtain⟨f0,f1,f2,f3,u0,u1,ak,aq,au,aB,ay,av,aA,ax⟩:=HF.out.all
  have g0:=HG.out.cell 0 _ rfl
  have g1:=HG.out.cell 1 _ rfl
  have g2:=HG.out.cell 2 _ rfl
  have g3:=HG.out.cell 3 _ rfl
  go_upto_region 4 with fail
  replace HF:=Lib.hid (HF.out.jU (.slice p d.length c) room (calls+1) fail)
  clear f0 f1 f2 f3 u0 u1 ak aq au aB ay av aA ax
  clear g0 g1 g2 g3
  generalize(((w2.setCell ⟨w.heap.size,0,none⟩ (.slice p d.length c)).setCell ⟨w.heap.size,1,none⟩ (.int .i64 room)).setCell ⟨w.heap.size,2,none⟩ (.int .i64 (calls+1))).setCell ⟨w.heap.size,3,none⟩ (.int .i64 fail)=w3 at *
  obtain⟨f0,f1,f2,f3,u0,u1,ak,aq,au,aB,ay,av,aA,ax⟩:=HF.out.all
  go_wp2_with fail
  refine bodyPost_ret (v:=.tuple #[.agg #[.slice p d.length c,.int .i64 room,.int .i64 (calls+1),.int .i64 fail],.int .i64 0,.int .i64 21]) ?_ rfl ⟨p,c,rfl,HH.out.rows.ai (HF.out.fin _ _ _ _),HF.out.fin _ _ _ _⟩
  rw[gp rfl]
  go_simp
 case neg =>
 replace hX:=Lib.hid (hX.out.symm.trans (if_neg (fun x=>x.2 (by unfold eG;rw[if_neg bG]))))
 rw[if_neg bG]at cm
 clear bG
 go_upto_region 3 with(go_at_call 81;go_loud(refine(cm.out _).mono ?_);rintro e w1 ⟨rfl,hkn⟩;(clear f0 f1 f2 f3 u0 u1 ak aq au aB ay av aA ax;replace HF:=Lib.hid (HF.out.on hkn);obtain⟨f0,f1,f2,f3,u0,u1,ak,aq,au,aB,ay,av,aA,ax⟩:=HF.out.all))
 replace HF:=Lib.hid (HF.out.on ((aa.refl af w1).alloc (.cells #[.slice p d.length c,.int .i64 room,.int .i64 (calls+1),.int .i64 fail] 39)))
 have HG:=Lib.hid (Bk.new (aa.refl af (w1.alloc (.cells #[.slice p d.length c,.int .i64 room,.int .i64 (calls+1),.int .i64 fail] 39))))
 clear f0 f1 f2 f3 u0 u1 ak aq au aB ay av aA ax
 clear hkn cm
 generalize w1.alloc (.cells #[.slice p d.length c,.int .i64 room,.int .i64 (calls+1),.int .i64 fail] 39)=w2 at *
 generalize w1.heap.size=GB at *
 obtain⟨f0,f1,f2,f3,u0,u1,ak,aq,au,aB,ay,av,aA,ax⟩:=HF.out.all
 have g0:=HG.out.cell 0 _ rfl
 have g1:=HG.out.cell 1 _ rfl
 have g2:=HG.out.cell 2 _ rfl
 have g3:=HG.out.cell 3 _ rfl
 go_upto_region 4 with fail
 replace HF:=Lib.hid (HF.out.jU (.slice p d.length c) room (calls+1) fail)
 clear f0 f1 f2 f3 u0 u1 ak aq au aB ay av aA ax
 clear g0 g1 g2 g3 HG
 generalize(((w2.setCell ⟨w.heap.size,0,none⟩ (.slice p d.length c)).setCell ⟨w.heap.size,1,none⟩ (.int .i64 room)).setCell ⟨w.heap.size,2,none⟩ (.int .i64 (calls+1))).setCell ⟨w.heap.size,3,none⟩ (.int .i64 fail)=w3 at *
 obtain⟨f0,f1,f2,f3,u0,u1,ak,aq,au,aB,ay,av,aA,ax⟩:=HF.out.all
 go_upto_region 7 with(go_at_call 133;go_loud(refine(jI.out _ (by omega) _).mono ?_);rintro e wf ⟨rfl,hwf⟩;obtain rfl:_=wf:=hwf.symm)
 replace hX:=Lib.hid (hX.out.trans hq.out)
 clear hq
 have HR:=Lib.hid (HH.out.rows.first (L:=[w.heap.size,w.heap.size+1,w.heap.size+1+1]) HF.out.k (by simp;omega))
 have jV:=Lib.hid (aW.out w3 _ _ _ HR.out)
 clear aW
 go_upto_region 8 with(go_at_call 61;go_loud(refine jV.out.mono ?_);rintro e w4 ⟨rfl,hkn⟩;(clear f0 f1 f2 f3 u0 u1 ak aq au aB ay av aA ax;replace HF:=Lib.hid (HF.out.on hkn);obtain⟨f0,f1,f2,f3,u0,u1,ak,aq,au,aB,ay,av,aA,ax⟩:=HF.out.all))
 have sI:w.heap.size+3<=w4.heap.size:=by omega
 have HP:=Lib.hid (Bk.new (aa.refl af (w4.alloc (.cells #[.int .i64 yn,.int .i64 yd,.string ym] 82))))
 replace HF:=Lib.hid (HF.out.on ((aa.refl af w4).alloc (.cells #[.int .i64 yn,.int .i64 yd,.string ym] 82)))
 replace HR:=Lib.hid ((HR.out.ai hkn).ai ((aa.refl af w4).alloc (.cells #[.int .i64 yn,.int .i64 yd,.string ym] 82)))
 clear f0 f1 f2 f3 u0 u1 ak aq au aB ay av aA ax
 clear hkn jV
 generalize w4.alloc (.cells #[.int .i64 yn,.int .i64 yd,.string ym] 82)=w5 at *
 generalize w4.heap.size=PB at *
 obtain⟨f0,f1,f2,f3,u0,u1,ak,aq,au,aB,ay,av,aA,ax⟩:=HF.out.all
 have p0:=HP.out.cell 0 _ rfl;have p1:=HP.out.cell 1 _ rfl;have p2:=HP.out.cell 2 _ rfl;have pl:=HP.out.lt
 by_cases cC:ye=0
 case neg =>
  have hb:(ye != 0)=true:=by simpa using cC
  obtain rfl:X=(d,0,ye):=hX.out.trans (if_pos cC)
  clear hX cC hsz aT
  go_wp2_with fail
  refine bodyPost_ret (v:=.tuple #[.agg #[.slice p d.length c,.int .i64 room,.int .i64 (calls+1),.int .i64 fail],.int .i64 0,.int .i64 ye]) ?_ rfl ⟨p,c,rfl,HH.out.rows.ai (HF.out.fin _ _ _ _),HF.out.fin _ _ _ _⟩
  rw[gp rfl]
  go_simp
 case pos =>
 subst cC
 replace hX:=Lib.hid (hX.out.trans (if_neg (by simp)))
 by_cases lN:yn=0
 case pos =>
  subst lN
  replace hX:=hX.out.trans (if_pos rfl)
  have nF:=Lib.hid (E8 (room:=room) (calls:=(calls+1)) (fail:=fail) HR.out (NI.new HH.out.all HF.out.k (by have:=HF.out.b2.lt;simp;omega)) HH.out.inv HH.out.clean (by have:=HH.out.ms;omega) at' mask ⟨0,yd,ym⟩ (hsz.out rfl) s hs flags m gy dK hm0 bU bS hk1)
  rw[<- hX]at nF
  unfold sH fV at nF
  clear hX hsz aT hs gy dK hm0 bU bS hk1 h4 h8
  obtain⟨d3,n3,e3⟩:=X
  simp only at nF ⊢
  go_wp2_with(go_at_call 134;go_loud(refine nF.out.mono ?_);rintro e w6 ⟨p3,c3,rfl,hr,hkn⟩;(clear f0 f1 f2 f3 u0 u1 ak aq au aB ay av aA ax;replace HF:=Lib.hid (HF.out.on hkn);obtain⟨f0,f1,f2,f3,u0,u1,ak,aq,au,aB,ay,av,aA,ax⟩:=HF.out.all))
  refine bodyPost_ret (v:=.tuple #[.agg #[.slice p3 d3.length c3,.int .i64 room,.int .i64 (calls+1),.int .i64 fail],.int .i64 n3,.int .i64 e3]) ?_ rfl ⟨p3,c3,rfl,(hr.put (gB _ (w.heap.size+1+1) _ _ _ _) (by simp)).drop,HF.out.fin _ _ _ _⟩
  rw[gp rfl]
  go_simp
 case neg =>
 have sJ:(yn==0)=false:=by simpa using lN
 have hh:=aT.out rfl lN
 replace hX:=Lib.hid (hX.out.trans (if_neg lN))
 clear lN hsz aT
 replace hX:=Lib.hid (hX.out.trans (if_neg (by simp)))
 obtain⟨k,hk2,hk⟩:=eP hh
 have hk2:yn=(k:Int):=hk2
 subst hk2
 obtain⟨gr,off,q,mq,rfl,cI,hrow⟩:=HR.out.rowAt hk
 have r0:=hrow.c0
 have r1:=hrow.c1
 have r2:=hrow.c2
 have r3:=hrow.c3
 have r4:=hrow.c4
 have rl:=hrow.lt
 have dw:(k:Int)<(d.length:Int):=by omega
 have pN:=(HH.out.inv.node (k:Int)).mV
 have xL:=(HH.out.inv.node (k:Int)).mW
 have gU:=fun h2 h3=>pZ (d:=d) HH.out.inv (i:=(k:Int)) h2 h3 hh
 have iQ:=sG (nd d (k:Int)).mode pN 8
 have iR:=sG (nd d (k:Int)).mode pN 7
 have HM:Hid (∀n:Int,(n=7∨n=8)->∀wx,Calls Tryz.prog 36 #[.int .i64 (nd d (k:Int)).mode,.int .i64 n] wx fun e w'=>e=.returned (.bool ((nd d (k:Int)).mode.toNat.testBit n.toNat))∧w'=wx):=Lib.hid fun n hn wx=>by
  have:=tP (nd d (k:Int)).mode.toNat n.toNat (by omega) (by omega) wx
  rw[show(((nd d (k:Int)).mode.toNat:Nat):Int)=(nd d (k:Int)).mode by omega,show((n.toNat:Nat):Int)=n by omega]at this
  exact this
 have iS:=fun h=>Ep (d:=d) (i:=(k:Int)) (flags:=flags) h
 have iT:=fun h=>Er (d:=d) (i:=(k:Int)) (flags:=flags) h
 have fW:=fun h hm=>Es (d:=d) (i:=(k:Int)) (flags:=flags) h hm
 have fX:=fun h hm=>Et (d:=d) (i:=(k:Int)) (flags:=flags) hh h hm
 rw[show((2 ^ 8:Nat):Int)=256 from rfl]at iQ
 rw[show((2 ^ 7:Nat):Int)=128 from rfl]at iR
 obtain⟨kd,aM⟩:∃kd,(nd d (k:Int)).kind=kd:=⟨_,rfl⟩
 obtain⟨md,l7⟩:∃md,(nd d (k:Int)).mode=md:=⟨_,rfl⟩
 rw[aM]at r0 iS iT fW fX gU
 rw[l7]at r1 fW fX HM iQ iR
 generalize(nd d (k:Int)).holds=hd at *
 generalize(nd d (k:Int)).data=dt at *
 generalize(nd d (k:Int)).ah.length=el at *
 obtain⟨b8,pO⟩:∃b8,md.toNat.testBit 8=b8:=⟨_,rfl⟩
 obtain⟨b7,pP⟩:∃b7,md.toNat.testBit 7=b7:=⟨_,rfl⟩
 rw[pO]at iQ
 rw[pP]at iR
 have sK:Hid (∀n:Int,(n=7∨n=8)->∀wx,Calls Tryz.prog 36 #[.int .i64 md,.int .i64 n] wx fun e w'=>e=.returned (.bool (if n=8 then b8 else b7))∧w'=wx):=Lib.hid fun n hn wx=>by
  have:=HM.out n hn wx
  rcases hn with rfl|rfl
  ·rw[show((7:Int).toNat)=7 from rfl,pP]at this
   exact this
  ·rw[show((8:Int).toNat)=8 from rfl,pO]at this
   exact this
 replace iS:=Lib.hid iS
 replace iT:=Lib.hid iT
 replace fW:=Lib.hid fW
 replace fX:=Lib.hid fX
 replace gU:=Lib.hid gU
 replace iQ:=Lib.hid iQ
 replace iR:=Lib.hid iR
 clear HM aM l7 pO pP pN xL hrow hh cI hm0 bU bS hk1 hs gy dK
 go_upto_region 15 with fail
 have HN:=Lib.hid (Bk.new (aa.refl af (w5.alloc (.cells #[.int .i64 kd,.int .i64 md,.int .i64 hd,.string dt,.slice q el mq] 57))))
 replace HF:=Lib.hid (HF.out.on ((aa.refl af w5).alloc (.cells #[.int .i64 kd,.int .i64 md,.int .i64 hd,.string dt,.slice q el mq] 57)))
 replace HR:=Lib.hid (HR.out.ai ((aa.refl af w5).alloc (.cells #[.int .i64 kd,.int .i64 md,.int .i64 hd,.string dt,.slice q el mq] 57)))
 replace HP:=Lib.hid (HP.out.on ((aa.refl af w5).alloc (.cells #[.int .i64 kd,.int .i64 md,.int .i64 hd,.string dt,.slice q el mq] 57)))
 clear f0 f1 f2 f3 u0 u1 ak aq au aB ay av aA ax
 clear p0 p1 p2 pl r0 r1 r2 r3 r4 rl
 generalize w5.alloc (.cells #[.int .i64 kd,.int .i64 md,.int .i64 hd,.string dt,.slice q el mq] 57)=w6 at *
 generalize w5.heap.size=NB at *
 obtain⟨f0,f1,f2,f3,u0,u1,ak,aq,au,aB,ay,av,aA,ax⟩:=HF.out.all
 have p0:=HP.out.cell 0 _ rfl;have p1:=HP.out.cell 1 _ rfl;have p2:=HP.out.cell 2 _ rfl;have pl:=HP.out.lt
 have n0:=HN.out.cell 0 _ rfl
 have n1:=HN.out.cell 1 _ rfl
 by_cases lO:kd=2
 case pos =>
  subst lO
  obtain rfl:X=(d,0,15):=hX.out.trans (iS.out rfl)
  clear hX iS iT fW fX gU
  go_wp2_with fail
  refine bodyPost_ret (v:=.tuple #[.agg #[.slice (some ⟨gr,off,none⟩) d.length c,.int .i64 room,.int .i64 (calls+1),.int .i64 fail],.int .i64 0,.int .i64 15]) ?_ rfl ⟨_,c,rfl,HH.out.rows.ai (HF.out.fin _ _ _ _),HF.out.fin _ _ _ _⟩
  rw[gp rfl]
  go_simp
 case neg =>
 have hb2:(kd==2)=false:=by simpa using lO
 by_cases nH:kd=3
 case pos =>
  subst nH
  obtain rfl:X=(d,0,17):=hX.out.trans (iT.out rfl)
  clear hX iS iT fW fX gU lO
  go_wp2_with fail
  refine bodyPost_ret (v:=.tuple #[.agg #[.slice (some ⟨gr,off,none⟩) d.length c,.int .i64 room,.int .i64 (calls+1),.int .i64 fail],.int .i64 0,.int .i64 17]) ?_ rfl ⟨_,c,rfl,HH.out.rows.ai (HF.out.fin _ _ _ _),HF.out.fin _ _ _ _⟩
  rw[gp rfl]
  go_simp
 case neg =>
 have oY:(kd==3)=false:=by simpa using nH
 obtain rfl:kd=1:=gU.out lO nH
 clear lO nH iS iT gU hb2 oY
 go_upto_region 19 with fail
 obtain⟨xm,hxm⟩:∃xm,((bg flags 1&&!b8)||((bg flags 2||true)&&!b7))=xm:=⟨_,rfl⟩
 have nI:=Lib.hid (show(xm=true↔((bg flags 1=true∧md / 256 % 2=0)∨(bg flags 10=true∧md / 128 % 2=0)))by
  rw[<- hxm,g10.out,h8,iQ.out,iR.out]
  simp)
 go_cut [107]from 86 to 107 (fun x wx=>x=.bool xm∧wx=w6)
 case first =>
  cases h1:bg flags 1<;>cases h2:bg flags 2<;>cases b8<;>cases b7
  all_goals
   rw[h1,h2]at hxm
   obtain rfl:=hxm
   go_wp2_with(first|(go_at_call 133;go_loud(refine(jI.out _ (by omega) _).mono ?_);rintro e wf ⟨rfl,hwf⟩;obtain rfl:_=wf:=hwf.symm)|(go_at_call 36;go_loud(refine(sK.out _ (by omega) _).mono ?_);rintro e wf ⟨rfl,hwf⟩;obtain rfl:_=wf:=hwf.symm))
   go_meet
   exact⟨rfl,rfl⟩
 case rest =>
 obtain⟨rfl,hwx⟩:=hcut
 obtain rfl:w6=_:=hwx.symm
 clear hxm sK iQ iR b8 b7
 cases xm with
 | true =>
   obtain rfl:X=(d,0,19):=hX.out.trans (fW.out rfl (nI.out.1 rfl))
   clear hX fW fX nI
   go_wp2_with fail
   refine bodyPost_ret (v:=.tuple #[.agg #[.slice (some ⟨gr,off,none⟩) d.length c,.int .i64 room,.int .i64 (calls+1),.int .i64 fail],.int .i64 0,.int .i64 19]) ?_ rfl ⟨_,c,rfl,HH.out.rows.ai (HF.out.fin _ _ _ _),HF.out.fin _ _ _ _⟩
   rw[gp rfl]
   go_simp
 | false =>
 replace hX:=Lib.hid (hX.out.trans (fX.out rfl (fun x=>by cases nI.out.2 x)))
 clear fX fW nI n0 n1
 obtain⟨lP,lQ⟩:=Em HH.out.inv HH.out.clean (k:Int)
 have rH:=Ej (d:=d) (k:Int)
 have jv:(dD d (k:Int)).length=d.length:=KI d (k:Int)
 have ry:=Lib.hid (show Calls Tryz.prog 135 #[.agg #[.slice (some ⟨gr,off,none⟩) d.length c,.int .i64 room],.int .i64 (k:Int)] w6 fun e w'=>∃p' c',e=.returned (.tuple #[.agg #[.slice p' d.length c',.int .i64 room],.int .i64 (dM d (k:Int))])∧aI (NI S [w.heap.size,w.heap.size+1,w.heap.size+1+1]) w' p' c' (dD d (k:Int))∧aa af w6 w' from by
  have hh:=Li (room:=room) HR.out (NI.new HH.out.all HF.out.k (by have:=HF.out.b2.lt;simp;omega)) HH.out.inv HH.out.small (k:Int)
  unfold eH aE at hh
  rw[show(if dM d (k:Int)=0 then jY d (k:Int)else d)=dD d (k:Int)from rfl,jv]at hh
  exact hh)
 generalize dM d (k:Int)=ef at *
 have hms:=HH.out.ms
 obtain⟨dE,tX⟩:∃dE,dD d (k:Int)=dE:=⟨_,rfl⟩
 rw[tX]at ry lP lQ rH jv
 have Fb:=Lib.hid tX
 clear tX
 go_upto_region 23 with(first|(go_at_call 135;go_loud(refine ry.out.mono ?_);rintro e w7 ⟨p7,c7,rfl,hr,hkn⟩;(clear f0 f1 f2 f3 u0 u1 ak aq au aB ay av aA ax;replace HF:=Lib.hid (HF.out.on hkn);obtain⟨f0,f1,f2,f3,u0,u1,ak,aq,au,aB,ay,av,aA,ax⟩:=HF.out.all);clear p0 p1 p2 pl;replace HP:=Lib.hid (HP.out.on hkn);have p0:=HP.out.cell 0 _ rfl;have p1:=HP.out.cell 1 _ rfl;have p2:=HP.out.cell 2 _ rfl;have pl:=HP.out.lt)|(go_at_call 133;go_loud(refine(jI.out _ (by omega) _).mono ?_);rintro e wf ⟨rfl,hwf⟩;obtain rfl:_=wf:=hwf.symm))
 replace HR:=Lib.hid (hr.put (eV w7 w.heap.size (.slice p7 d.length c7) (.int .i64 room)) (by simp))
 replace HF:=Lib.hid (HF.out.lK (.slice p7 d.length c7) room)
 replace HP:=Lib.hid (Bk.beside (g:=0) HP.out sI (eV w7 w.heap.size (.slice p7 d.length c7) (.int .i64 room)))
 clear f0 f1 f2 f3 u0 u1 ak aq au aB ay av aA ax
 clear p0 p1 p2 pl hr hkn ry
 generalize(w7.setCell ⟨w.heap.size,0,none⟩ (.slice p7 d.length c7)).setCell ⟨w.heap.size,1,none⟩ (.int .i64 room)=w8 at *
 obtain⟨f0,f1,f2,f3,u0,u1,ak,aq,au,aB,ay,av,aA,ax⟩:=HF.out.all
 have p0:=HP.out.cell 0 _ rfl;have p1:=HP.out.cell 1 _ rfl;have p2:=HP.out.cell 2 _ rfl;have pl:=HP.out.lt
 replace hX:=Lib.hid (hX.out.trans (by rw[if_pos h8,Fb.out]))
 have hlen:(eJ dE (k:Int)).length=d.length:=by have:=(AA dE (k:Int));rw[this];exact jv
 have jt:=Lib.hid (show Calls Tryz.prog 102 #[.agg #[.slice p7 d.length c7,.int .i64 room],.int .i64 (k:Int),.int .i64 1] w8 fun e w'=>∃p' c',e=.returned (.tuple #[.agg #[.slice p' d.length c',.int .i64 room],.int .i64 (jS dE (k:Int) 1)])∧aI (NI S [w.heap.size,w.heap.size+1,w.heap.size+1+1]) w' p' c' (eJ dE (k:Int))∧aa af w8 w' from by
  have hh:=tF (room:=room) HR.out (NI.new HH.out.all HF.out.k (by have:=HF.out.b2.lt;simp;omega)) lP lQ (by have:=HH.out.ms;omega) (k:Int) 1 (.inl rfl)
  unfold eH aE at hh
  rw[(Az lP lQ).2,hlen,jv]at hh
  exact hh)
 obtain rfl:X=(eJ dE (k:Int),(k:Int),0):=hX.out
 clear hX lP lQ rH
 generalize jS dE (k:Int) 1=eh at *
 generalize eJ dE (k:Int)=dh at *
 go_upto_region 24 with(first|(go_at_call 102;go_loud(refine jt.out.mono ?_);rintro e w9 ⟨p9,c9,rfl,hr,hkn⟩;(clear f0 f1 f2 f3 u0 u1 ak aq au aB ay av aA ax;replace HF:=Lib.hid (HF.out.on hkn);obtain⟨f0,f1,f2,f3,u0,u1,ak,aq,au,aB,ay,av,aA,ax⟩:=HF.out.all);clear p0 p1 p2 pl;replace HP:=Lib.hid (HP.out.on hkn);have p0:=HP.out.cell 0 _ rfl;have p1:=HP.out.cell 1 _ rfl;have p2:=HP.out.cell 2 _ rfl;have pl:=HP.out.lt)|(go_at_call 133;go_loud(refine(jI.out _ (by omega) _).mono ?_);rintro e wf ⟨rfl,hwf⟩;obtain rfl:_=wf:=hwf.symm))
 replace HR:=Lib.hid (hr.put (eV w9 w.heap.size (.slice p9 d.length c9) (.int .i64 room)) (by simp))
 replace HF:=Lib.hid (HF.out.lK (.slice p9 d.length c9) room)
 replace HP:=Lib.hid (Bk.beside (g:=0) HP.out sI (eV w9 w.heap.size (.slice p9 d.length c9) (.int .i64 room)))
 clear f0 f1 f2 f3 u0 u1 ak aq au aB ay av aA ax
 clear p0 p1 p2 pl hr hkn jt
 generalize(w9.setCell ⟨w.heap.size,0,none⟩ (.slice p9 d.length c9)).setCell ⟨w.heap.size,1,none⟩ (.int .i64 room)=wa at *
 obtain⟨f0,f1,f2,f3,u0,u1,ak,aq,au,aB,ay,av,aA,ax⟩:=HF.out.all
 have p0:=HP.out.cell 0 _ rfl;have p1:=HP.out.cell 1 _ rfl;have p2:=HP.out.cell 2 _ rfl;have pl:=HP.out.lt
 replace hlen:=Lib.hid hlen
 have Fa:=Lib.hid jv
 clear jv
 go_region
 all_goals
  go_wp2_with fail
  refine bodyPost_ret (v:=.tuple #[.agg #[.slice p9 d.length c9,.int .i64 room,.int .i64 (calls+1),.int .i64 fail],.int .i64 (k:Int),.int .i64 0]) ?_ rfl ⟨p9,c9,?_,?_,?_⟩
  ·rw[gp rfl]
   go_simp
  ·show _=Ending.returned (.tuple #[fV p9 c9 dh.length room (calls+1) fail,.int .i64 (k:Int),.int .i64 0])
   rw[hlen.out]
   rfl
  ·exact((HR.out.put (gB wa (w.heap.size+1+1) _ _ _ _) (by simp)).drop.ai (aa.refl _ _).drew)
  ·exact(HF.out.fin _ _ _ _).drew
end
end Go.Proofs.YtnanhmfpikddkaaGreatDoor
