/-
  Contracts of the reference for layer 6: Link. Printed by wip/genref6.py.
-/
import Derived.Test.YtnanhmfpikddkaaGreatDoorG15
import Derived.Test.YtnanhmfpikddkaaGreatDoorG24
import Derived.Deep.RegionHeld3
import Derived.StillTailTactics

set_option linter.unusedSimpArgs false
set_option linter.unusedVariables false
set_option maxRecDepth 100000
set_option maxHeartbeats 8000000
namespace Go.Proofs.YtnanhmfpikddkaaGreatDoor
open Go Go.RowKit
section
variable{S:Nat->Prop} {w:World} {p:Option Addr} {c:Nat} {d:ag} {room calls fail:Int}
theorem RV (H:R6 S w p c d calls) (at' mask:Int) (old s:ByteArray) (UK:old.size<=4294967280) (tU:s.size<=4294967280) :
 Calls Tryz.prog 50 #[fV p c d.length room calls fail,.agg #[.int .i64 at',.int .i64 mask],.string old,.string s] w (l8 S w (bz calls fail d (kH d room at' old s)) room (calls+1) fail):=by
 have HH:=Lib.hid H
 have cm:=Lib.hid (qG p c d.length room calls fail H.c0 H.c1)
 unfold fV at *
 obtain⟨X,hX⟩:∃X,bz calls fail d (kH d room at' old s)=X:=⟨_,rfl⟩
 rw[hX]
 replace hX:=Lib.hid hX
 clear H
 go_enter Tryz.func50,Tryz.ntmps50
 go_upto_region 1 with fail
 have HF:=Lib.hid (F6.new w (.slice p d.length c) room calls fail #[.int .i64 at',.int .i64 mask] #[.slice none 0 0,.int .i64 0,.int .i64 0,.int .i64 0] 39 40 39)
 generalize((w.alloc (.cells #[.slice p d.length c,.int .i64 room,.int .i64 calls,.int .i64 fail] 39)).alloc (.cells #[.int .i64 at',.int .i64 mask] 40)).alloc (.cells #[.slice none 0 0,.int .i64 0,.int .i64 0,.int .i64 0] 39)=w0 at *
 obtain⟨f0,f1,f2,f3,u0,u1,ak,aq,au,aB,ay,av,aA,ax⟩:=HF.out.all
 by_cases bG:calls=fail
 case pos =>
  have hx:X=(d,21):=hX.out.symm.trans (by unfold bz eG;rw[if_pos bG,if_pos (by decide)])
  subst hx
  rw[if_pos bG]at cm
  clear hX bG
  go_upto_region 2 with(go_at_call 81;go_loud(refine(cm.out _).mono ?_);rintro e w1 ⟨rfl,hkn⟩;(clear f0 f1 f2 f3 u0 u1 ak aq au aB ay av aA ax;replace HF:=Lib.hid (HF.out.on hkn);obtain⟨f0,f1,f2,f3,u0,u1,ak,aq,au,aB,ay,av,aA,ax⟩:=HF.out.all))
  replace HF:=Lib.hid (HF.out.jU (.slice p d.length c) room (calls+1) fail)
  clear f0 f1 f2 f3 u0 u1 ak aq au aB ay av aA ax
  clear hkn
  generalize(((w1.setCell ⟨w.heap.size,0,none⟩ (.slice p d.length c)).setCell ⟨w.heap.size,1,none⟩ (.int .i64 room)).setCell ⟨w.heap.size,2,none⟩ (.int .i64 (calls+1))).setCell ⟨w.heap.size,3,none⟩ (.int .i64 fail)=w2 at *
  obtain⟨f0,f1,f2,f3,u0,u1,ak,aq,au,aB,ay,av,aA,ax⟩:=HF.out.all
  go_wp2_with fail
  refine bodyPost_ret (v:=.tuple #[.agg #[.slice p d.length c,.int .i64 room,.int .i64 (calls+1),.int .i64 fail],.int .i64 21]) ?_ rfl ⟨p,c,rfl,HH.out.rows.ai (HF.out.fin _ _ _ _),HF.out.fin _ _ _ _⟩
  rw[cL rfl]
  go_simp
 case neg =>
 have jB:X=kH d room at' old s:=hX.out.symm.trans (by unfold bz eG;rw[if_neg bG,if_neg (by decide)])
 rw[if_neg bG]at cm
 replace hX:=Lib.hid jB
 clear bG jB
 go_upto_region 2 with(go_at_call 81;go_loud(refine(cm.out _).mono ?_);rintro e w1 ⟨rfl,hkn⟩;(clear f0 f1 f2 f3 u0 u1 ak aq au aB ay av aA ax;replace HF:=Lib.hid (HF.out.on hkn);obtain⟨f0,f1,f2,f3,u0,u1,ak,aq,au,aB,ay,av,aA,ax⟩:=HF.out.all))
 replace HF:=Lib.hid (HF.out.jU (.slice p d.length c) room (calls+1) fail)
 clear f0 f1 f2 f3 u0 u1 ak aq au aB ay av aA ax
 clear hkn cm
 generalize(((w1.setCell ⟨w.heap.size,0,none⟩ (.slice p d.length c)).setCell ⟨w.heap.size,1,none⟩ (.int .i64 room)).setCell ⟨w.heap.size,2,none⟩ (.int .i64 (calls+1))).setCell ⟨w.heap.size,3,none⟩ (.int .i64 fail)=w2 at *
 have HR:=Lib.hid (HH.out.rows.first (L:=[w.heap.size,w.heap.size+1,w.heap.size+1+1]) HF.out.k (by simp;omega))
 unfold kH at hX
 have fc:Hid (∀wx,aa af w2 wx->Calls Tryz.prog 29 #[.agg #[.slice p d.length c,.int .i64 room],.int .i64 at',.string old,.bool false] wx fun e w'=>e=.returned (.tuple #[.agg #[.int .i64 (aL d at' old false).1.node,.int .i64 (aL d at' old false).1.dir,.string (aL d at' old false).1.name],.int .i64 (aL d at' old false).2])∧aa af wx w'):=Lib.hid fun wx k=>by
  have:=xK (room:=room) (HR.out.ai k) HH.out.inv HH.out.small (pz HH.out.nh HH.out.inv HH.out.clean) at' old false UK
  unfold aF aE at this
  exact this
 have cS:=fun he:(aL d at' old false).2=0=>qv (d:=d) HH.out.inv (at':=at') (s:=old) (follow:=false) he
 have hts:=zG d at' old false
 obtain⟨tV,hY⟩:∃Y,aL d at' old false=Y:=⟨_,rfl⟩
 rw[hY]at fc hX cS hts
 have jW:=Lib.hid hY
 clear hY
 obtain⟨⟨tn,td,tm⟩,te⟩:=tV
 simp only at fc cS hts
 obtain⟨f0,f1,f2,f3,u0,u1,ak,aq,au,aB,ay,av,aA,ax⟩:=HF.out.all
 go_upto_region 5 with(go_at_call 29;go_loud(refine(fc.out _ (aa.refl _ _)).mono ?_);rintro e w3 ⟨rfl,hkn⟩;(clear f0 f1 f2 f3 u0 u1 ak aq au aB ay av aA ax;replace HF:=Lib.hid (HF.out.on hkn);obtain⟨f0,f1,f2,f3,u0,u1,ak,aq,au,aB,ay,av,aA,ax⟩:=HF.out.all))
 have A9:w.heap.size+3<=w3.heap.size:=by omega
 have bn:=Lib.hid (Bk.new (aa.refl af (w3.alloc (.cells #[.int .i64 tn,.int .i64 td,.string tm] 82))))
 replace HF:=Lib.hid (HF.out.on ((aa.refl af w3).alloc (.cells #[.int .i64 tn,.int .i64 td,.string tm] 82)))
 replace HR:=Lib.hid ((HR.out.ai hkn).ai ((aa.refl af w3).alloc (.cells #[.int .i64 tn,.int .i64 td,.string tm] 82)))
 clear fc
 clear f0 f1 f2 f3 u0 u1 ak aq au aB ay av aA ax
 clear hkn
 generalize w3.alloc (.cells #[.int .i64 tn,.int .i64 td,.string tm] 82)=w4 at *
 generalize w3.heap.size=PB at *
 obtain⟨f0,f1,f2,f3,u0,u1,ak,aq,au,aB,ay,av,aA,ax⟩:=HF.out.all
 by_cases cC:te=0
 case neg =>
  have hb:(te != 0)=true:=by simpa using cC
  obtain rfl:X=(d,te):=hX.out.trans (if_pos cC)
  clear hX cC
  go_wp2_with fail
  refine bodyPost_ret (v:=.tuple #[.agg #[.slice p d.length c,.int .i64 room,.int .i64 (calls+1),.int .i64 fail],.int .i64 te]) ?_ rfl ⟨p,c,rfl,HH.out.rows.ai (HF.out.fin _ _ _ _),HF.out.fin _ _ _ _⟩
  rw[cL rfl]
  go_simp
 case pos =>
  subst cC
  replace hX:=Lib.hid (hX.out.trans (if_neg (by simp)))
  clear hts jW
  obtain⟨k,pM,hk⟩:=eP (cS rfl)
  have pM:tn=(k:Int):=pM
  subst pM
  obtain⟨gr,off,q,mq,rfl,cI,hrow⟩:=HR.out.rowAt hk
  have k0:=hrow.c0
  have hcap:=HR.out.cap
  have hmax:=HR.out.max
  unfold maxLen at hmax
  have dw:(k:Int)<(d.length:Int):=by omega
  clear hrow cS
  have p0:=bn.out.cell 0 _ rfl
  have p1:=bn.out.cell 1 _ rfl
  have p2:=bn.out.cell 2 _ rfl
  obtain⟨kd,aM⟩:∃kd,(nd d (k:Int)).kind=kd:=⟨_,rfl⟩
  rw[aM]at k0
  by_cases h2:kd=2
  case pos =>
   subst h2
   obtain rfl:X=(d,22):=hX.out.trans (if_pos aM)
   clear hX aM
   go_wp2_with fail
   refine bodyPost_ret (v:=.tuple #[.agg #[.slice (some ⟨gr,off,none⟩) d.length c,.int .i64 room,.int .i64 (calls+1),.int .i64 fail],.int .i64 22]) ?_ rfl ⟨(some ⟨gr,off,none⟩),c,rfl,HH.out.rows.ai (HF.out.fin _ _ _ _),HF.out.fin _ _ _ _⟩
   rw[cL rfl]
   go_simp
  case neg =>
  have hb:(kd==2)=false:=by simpa using h2
  replace hX:=Lib.hid (hX.out.trans (if_neg (by show ¬(nd d (k:Int)).kind=2;rw[aM];exact h2)))
  clear h2 aM
  go_upto_region 9 with fail
  clear f0 f1 f2 f3 u0 u1 ak aq au aB ay av aA ax
  clear k0 p0 p1 p2
  have bP:=Lib.hid (fun(wx:World) (k:aa af w4 wx)=>E0 (room:=room) (fail:=fail) (calls':=calls+1) HH.out (HR.out.ai k) at' mask s false tU)
  have hfo:=fun he:(eE d at' s false).2=0=>uD (d:=d) (at':=at') (s:=s) (slash:=false) (p:=(eE d at' s false).1) (by rw[<- he])
  obtain⟨Z,hZ⟩:∃Z,eE d at' s false=Z:=⟨_,rfl⟩
  rw[hZ]at bP hX hfo
  clear hZ
  obtain⟨⟨yn,yd,ym⟩,ye⟩:=Z
  unfold A6 fV at bP
  simp only at bP hfo
  obtain⟨f0,f1,f2,f3,u0,u1,ak,aq,au,aB,ay,av,aA,ax⟩:=HF.out.all
  go_upto_region 10 with(go_at_call 82;go_loud(refine(bP.out _ (aa.refl _ _)).mono ?_);rintro e w5 ⟨⟨qn,qd,qm⟩,rfl,hq,hkn⟩;(clear f0 f1 f2 f3 u0 u1 ak aq au aB ay av aA ax;replace HF:=Lib.hid (HF.out.on hkn);obtain⟨f0,f1,f2,f3,u0,u1,ak,aq,au,aB,ay,av,aA,ax⟩:=HF.out.all))
  replace hq:=Lib.hid hq
  replace bn:=Lib.hid (bn.out.on hkn)
  replace bn:=Lib.hid (bn.out.on ((aa.refl af w5).alloc (.cells #[.int .i64 qn,.int .i64 qd,.string qm] 82)))
  have UL:w.heap.size+3<=w5.heap.size:=by omega
  have iD:=Lib.hid (Bk.new (aa.refl af (w5.alloc (.cells #[.int .i64 qn,.int .i64 qd,.string qm] 82))))
  replace HF:=Lib.hid (HF.out.on ((aa.refl af w5).alloc (.cells #[.int .i64 qn,.int .i64 qd,.string qm] 82)))
  replace HR:=Lib.hid ((HR.out.ai hkn).ai ((aa.refl af w5).alloc (.cells #[.int .i64 qn,.int .i64 qd,.string qm] 82)))
  clear bP
  clear f0 f1 f2 f3 u0 u1 ak aq au aB ay av aA ax
  clear hkn
  generalize w5.alloc (.cells #[.int .i64 qn,.int .i64 qd,.string qm] 82)=w6 at *
  generalize w5.heap.size=QB at *
  obtain⟨f0,f1,f2,f3,u0,u1,ak,aq,au,aB,ay,av,aA,ax⟩:=HF.out.all
  by_cases cC:ye=0
  case neg =>
   have hb2:(ye != 0)=true:=by simpa using cC
   obtain rfl:X=(d,ye):=hX.out.trans (if_pos cC)
   clear hX cC hfo hq
   go_wp2_with fail
   refine bodyPost_ret (v:=.tuple #[.agg #[.slice (some ⟨gr,off,none⟩) d.length c,.int .i64 room,.int .i64 (calls+1),.int .i64 fail],.int .i64 ye]) ?_ rfl ⟨(some ⟨gr,off,none⟩),c,rfl,HH.out.rows.ai (HF.out.fin _ _ _ _),HF.out.fin _ _ _ _⟩
   rw[cL rfl]
   go_simp
  case pos =>
   subst cC
   have hx2:=hX.out.trans (if_neg (by simp))
   have tT:=hq.out rfl
   cases tT
   obtain⟨o1,o2,o3,o4,o5⟩:=hfo rfl
   have xI:yn=0:=o3
   clear o3 o4 o5
   subst xI
   have UM:ym.size<=maxLen:=Nat.le_trans o2 (by decide)
   clear hq hfo o1 o2
   clear f0 f1 f2 f3 u0 u1 ak aq au aB ay av aA ax
   obtain⟨nk,hnk⟩:∃nk:Int,(k:Int)=nk:=⟨_,rfl⟩
   rw[hnk]at hx2 bn
   have HE:=Lib.hid (fun(wx:World) (k:aa af w6 wx)=>EC (room:=room) (HR.out.ai k) (NI.new HH.out.all (HF.out.k.trans k) (by have:=HF.out.b2.lt;have:=k.size;simp;omega)) HH.out.inv HH.out.small yd ym nk UM)
   replace hx2:X=(bM d room yd ym nk,cH d room yd ym nk):=hx2
   clear hX
   unfold eH aE at HE
   generalize bM d room yd ym nk=d3 at *
   generalize cH d room yd ym nk=e3 at *
   subst hx2
   obtain⟨f0,f1,f2,f3,u0,u1,ak,aq,au,aB,ay,av,aA,ax⟩:=HF.out.all
   have p0:=bn.out.cell 0 _ rfl
   have p1:=bn.out.cell 1 _ rfl
   have p2:=bn.out.cell 2 _ rfl
   have q0:=iD.out.cell 0 _ rfl
   have q1:=iD.out.cell 1 _ rfl
   have q2:=iD.out.cell 2 _ rfl
   go_upto_region 13 with(go_at_call 86;go_loud(refine(HE.out _ (aa.refl _ _)).mono ?_);rintro e wd ⟨p3,c3,rfl,hr,hkn⟩;(clear f0 f1 f2 f3 u0 u1 ak aq au aB ay av aA ax;replace HF:=Lib.hid (HF.out.on hkn);obtain⟨f0,f1,f2,f3,u0,u1,ak,aq,au,aB,ay,av,aA,ax⟩:=HF.out.all))
   have HD:=Lib.hid (Bk.new (aa.refl af (wd.alloc (.cells #[.slice p3 d3.length c3,.int .i64 room] 37))))
   replace HF:=Lib.hid (HF.out.on ((aa.refl af wd).alloc (.cells #[.slice p3 d3.length c3,.int .i64 room] 37)))
   have gC:=Lib.hid (hr.ai ((aa.refl af wd).alloc (.cells #[.slice p3 d3.length c3,.int .i64 room] 37)))
   clear f0 f1 f2 f3 u0 u1 ak aq au aB ay av aA ax
   clear hkn hr HE
   generalize wd.alloc (.cells #[.slice p3 d3.length c3,.int .i64 room] 37)=we at *
   generalize wd.heap.size=DB at *
   obtain⟨f0,f1,f2,f3,u0,u1,ak,aq,au,aB,ay,av,aA,ax⟩:=HF.out.all
   have e0:=HD.out.cell 0 _ rfl
   have e1:=HD.out.cell 1 _ rfl
   go_upto_region 14 with fail
   replace gC:=Lib.hid (gC.out.put (eV we w.heap.size (.slice p3 d3.length c3) (.int .i64 room)) (by simp))
   replace HF:=Lib.hid (HF.out.lK (.slice p3 d3.length c3) room)
   clear f0 f1 f2 f3 u0 u1 ak aq au aB ay av aA ax
   clear e0 e1
   generalize(we.setCell ⟨w.heap.size,0,none⟩ (.slice p3 d3.length c3)).setCell ⟨w.heap.size,1,none⟩ (.int .i64 room)=wf at *
   obtain⟨f0,f1,f2,f3,u0,u1,ak,aq,au,aB,ay,av,aA,ax⟩:=HF.out.all
   go_wp2_with fail
   refine bodyPost_ret (v:=.tuple #[.agg #[.slice p3 d3.length c3,.int .i64 room,.int .i64 (calls+1),.int .i64 fail],.int .i64 e3]) ?_ rfl ⟨p3,c3,rfl,(gC.out.put (gB wf (w.heap.size+1+1) _ _ _ _) (by simp)).drop,HF.out.fin _ _ _ _⟩
   rw[cL rfl]
   go_simp
end
end Go.Proofs.YtnanhmfpikddkaaGreatDoor
