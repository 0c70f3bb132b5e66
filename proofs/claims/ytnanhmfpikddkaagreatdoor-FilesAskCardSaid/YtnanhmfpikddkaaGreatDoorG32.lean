/-
  Contracts of the reference for layer 6: Rename,the one walk of its three ways: an automatic argument,run where the lemma is used.
-/
import Derived.Test.YtnanhmfpikddkaaGreatDoorG15
import Derived.Test.YtnanhmfpikddkaaGreatDoorG24
import Derived.Deep.RegionHeld3
import Derived.StillTailTactics
import Derived.Test.YtnanhmfpikddkaaGreatDoorG21

set_option linter.unusedSimpArgs false
set_option linter.unusedVariables false
set_option maxRecDepth 100000
set_option maxHeartbeats 8000000
namespace Go.Proofs.YtnanhmfpikddkaaGreatDoor
open Go Go.RowKit
theorem E4 {P:Prop} (h:P:=by
 have HH:=Lib.hid H
 replace hw:=Lib.hid hw
 have cm:=Lib.hid (qG p c d.length room calls fail H.c0 H.c1)
 unfold fV at *
 obtain⟨X,hX⟩:∃X,bz calls fail d (jr d room at' a b)=X:=⟨_,rfl⟩
 rw[hX]
 replace hX:=Lib.hid hX
 clear H
 go_enter Tryz.func55,Tryz.ntmps55
 go_upto_region 1 with fail
 have HF:=Lib.hid (F6.new w (.slice p d.length c) room calls fail #[.int .i64 at',.int .i64 mask] #[.slice none 0 0,.int .i64 0,.int .i64 0,.int .i64 0] 39 40 39)
 generalize((w.alloc (.cells #[.slice p d.length c,.int .i64 room,.int .i64 calls,.int .i64 fail] 39)).alloc (.cells #[.int .i64 at',.int .i64 mask] 40)).alloc (.cells #[.slice none 0 0,.int .i64 0,.int .i64 0,.int .i64 0] 39)=w0 at *
 obtain⟨f0,f1,f2,f3,u0,u1,ak,aq,au,aB,ay,av,aA,ax⟩:=HF.out.all
 by_cases bG:calls=fail
 case pos =>
  have hx:X=(d,21):=hX.out.symm.trans (by unfold bz eG;rw[if_pos bG,if_pos (by decide)])
  subst hx
  rw[if_pos bG]at cm
  clear hX bG
  go_upto_region 2 with(go_at_call 81;go_loud(refine(cm.out _).mono ?_);rintro e w1 ⟨rfl,hkn⟩;(clear f0 f1 f2 f3 u0 u1 ak aq au aB ay av aA ax;replace HF:=Lib.hid (HF.out.on hkn);obtain⟨f0,f1,f2,f3,u0,u1,ak,aq,au,aB,ay,av,aA,ax⟩:=HF.out.all))
  replace HF:=Lib.hid (HF.out.jU (.slice p d.length c) room (calls+1) fail)
  clear f0 f1 f2 f3 u0 u1 ak aq au aB ay av aA ax
  clear hkn
  generalize(((w1.setCell ⟨w.heap.size,0,none⟩ (.slice p d.length c)).setCell ⟨w.heap.size,1,none⟩ (.int .i64 room)).setCell ⟨w.heap.size,2,none⟩ (.int .i64 (calls+1))).setCell ⟨w.heap.size,3,none⟩ (.int .i64 fail)=w2 at *
  obtain⟨f0,f1,f2,f3,u0,u1,ak,aq,au,aB,ay,av,aA,ax⟩:=HF.out.all
  go_wp2_with fail
  refine bodyPost_ret (v:=.tuple #[.agg #[.slice p d.length c,.int .i64 room,.int .i64 (calls+1),.int .i64 fail],.int .i64 21]) ?_ rfl ⟨p,c,rfl,HH.out.rows.ai (HF.out.fin _ _ _ _),HF.out.fin _ _ _ _⟩
  rw[cL rfl]
  go_simp
 case neg =>
 have jB:X=jr d room at' a b:=hX.out.symm.trans (by unfold bz eG;rw[if_neg bG,if_neg (by decide)])
 rw[if_neg bG]at cm
 replace hX:=Lib.hid jB
 clear bG jB
 go_upto_region 2 with(go_at_call 81;go_loud(refine(cm.out _).mono ?_);rintro e w1 ⟨rfl,hkn⟩;(clear f0 f1 f2 f3 u0 u1 ak aq au aB ay av aA ax;replace HF:=Lib.hid (HF.out.on hkn);obtain⟨f0,f1,f2,f3,u0,u1,ak,aq,au,aB,ay,av,aA,ax⟩:=HF.out.all))
 replace HF:=Lib.hid (HF.out.jU (.slice p d.length c) room (calls+1) fail)
 clear f0 f1 f2 f3 u0 u1 ak aq au aB ay av aA ax
 clear hkn cm
 generalize(((w1.setCell ⟨w.heap.size,0,none⟩ (.slice p d.length c)).setCell ⟨w.heap.size,1,none⟩ (.int .i64 room)).setCell ⟨w.heap.size,2,none⟩ (.int .i64 (calls+1))).setCell ⟨w.heap.size,3,none⟩ (.int .i64 fail)=w2 at *
 have HR:=Lib.hid (HH.out.rows.first (L:=[w.heap.size,w.heap.size+1,w.heap.size+1+1]) HF.out.k (by simp;omega))
 unfold jr at hX
 have fc:Hid (∀wx,aa af w2 wx->Calls Tryz.prog 29 #[.agg #[.slice p d.length c,.int .i64 room],.int .i64 at',.string a,.bool false] wx fun e w'=>e=.returned (.tuple #[.agg #[.int .i64 (aL d at' a false).1.node,.int .i64 (aL d at' a false).1.dir,.string (aL d at' a false).1.name],.int .i64 (aL d at' a false).2])∧aa af wx w'):=Lib.hid fun wx k=>by
  have:=xK (room:=room) (HR.out.ai k) HH.out.inv HH.out.small (pz HH.out.nh HH.out.inv HH.out.clean) at' a false hsa
  unfold aF aE at this
  exact this
 have cS:=fun he:(aL d at' a false).2=0=>qv (d:=d) HH.out.inv (at':=at') (s:=a) (follow:=false) he
 have hts:=zG d at' a false
 obtain⟨tV,hY⟩:∃Y,aL d at' a false=Y:=⟨_,rfl⟩
 rw[hY]at fc hX cS hts
 have jW:=Lib.hid hY
 clear hY
 obtain⟨⟨tn,td,tm⟩,te⟩:=tV
 simp only at fc cS hts
 obtain⟨f0,f1,f2,f3,u0,u1,ak,aq,au,aB,ay,av,aA,ax⟩:=HF.out.all
 go_upto_region 5 with(go_at_call 29;go_loud(refine(fc.out _ (aa.refl _ _)).mono ?_);rintro e w3 ⟨rfl,hkn⟩;(clear f0 f1 f2 f3 u0 u1 ak aq au aB ay av aA ax;replace HF:=Lib.hid (HF.out.on hkn);obtain⟨f0,f1,f2,f3,u0,u1,ak,aq,au,aB,ay,av,aA,ax⟩:=HF.out.all))
 have A9:w.heap.size+3<=w3.heap.size:=by omega
 have bn:=Lib.hid (Bk.new (aa.refl af (w3.alloc (.cells #[.int .i64 tn,.int .i64 td,.string tm] 82))))
 replace HF:=Lib.hid (HF.out.on ((aa.refl af w3).alloc (.cells #[.int .i64 tn,.int .i64 td,.string tm] 82)))
 replace HR:=Lib.hid ((HR.out.ai hkn).ai ((aa.refl af w3).alloc (.cells #[.int .i64 tn,.int .i64 td,.string tm] 82)))
 clear fc
 clear f0 f1 f2 f3 u0 u1 ak aq au aB ay av aA ax
 clear hkn
 generalize w3.alloc (.cells #[.int .i64 tn,.int .i64 td,.string tm] 82)=w4 at *
 generalize w3.heap.size=PB at *
 obtain⟨f0,f1,f2,f3,u0,u1,ak,aq,au,aB,ay,av,aA,ax⟩:=HF.out.all
 by_cases cC:te=0
 case neg =>
  have hb:(te != 0)=true:=by simpa using cC
  obtain rfl:X=(d,te):=hX.out.trans (if_pos cC)
  clear hX cC
  go_wp2_with fail
  refine bodyPost_ret (v:=.tuple #[.agg #[.slice p d.length c,.int .i64 room,.int .i64 (calls+1),.int .i64 fail],.int .i64 te]) ?_ rfl ⟨p,c,rfl,HH.out.rows.ai (HF.out.fin _ _ _ _),HF.out.fin _ _ _ _⟩
  rw[cL rfl]
  go_simp
 case pos =>
  subst cC
  replace hX:=Lib.hid (hX.out.trans (if_neg (by simp)))
  clear hts jW
  obtain⟨k,pM,hk⟩:=eP (cS rfl)
  have pM:tn=(k:Int):=pM
  subst pM
  obtain⟨gr,off,q,mq,rfl,cI,hrow⟩:=HR.out.rowAt hk
  have k0:=hrow.c0
  have hcap:=HR.out.cap
  have hmax:=HR.out.max
  unfold maxLen at hmax
  have dw:(k:Int)<(d.length:Int):=by omega
  clear hrow cS
  obtain⟨kd,aM⟩:∃kd,(nd d (k:Int)).kind=kd:=⟨_,rfl⟩
  rw[aM]at k0
  have E5:=hX.out
  simp only[aM]at E5
  replace hX:=Lib.hid E5
  clear aM E5
  clear f0 f1 f2 f3 u0 u1 ak aq au aB ay av aA ax
  have K0:=Lib.hid k0
  have hgr:=dm k0
  clear k0
  have fc:Hid (∀wx,aa af w4 wx->Calls Tryz.prog 61 #[.agg #[.slice (some ⟨gr,off,none⟩) d.length c,.int .i64 room],.int .i64 at',.string b,.bool false] wx fun e w'=>∃q:aJ,e=.returned (.tuple #[.agg #[.int .i64 q.node,.int .i64 q.dir,.string q.name],.int .i64 (aQ d at' b false).2])∧((aQ d at' b false).2=0->q=(aQ d at' b false).1)∧aa af wx w'):=Lib.hid fun wx k=>by
   have:=xH (room:=room) (HR.out.ai k) HH.out.inv HH.out.small (pz HH.out.nh HH.out.inv HH.out.clean) at' b false hsb
   unfold aF aE at this
   refine this.mono ?_
   rintro e w' ⟨rfl,hk⟩
   exact⟨_,rfl,fun h0=>congrArg Prod.fst (show qF (aQ d at' b false)=aQ d at' b false from if_pos h0),hk⟩
  have E6:=si d at' b false
  obtain⟨Z,hZ⟩:∃Z,aQ d at' b false=Z:=⟨_,rfl⟩
  rw[hZ]at fc hX E6 hw
  clear hZ
  obtain⟨⟨yn,yd,ym⟩,ye⟩:=Z
  simp only at fc E6
  obtain⟨f0,f1,f2,f3,u0,u1,ak,aq,au,aB,ay,av,aA,ax⟩:=HF.out.all
  go_upto_region 8 with(go_at_call 61;go_loud(refine(fc.out _ (aa.refl _ _)).mono ?_);rintro e w5 ⟨⟨qn,qd,qm⟩,rfl,hq,hkn⟩;(clear f0 f1 f2 f3 u0 u1 ak aq au aB ay av aA ax;replace HF:=Lib.hid (HF.out.on hkn);obtain⟨f0,f1,f2,f3,u0,u1,ak,aq,au,aB,ay,av,aA,ax⟩:=HF.out.all))
  replace hq:=Lib.hid hq
  replace bn:=Lib.hid (bn.out.on hkn)
  replace bn:=Lib.hid (bn.out.on ((aa.refl af w5).alloc (.cells #[.int .i64 qn,.int .i64 qd,.string qm] 82)))
  have k0:=((hkn.alloc (.cells #[.int .i64 qn,.int .i64 qd,.string qm] 82)).cell (p:=⟨gr,off+k*5,none⟩) hgr (fun h=>h)).trans K0.out
  have UL:w.heap.size+3<=w5.heap.size:=by omega
  have iD:=Lib.hid (Bk.new (aa.refl af (w5.alloc (.cells #[.int .i64 qn,.int .i64 qd,.string qm] 82))))
  replace HF:=Lib.hid (HF.out.on ((aa.refl af w5).alloc (.cells #[.int .i64 qn,.int .i64 qd,.string qm] 82)))
  replace HR:=Lib.hid ((HR.out.ai hkn).ai ((aa.refl af w5).alloc (.cells #[.int .i64 qn,.int .i64 qd,.string qm] 82)))
  clear fc K0
  clear f0 f1 f2 f3 u0 u1 ak aq au aB ay av aA ax
  clear hkn
  generalize w5.alloc (.cells #[.int .i64 qn,.int .i64 qd,.string qm] 82)=w6 at *
  generalize w5.heap.size=QB at *
  obtain⟨f0,f1,f2,f3,u0,u1,ak,aq,au,aB,ay,av,aA,ax⟩:=HF.out.all
  by_cases cC:ye=0
  case neg =>
   have hb2:(ye != 0)=true:=by simpa using cC
   obtain rfl:X=(d,ye):=hX.out.trans (if_pos cC)
   clear hX cC hq
   go_wp2_with fail
   refine bodyPost_ret (v:=.tuple #[.agg #[.slice (some ⟨gr,off,none⟩) d.length c,.int .i64 room,.int .i64 (calls+1),.int .i64 fail],.int .i64 ye]) ?_ rfl ⟨(some ⟨gr,off,none⟩),c,rfl,HH.out.rows.ai (HF.out.fin _ _ _ _),HF.out.fin _ _ _ _⟩
   rw[cL rfl]
   go_simp
  case pos =>
   subst cC
   replace hX:=Lib.hid (hX.out.trans (if_neg (by simp)))
   have tT:=hq.out rfl
   cases tT
   clear hq
   have p0:=bn.out.cell 0 _ rfl
   have p1:=bn.out.cell 1 _ rfl
   have p2:=bn.out.cell 2 _ rfl
   have q0:=iD.out.cell 0 _ rfl
   have q1:=iD.out.cell 1 _ rfl
   have q2:=iD.out.cell 2 _ rfl
   have gT:=Lib.hid (EY b (by omega))
   by_cases hnm:tm=⟨#[]⟩∨ym=⟨#[]⟩
   case pos =>
    obtain rfl:X=(d,23):=hX.out.trans (if_pos hnm)
    clear hX gT
    have hnc:tm.size=0∨(¬tm.size=0∧ym.size=0):=by
     rcases hnm with rfl|rfl
     ·exact .inl rfl
     ·by_cases e:tm.size=0
      ·exact .inl e
      ·exact .inr ⟨e,rfl⟩
    clear hnm
    rcases hnc with h|⟨h,h2⟩
    ·have he:tm.toList.isEmpty=true:=by rw[n8];simp[h]
     clear h
     go_wp2_with fail
     refine bodyPost_ret (v:=.tuple #[.agg #[.slice (some ⟨gr,off,none⟩) d.length c,.int .i64 room,.int .i64 (calls+1),.int .i64 fail],.int .i64 23]) ?_ rfl ⟨(some ⟨gr,off,none⟩),c,rfl,HH.out.rows.ai (HF.out.fin _ _ _ _),HF.out.fin _ _ _ _⟩
     rw[cL rfl]
     go_simp
    ·have he:tm.toList.isEmpty=false:=by rw[n8];simp[h]
     have he2:ym.toList.isEmpty=true:=by rw[n8];simp[h2]
     clear h h2
     go_wp2_with fail
     refine bodyPost_ret (v:=.tuple #[.agg #[.slice (some ⟨gr,off,none⟩) d.length c,.int .i64 room,.int .i64 (calls+1),.int .i64 fail],.int .i64 23]) ?_ rfl ⟨(some ⟨gr,off,none⟩),c,rfl,HH.out.rows.ai (HF.out.fin _ _ _ _),HF.out.fin _ _ _ _⟩
     rw[cL rfl]
     go_simp
   case neg =>
   have he:tm.toList.isEmpty=false:=by
    rw[n8,decide_eq_false]
    exact fun h=>hnm (.inl (ByteArray.ext (Array.eq_empty_of_size_eq_zero h)))
   have he2:ym.toList.isEmpty=false:=by
    rw[n8,decide_eq_false]
    exact fun h=>hnm (.inr (ByteArray.ext (Array.eq_empty_of_size_eq_zero h)))
   replace hX:=Lib.hid (hX.out.trans (if_neg hnm))
   clear hnm
   obtain⟨es,hes⟩:∃es,cg b=es:=⟨_,rfl⟩
   rw[hes]at hX gT
   try rw[hes]at hw
   clear hes
   by_cases tW:yn=0∧es=true∧kd≠2
   case pos =>
    obtain rfl:X=(d,14):=hX.out.trans (if_pos tW)
    obtain⟨rfl,rfl,h3⟩:=tW
    have hbk:(kd != 2)=true:=by simpa using h3
    clear hX h3
    go_upto_region 13 with(go_at_call 92;go_loud(refine(gT.out _).mono ?_);rintro e w9 ⟨rfl,E7⟩;obtain rfl:w6=w9:=E7.symm)
    go_wp2_with fail
    refine bodyPost_ret (v:=.tuple #[.agg #[.slice (some ⟨gr,off,none⟩) d.length c,.int .i64 room,.int .i64 (calls+1),.int .i64 fail],.int .i64 14]) ?_ rfl ⟨(some ⟨gr,off,none⟩),c,rfl,HH.out.rows.ai (HF.out.fin _ _ _ _),HF.out.fin _ _ _ _⟩
    rw[cL rfl]
    go_simp
   case neg =>
   replace hX:=Lib.hid (hX.out.trans (if_neg tW))
   have hby:(yn==0)=decide (yn=0):=rfl
   have hbk:(kd != 2)=!decide (kd=2):=rfl
   first
    | (have h:¬yn=0:=hw.out;rw[decide_eq_false h]at hby;clear tW hw)
    | (obtain⟨h,rfl⟩:yn=0∧es=false:=hw.out;rw[decide_eq_true h]at hby;clear tW hw)
    | (obtain⟨h,rfl⟩:yn=0∧es=true:=hw.out;have h3:kd=2:=Classical.byContradiction fun e=>tW ⟨h,rfl,e⟩;rw[decide_eq_true h]at hby;rw[decide_eq_true h3]at hbk;clear h3 tW hw)
   all_goals
    clear h
    have iC:Hid (∀wx,aa af w6 wx->Calls Tryz.prog 89 #[.agg #[.slice (some ⟨gr,off,none⟩) d.length c,.int .i64 room,.int .i64 (calls+1),.int .i64 fail],.int .i64 td,.int .i64 7] wx fun e w'=>e=.returned (.int .i64 (cD d td 128))∧aa af wx w'):=Lib.hid fun wx k=>vu (HR.out.ai k) HH.out.inv td 7 (by decide)
    obtain⟨m1,hme⟩:∃me,cD d td 128=me:=⟨_,rfl⟩
    rw[hme]at iC hX
    clear hme
    go_upto_region 15 with(first|(go_at_call 92;go_loud(refine(gT.out _).mono ?_);rintro e w9 ⟨rfl,E7⟩;obtain rfl:w6=w9:=E7.symm)|(go_at_call 89;go_loud(refine(iC.out _ (aa.refl _ _)).mono ?_);rintro e w7 ⟨rfl,hkn⟩;(clear p0 p1 p2 q0 q1 q2);replace bn:=Lib.hid (bn.out.on hkn);have p0:=bn.out.cell 0 _ rfl;have p1:=bn.out.cell 1 _ rfl;have p2:=bn.out.cell 2 _ rfl;replace iD:=Lib.hid (iD.out.on hkn);have q0:=iD.out.cell 0 _ rfl;have q1:=iD.out.cell 1 _ rfl;have q2:=iD.out.cell 2 _ rfl;(clear f0 f1 f2 f3 u0 u1 ak aq au aB ay av aA ax;replace HF:=Lib.hid (HF.out.on hkn);obtain⟨f0,f1,f2,f3,u0,u1,ak,aq,au,aB,ay,av,aA,ax⟩:=HF.out.all)))
    replace HR:=Lib.hid (HR.out.ai hkn)
    clear hkn iC
    by_cases hm0:m1=0
    case neg =>
     have oF:(m1 != 0)=true:=by simpa using hm0
     obtain rfl:X=(d,m1):=hX.out.trans (if_pos hm0)
     clear hX hm0
     go_wp2_with fail
     refine bodyPost_ret (v:=.tuple #[.agg #[.slice (some ⟨gr,off,none⟩) d.length c,.int .i64 room,.int .i64 (calls+1),.int .i64 fail],.int .i64 m1]) ?_ rfl ⟨(some ⟨gr,off,none⟩),c,rfl,HH.out.rows.ai (HF.out.fin _ _ _ _),HF.out.fin _ _ _ _⟩
     rw[cL rfl]
     go_simp
    case pos =>
    subst hm0
    replace hX:=Lib.hid (hX.out.trans (if_neg (by simp)))
    clear k0
    have iC:Hid (∀wx,aa af w7 wx->Calls Tryz.prog 89 #[.agg #[.slice (some ⟨gr,off,none⟩) d.length c,.int .i64 room,.int .i64 (calls+1),.int .i64 fail],.int .i64 yd,.int .i64 7] wx fun e w'=>e=.returned (.int .i64 (cD d yd 128))∧aa af wx w'):=Lib.hid fun wx k=>vu (HR.out.ai k) HH.out.inv yd 7 (by decide)
    obtain⟨m2,hme⟩:∃me,cD d yd 128=me:=⟨_,rfl⟩
    rw[hme]at iC hX
    clear hme
    go_upto_region 18 with((go_at_call 89;go_loud(refine(iC.out _ (aa.refl _ _)).mono ?_);rintro e w8 ⟨rfl,hkn⟩;(clear p0 p1 p2 q0 q1 q2);replace bn:=Lib.hid (bn.out.on hkn);have p0:=bn.out.cell 0 _ rfl;have p1:=bn.out.cell 1 _ rfl;have p2:=bn.out.cell 2 _ rfl;replace iD:=Lib.hid (iD.out.on hkn);have q0:=iD.out.cell 0 _ rfl;have q1:=iD.out.cell 1 _ rfl;have q2:=iD.out.cell 2 _ rfl;(clear f0 f1 f2 f3 u0 u1 ak aq au aB ay av aA ax;replace HF:=Lib.hid (HF.out.on hkn);obtain⟨f0,f1,f2,f3,u0,u1,ak,aq,au,aB,ay,av,aA,ax⟩:=HF.out.all)))
    replace HR:=Lib.hid (HR.out.ai hkn)
    clear hkn iC
    by_cases hm0:m2=0
    case neg =>
     have oF:(m2 != 0)=true:=by simpa using hm0
     obtain rfl:X=(d,m2):=hX.out.trans (if_pos hm0)
     clear hX hm0
     go_wp2_with fail
     refine bodyPost_ret (v:=.tuple #[.agg #[.slice (some ⟨gr,off,none⟩) d.length c,.int .i64 room,.int .i64 (calls+1),.int .i64 fail],.int .i64 m2]) ?_ rfl ⟨(some ⟨gr,off,none⟩),c,rfl,HH.out.rows.ai (HF.out.fin _ _ _ _),HF.out.fin _ _ _ _⟩
     rw[cL rfl]
     go_simp
    case pos =>
    subst hm0
    replace hX:=Lib.hid (hX.out.trans (if_neg (by simp)))
    clear f0 f1 f2 f3 u0 u1 ak aq au aB ay av aA ax
    clear p0 p1 p2 q0 q1 q2
    have hx2:=hX.out
    have HE:=Lib.hid (fun(wx:World) (k:aa af w8 wx)=>TY (room:=room) (HR.out.ai k) (NI.new HH.out.all (HF.out.k.trans k) (by have:=HF.out.b2.lt;have:=k.size;simp;omega)) HH.out.inv HH.out.clean HH.out.small td tm yd ym (Nat.le_trans E6 (by decide)))
    replace hx2:X=(iJ d room td tm yd ym,jA d room td tm yd ym):=hx2
    clear hX
    unfold eH aE at HE
    generalize iJ d room td tm yd ym=d3 at *
    generalize jA d room td tm yd ym=e3 at *
    subst hx2
    obtain⟨f0,f1,f2,f3,u0,u1,ak,aq,au,aB,ay,av,aA,ax⟩:=HF.out.all
    have p0:=bn.out.cell 0 _ rfl
    have p1:=bn.out.cell 1 _ rfl
    have p2:=bn.out.cell 2 _ rfl
    have q0:=iD.out.cell 0 _ rfl
    have q1:=iD.out.cell 1 _ rfl
    have q2:=iD.out.cell 2 _ rfl
    go_upto_region 21 with(go_at_call 93;go_loud(refine(HE.out _ (aa.refl _ _)).mono ?_);rintro e wd ⟨p3,c3,rfl,hr,hkn⟩;(clear f0 f1 f2 f3 u0 u1 ak aq au aB ay av aA ax;replace HF:=Lib.hid (HF.out.on hkn);obtain⟨f0,f1,f2,f3,u0,u1,ak,aq,au,aB,ay,av,aA,ax⟩:=HF.out.all))
    have HD:=Lib.hid (Bk.new (aa.refl af (wd.alloc (.cells #[.slice p3 d3.length c3,.int .i64 room] 37))))
    replace HF:=Lib.hid (HF.out.on ((aa.refl af wd).alloc (.cells #[.slice p3 d3.length c3,.int .i64 room] 37)))
    have gC:=Lib.hid (hr.ai ((aa.refl af wd).alloc (.cells #[.slice p3 d3.length c3,.int .i64 room] 37)))
    clear f0 f1 f2 f3 u0 u1 ak aq au aB ay av aA ax
    clear hkn hr HE
    generalize wd.alloc (.cells #[.slice p3 d3.length c3,.int .i64 room] 37)=we at *
    generalize wd.heap.size=DB at *
    obtain⟨f0,f1,f2,f3,u0,u1,ak,aq,au,aB,ay,av,aA,ax⟩:=HF.out.all
    have e0:=HD.out.cell 0 _ rfl
    have e1:=HD.out.cell 1 _ rfl
    go_upto_region 22 with fail
    replace gC:=Lib.hid (gC.out.put (eV we w.heap.size (.slice p3 d3.length c3) (.int .i64 room)) (by simp))
    replace HF:=Lib.hid (HF.out.lK (.slice p3 d3.length c3) room)
    clear f0 f1 f2 f3 u0 u1 ak aq au aB ay av aA ax
    clear e0 e1
    generalize(we.setCell ⟨w.heap.size,0,none⟩ (.slice p3 d3.length c3)).setCell ⟨w.heap.size,1,none⟩ (.int .i64 room)=wf at *
    obtain⟨f0,f1,f2,f3,u0,u1,ak,aq,au,aB,ay,av,aA,ax⟩:=HF.out.all
    go_wp2_with fail
    refine bodyPost_ret (v:=.tuple #[.agg #[.slice p3 d3.length c3,.int .i64 room,.int .i64 (calls+1),.int .i64 fail],.int .i64 e3]) ?_ rfl ⟨p3,c3,rfl,(gC.out.put (gB wf (w.heap.size+1+1) _ _ _ _) (by simp)).drop,HF.out.fin _ _ _ _⟩
    rw[cL rfl]
    go_simp
 ):P:=h
end Go.Proofs.YtnanhmfpikddkaaGreatDoor
