/-
  Layer 6's statements: same.
-/
import Derived.Test.YtnanhmfpikddkaaGreatDoorG22
import Derived.Test.YtnanhmfpikddkaaGreatDoorG40
import Derived.Test.YtnanhmfpikddkaaGreatDoorG41
import Derived.Deep.RegionHeld3
import Derived.Test.YtnanhmfpikddkaaGreatDoorG24
import Derived.Test.YtnanhmfpikddkaaGreatDoorG08
import Derived.Test.YtnanhmfpikddkaaGreatDoorG01
import Derived.Test.YtnanhmfpikddkaaGreatDoorG15
import Derived.Test.YtnanhmfpikddkaaGreatDoorG11
import Derived.Test.YtnanhmfpikddkaaGreatDoorG21
import Derived.Test.YtnanhmfpikddkaaGreatDoorG16
import Derived.Test.YtnanhmfpikddkaaGreatDoorG18

set_option linter.unusedSimpArgs false
set_option linter.unusedVariables false
set_option maxRecDepth 100000
set_option maxHeartbeats 8000000
namespace Go.Proofs.YtnanhmfpikddkaaGreatDoor
open Go Go.RowKit
structure iM (w:World) (B0 F a:Nat) (d:ag) (room calls fail ro:Int) (p:Option Addr) (c:Nat):Prop where
 f:∃N:Nat->Prop,aY N w F a d room calls fail
 r:∃S:Nat->Prop,aI S w p c d
 lt:B0<w.heap.size
 c0:w.cell? ⟨B0,0,none⟩=some (.pointer (some ⟨F,0,none⟩))
 c3:w.cell? ⟨B0,3,none⟩=some (.slice p d.length c)
 c4:w.cell? ⟨B0,4,none⟩=some (.int .i64 ro)
section
variable{w w':World} {B0 F a:Nat} {d:ag} {room calls fail ro:Int} {p:Option Addr} {c:Nat}
theorem iM.on (h:iM w B0 F a d room calls fail ro p c) (k:aa af w w'):iM w' B0 F a d room calls fail ro p c:=by
 obtain⟨N,hN⟩:=h.f
 obtain⟨S,hS⟩:=h.r
 exact⟨⟨N,hN.on k⟩,⟨S,hS.ai k⟩,Nat.lt_of_lt_of_le h.lt k.size,(k.cell (p:=⟨B0,0,none⟩) h.lt (fun h=>h)).trans h.c0,(k.cell (p:=⟨B0,3,none⟩) h.lt (fun h=>h)).trans h.c3,(k.cell (p:=⟨B0,4,none⟩) h.lt (fun h=>h)).trans h.c4⟩
theorem iM.inv (h:iM w B0 F a d room calls fail ro p c):aG d:=by obtain⟨N,hN⟩:=h.f;exact hN.pd.inv
theorem iM.small (h:iM w B0 F a d room calls fail ro p c):aP d:=by obtain⟨N,hN⟩:=h.f;exact hN.pd.small
theorem iM.disk (h:iM w B0 F a d room calls fail ro p c):Calls Tryz.prog 24 #[.pointer (some ⟨F,0,none⟩)] w fun e w'=>e=.returned (.pointer (some ⟨a,0,none⟩))∧w'=w:=by
 obtain⟨N,hN⟩:=h.f
 exact(IQ hN).mono fun e w' h=>⟨h.1,h.2.symm⟩
theorem iM.info (h:iM w B0 F a d room calls fail ro p c) (i:Int):Calls Tryz.prog 28 #[.pointer (some ⟨a,0,none⟩),.int .i64 i] w fun e w'=>e=.returned (.tuple #[infoAt d i,.int .i64 (if has d i then 0 else 12)])∧aa af w w':=by
 obtain⟨N,hN⟩:=h.f
 exact hN.info i
theorem iM.data (h:iM w B0 F a d room calls fail ro p c) (i:Int):Calls Tryz.prog 32 #[.pointer (some ⟨a,0,none⟩),.int .i64 i] w fun e w'=>e=.returned (.tuple #[.string (ij d i),.int .i64 (mH d i)])∧w'=w:=by
 obtain⟨N,hN⟩:=h.f
 exact hN.pd.tells fun _ _ _ hR _ _=>(y6 hR i).mono fun e w' h=>⟨h.1,h.2.symm⟩
def Jz (w:World) (l:List aD):Ending->World->Prop:=fun e w'=>∃p c,e=.returned (.tuple #[.slice p l.length c,.int .i64 0])∧bt aK (fun g=>w.heap.size<=g) w' p c l∧aa af w w'
theorem iM.list (h:iM w B0 F a d room calls fail ro p c) (i:Int) (hk:(nd d i).kind=2):Calls Tryz.prog 33 #[.pointer (some ⟨a,0,none⟩),.int .i64 i] w (Jz w (nd d i).ah):=by
 obtain⟨N,hN⟩:=h.f
 have hf:aO d i=0:=by unfold aO;rw[if_neg (by rw[hk];decide),if_pos hk]
 refine hN.pd.tells fun _ _ _ hR _ _=>(Cv hR i (gx h.small i)).mono fun e w' h=>?_
 obtain⟨v,rfl,hv,hk⟩:=h
 rw[if_pos hf]at hv
 obtain⟨q,m,rfl,hs⟩:=hv.sl
 rw[hf]
 exact⟨q,m,rfl,hs,hk⟩
theorem iM.has (h:iM w B0 F a d room calls fail ro p c) (i:Int):Calls Tryz.prog 30 #[.agg #[.slice p d.length c,.int .i64 ro],.int .i64 i] w fun e w'=>e=.returned (.bool (decide (has d i)))∧aa af w w':=by
 obtain⟨S,hS⟩:=h.r
 exact rA (room:=ro) hS h.inv.zero i
theorem iM.links (h:iM w B0 F a d room calls fail ro p c) (i:Int):Calls Tryz.prog 31 #[.agg #[.slice p d.length c,.int .i64 ro],.int .i64 i] w fun e w'=>e=.returned (.int .i64 (links d i))∧aa af w w':=by
 obtain⟨S,hS⟩:=h.r
 exact DA (room:=ro) hS h.inv.zero (Nat.le_of_lt h.inv.two) h.small i
theorem JA (h:iM w B0 F a d room calls fail ro p c) (i:Int) (hi:¬has d i) (deep:Int) :
 Calls Tryz.prog 11 #[.pointer (some ⟨B0,0,none⟩),.int .i64 i,.int .i64 i,.int .i64 deep] w fun e w'=>e=.returned (.bool true)∧aa af w w':=by
 have cw:=Lib.hid (h.info i)
 have qz:=Lib.hid h.disk
 rw[show infoAt d i=.agg #[.int .i64 0,.int .i64 0,.int .i64 0,.int .i64 0,.int .i64 0]from if_neg hi,if_neg hi]at cw
 have je:=Lib.hid (fun(wx:World) (k:aa af w wx)=>(h.on k).has i)
 rw[decide_eq_false hi]at je
 have HS:=Lib.hid h
 have c0:=h.c0
 clear h hi
 go_enter Tryz.func11,Tryz.ntmps11
 go_upto_region 2 with(first|(go_at_call 24;go_loud(refine qz.out.mono ?_);rintro e wf ⟨rfl,rfl⟩)|(go_at_call 28;go_loud(refine cw.out.mono ?_);rintro e w1 ⟨rfl,hk1⟩))
 have HK:=Lib.hid (hk1.alloc (.cells #[.int .i64 0,.int .i64 0,.int .i64 0,.int .i64 0,.int .i64 0] 29))
 clear hk1 c0 cw qz
 generalize w1.alloc (.cells #[.int .i64 0,.int .i64 0,.int .i64 0,.int .i64 0,.int .i64 0] 29)=w2 at *
 have c3:=(HS.out.on HK.out).c3
 have c4:=(HS.out.on HK.out).c4
 go_wp2_with(go_at_call 30;go_loud(refine(je.out _ HK.out).mono ?_);rintro e w3 ⟨rfl,aV⟩)
 go_ret
 exact⟨rfl,HK.out.trans aV⟩
theorem JC (h:iM w B0 F a d room calls fail ro p c) (i:Int) (hi:has d i) (D D':Int) (hw:D≠0->IntKind.i64.wrap (D-1)=D')
 (ih:D≠0->∀wx,aa af w wx->∀j:Int,Calls Tryz.prog 11 #[.pointer (some ⟨B0,0,none⟩),.int .i64 j,.int .i64 j,.int .i64 D'] wx fun e w'=>e=.returned (.bool true)∧aa af wx w') :
 Calls Tryz.prog 11 #[.pointer (some ⟨B0,0,none⟩),.int .i64 i,.int .i64 i,.int .i64 D] w fun e w'=>e=.returned (.bool true)∧aa af w w':=by
 have qz:=Lib.hid (fun(wx:World) (k:aa af w wx)=>(h.on k).disk)
 have cw:=Lib.hid (h.info i)
 rw[show infoAt d i=r9 (nd d i) ((links d i:Nat):Int)from if_pos hi,if_pos hi]at cw
 have je:=Lib.hid (fun(wx:World) (k:aa af w wx)=>(h.on k).has i)
 rw[decide_eq_true hi]at je
 have wM:=Lib.hid (fun(wx:World) (k:aa af w wx)=>(h.on k).links i)
 have Ac:=Lib.hid (fun(wx:World) (k:aa af w wx)=>(h.on k).data i)
 have qj:=Lib.hid (fun(wx:World) (k:aa af w wx) (hk:(nd d i).kind=2)=>(h.on k).list i hk)
 have rB:=Lib.hid ih
 have JD:=Lib.hid hw
 have hda:(nd d i).kind≠2->ij d i=(nd d i).data:=fun hk=>by unfold ij;rw[if_neg hi,if_neg hk]
 obtain⟨k,hk2,hk⟩:=eP hi
 obtain⟨S,hS⟩:=h.r
 have hcap:=hS.cap
 have hmax:=hS.max
 unfold maxLen at hmax
 have eC:=h.small
 have hel:=gx eC i
 obtain⟨gr,off,q,mq,rfl,cI,hrow⟩:=hS.rowAt hk
 have gM:=Lib.hid h
 subst hk2
 have sw:=Lib.hid hrow
 have dw:(k:Int)<(d.length:Int):=by omega
 have c0:=h.c0
 clear h hi ih hw hk hrow hS eC
 unfold r9 at cw
 obtain⟨kd,aM⟩:∃kd,(nd d (k:Int)).kind=kd:=⟨_,rfl⟩
 obtain⟨md,l7⟩:∃md,(nd d (k:Int)).mode=md:=⟨_,rfl⟩
 obtain⟨hd,DC⟩:∃hd,(nd d (k:Int)).holds=hd:=⟨_,rfl⟩
 obtain⟨dt,hdt⟩:∃dt,(nd d (k:Int)).data=dt:=⟨_,rfl⟩
 obtain⟨en,hen⟩:∃en,(nd d (k:Int)).ah=en:=⟨_,rfl⟩
 have HC:=Lib.hid (fun(w1:World) (hk1:aa af w w1)=>(show w1.cell? ⟨gr,off+k*5,none⟩=some (.int .i64 kd)∧w1.cell? ⟨gr,off+k*5+1,none⟩=some (.int .i64 md)∧w1.cell? ⟨gr,off+k*5+2,none⟩=some (.int .i64 hd)∧w1.cell? ⟨gr,off+k*5+3,none⟩=some (.string dt)∧w1.cell? ⟨gr,off+k*5+4,none⟩=some (.slice q en.length mq)∧gr<w1.heap.size from by
  rw[<- aM,<- l7,<- DC,<- hdt,<- hen]
  exact⟨(sw.out.ai hk1).c0,(sw.out.ai hk1).c1,(sw.out.ai hk1).c2,(sw.out.ai hk1).c3,(sw.out.ai hk1).c4,(sw.out.ai hk1).lt⟩))
 have Q5:=Lib.hid (fun(w1:World) (hk1:aa af w w1)=>(show bt aK S w1 q mq en from by rw[<- hen];exact(sw.out.ai hk1).sl))
 rw[aM,l7,DC]at cw
 rw[aM]at qj hda
 rw[hdt]at hda
 rw[hen]at qj hel
 generalize links d (k:Int)=ng at *
 generalize sizeOf4 (nd d (k:Int))=sz at *
 generalize ij d (k:Int)=dO at *
 generalize mH d (k:Int)=dE at *
 clear aM l7 DC hdt hen sw
 replace hda:=Lib.hid hda
 go_enter Tryz.func11,Tryz.ntmps11
 go_upto_region 2 with(first|(go_at_call 24;go_loud(refine(qz.out _ (aa.refl _ _)).mono ?_);rintro e wf ⟨rfl,rfl⟩)|(go_at_call 28;go_loud(refine cw.out.mono ?_);rintro e w1 ⟨rfl,hk1⟩))
 have HK:=Lib.hid (hk1.alloc (.cells #[.int .i64 kd,.int .i64 md,.int .i64 (ng:Int),.int .i64 hd,.int .i64 (sz:Int)] 29))
 have HB:=Lib.hid (Bk.new (aa.refl af (w1.alloc (.cells #[.int .i64 kd,.int .i64 md,.int .i64 (ng:Int),.int .i64 hd,.int .i64 (sz:Int)] 29))))
 clear hk1 c0 cw
 generalize w1.alloc (.cells #[.int .i64 kd,.int .i64 md,.int .i64 (ng:Int),.int .i64 hd,.int .i64 (sz:Int)] 29)=w2 at *
 generalize w1.heap.size=IB at *
 have c3:=(gM.out.on HK.out).c3
 have c4:=(gM.out.on HK.out).c4
 go_upto_region 4 with(go_at_call 30;go_loud(refine(je.out _ HK.out).mono ?_);rintro e w3 ⟨rfl,aV⟩)
 replace HB:=Lib.hid (HB.out.on aV)
 replace HK:=Lib.hid (HK.out.trans aV)
 clear c3 c4 aV je
 have c3:=(gM.out.on HK.out).c3
 obtain⟨r0,r1,r2,r3,r4,rl⟩:=HC.out _ HK.out
 go_upto_region 5 with fail
 have HN:=Lib.hid (Bk.new (aa.refl af (w3.alloc (.cells #[.int .i64 kd,.int .i64 md,.int .i64 hd,.string dt,.slice q en.length mq] 57))))
 replace HB:=Lib.hid (HB.out.on ((aa.refl af w3).alloc (.cells #[.int .i64 kd,.int .i64 md,.int .i64 hd,.string dt,.slice q en.length mq] 57)))
 replace HK:=Lib.hid (HK.out.alloc (.cells #[.int .i64 kd,.int .i64 md,.int .i64 hd,.string dt,.slice q en.length mq] 57))
 clear c3 r0 r1 r2 r3 r4 rl HC
 generalize w3.alloc (.cells #[.int .i64 kd,.int .i64 md,.int .i64 hd,.string dt,.slice q en.length mq] 57)=w4 at *
 generalize w3.heap.size=NB at *
 go_cut [73]from 46 to 73 (fun x wx=>x=.bool false∧aa af w4 wx)
 case first =>
  have kr:aa af w4 w4.drew:=(aa.refl af w4).drew
  have s3:=(gM.out.on (HK.out.trans kr)).c3
  have s4:=(gM.out.on (HK.out.trans kr)).c4
  have i0:=(HB.out.on kr).cell 0 _ rfl
  have i1:=(HB.out.on kr).cell 1 _ rfl
  have i2:=(HB.out.on kr).cell 2 _ rfl
  have n0:=(HN.out.on kr).cell 0 _ rfl
  have n1:=(HN.out.on kr).cell 1 _ rfl
  go_region_held3 (fun wz=>wz.cell? ⟨B0,3,none⟩=some (.slice (some ⟨gr,off,none⟩) d.length c)∧wz.cell? ⟨B0,4,none⟩=some (.int .i64 ro)∧wz.cell? ⟨IB,0,none⟩=some (.int .i64 kd)∧wz.cell? ⟨IB,1,none⟩=some (.int .i64 md)∧wz.cell? ⟨IB,2,none⟩=some (.int .i64 (ng:Int))∧wz.cell? ⟨NB,0,none⟩=some (.int .i64 kd)∧wz.cell? ⟨NB,1,none⟩=some (.int .i64 md))
   (refine⟨?_,?_,?_,?_,?_,?_,?_⟩<;>with_reducible assumption)
   (first|(go_at_call 31;refine(wM.out _ (HK.out.trans kD)).mono ?_;rintro e w6 ⟨rfl,cF⟩;have zk:aa af w4 w6:=aa.trans kD cF;have z3:=(gM.out.on (HK.out.trans zk)).c3;have z4:=(gM.out.on (HK.out.trans zk)).c4;have j0:=(HB.out.on zk).cell 0 _ rfl;have j1:=(HB.out.on zk).cell 1 _ rfl;have j2:=(HB.out.on zk).cell 2 _ rfl;have m0:=(HN.out.on zk).cell 0 _ rfl;have m1:=(HN.out.on zk).cell 1 _ rfl))
  all_goals(go_wp2_with fail;go_meet;exact⟨by simp,by first|exact zk|exact zk.drew⟩)
 case rest =>
 obtain⟨rfl,bX⟩:=hcut
 replace HB:=Lib.hid (HB.out.on bX)
 replace HN:=Lib.hid (HN.out.on bX)
 replace HK:=Lib.hid (HK.out.trans bX)
 clear bX wM
 have c0:=(gM.out.on HK.out).c0
 have n0:=HN.out.cell 0 _ rfl
 have n3:=HN.out.cell 3 _ rfl
 have n4:=HN.out.cell 4 _ rfl
 by_cases h2:kd=2
 case neg =>
  have hb2:(kd != 2)=true:=by simpa using h2
  obtain rfl:dO=dt:=hda.out h2
  have sx:(dO.toList==dO.toList)=true:=by rw[toList_eq];simp
  clear h2 hda
  go_wp2_with(first|(go_at_call 24;go_loud(refine(qz.out _ HK.out).mono ?_);rintro e wf ⟨rfl,rfl⟩)|(go_at_call 32;go_loud(refine(Ac.out _ HK.out).mono ?_);rintro e wf ⟨rfl,rfl⟩))
  go_ret
  exact⟨by simp,HK.out⟩
 case pos =>
 subst h2
 have HL:=Lib.hid (qj.out _ HK.out rfl)
 clear hda qj
 unfold Jz at HL
 by_cases hD:D=0
 case pos =>
  subst hD
  go_wp2_with(first|(go_at_call 24;go_loud(refine(qz.out _ HK.out).mono ?_);rintro e wf ⟨rfl,rfl⟩)|(go_at_call 33;go_loud(refine HL.out.mono ?_);rintro e w7 ⟨pl,cl,rfl,hsl,iE⟩;have JE:=(HN.out.on iE).cell 4 _ rfl))
  go_ret
  exact⟨rfl,HK.out.trans iE⟩
 case neg =>
 have V7:(D==0)=false:=by simpa using hD
 have Dy:=Lib.hid (rB.out hD)
 have hwr:=JD.out hD
 clear rB JD hD
 go_upto_region 13 with(first|(go_at_call 24;go_loud(refine(qz.out _ HK.out).mono ?_);rintro e wf ⟨rfl,rfl⟩)|(go_at_call 33;go_loud(refine HL.out.mono ?_);rintro e w7 ⟨pl,cl,rfl,hsl,iE⟩;have JE:=(HN.out.on iE).cell 4 _ rfl))
 have Q6:=Lib.hid hsl
 have hcl:=hsl.cap
 have hml:=hsl.max
 unfold maxLen at hml
 replace HN:=Lib.hid (HN.out.on iE)
 replace HK:=Lib.hid (HK.out.trans iE)
 clear hsl iE JE c0 n0 n3 n4 HL qz Ac
 go_wp2
 go_loopw [16,115] (fun _ iv wr=>∃j:Nat,j<=en.length∧iv=.int .i64 j∧aa af w7 wr) (fun _ iv _=>en.length+1-(intOf iv).toNat)
 case atStart=>exact⟨0,Nat.zero_le _,rfl,aa.refl _ _⟩
 case round =>
  obtain⟨j,hj,rfl,hkp⟩:=hrel
  have pF:=Lib.hid hkp
  clear hkp
  by_cases hlt:j<en.length
  case pos =>
   have hlz:(j:Int)<(en.length:Int):=by omega
   obtain⟨x,hx⟩:∃x,en[j]?=some x:=⟨_,List.getElem?_eq_getElem hlt⟩
   obtain⟨g1,o1,rfl,_,_,a0,a1⟩:=(Q6.out.ai pF.out).iW hx
   obtain⟨g2,o2,rfl,_,_,b0,b1⟩:=(Q5.out _ (HK.out.trans pF.out)).iW hx
   have n4:=(HN.out.on pF.out).cell 4 _ rfl
   clear hx
   obtain⟨xn,xi⟩:=x
   simp only at a0 a1 b0 b1
   have sx:(xn.toList==xn.toList)=true:=by rw[toList_eq];simp
   have q1:(0:Int)<=j:=by omega
   go_upto_region 16 with fail
   go_cut [147]from 118 to 147 (fun x wx=>x=.bool false∧aa af wr wx)
   case first =>
    have kr:aa af wr wr.drew:=(aa.refl af wr).drew
    have d0:=cG kr a0
    have d1:=cG kr a1
    have d2:=cG kr b0
    have d3:=cG kr b1
    have d4:=cG kr n4
    go_region_held3 (fun wz=>wz.cell? ⟨g1,o1+j*2,none⟩=some (.string xn)∧wz.cell? ⟨g1,o1+j*2+1,none⟩=some (.int .i64 xi)∧wz.cell? ⟨g2,o2+j*2,none⟩=some (.string xn)∧wz.cell? ⟨g2,o2+j*2+1,none⟩=some (.int .i64 xi)∧wz.cell? ⟨NB,4,none⟩=some (.slice (some ⟨g2,o2,none⟩) en.length mq))
     (refine⟨?_,?_,?_,?_,?_⟩<;>with_reducible assumption)
     (first|(go_at_call 11;refine(Dy.out _ (HK.out.trans (pF.out.trans kD)) xi).mono ?_;rintro e w8 ⟨rfl,fP⟩;have zk:aa af wr w8:=aa.trans kD fP;have z0:=cG zk a0;have z1:=cG zk a1;have z2:=cG zk b0;have z3:=cG zk b1;have z4:=cG zk n4))
    all_goals(go_wp2_with fail;go_meet;exact⟨by simp,by first|exact zk|exact zk.drew⟩)
   case rest =>
    obtain⟨rfl,fP⟩:=hcut
    clear a0 a1 b0 b1 n4
    go_wp2_with fail
    go_roundw
    case rel=>exact⟨j+1,by omega,by go_num,pF.out.trans fP⟩
    case measure=>simp[intOf];omega
  case neg =>
   obtain rfl:j=en.length:=by omega
   have hlz:¬(en.length:Int)<(en.length:Int):=by omega
   go_wp2_with fail
   go_ret
   exact⟨rfl,HK.out.trans pF.out⟩
theorem DD (h:iM w B0 F a d room calls fail ro p c) (deep:Nat) (hd:deep<=1000) (i:Int) :
 Calls Tryz.prog 11 #[.pointer (some ⟨B0,0,none⟩),.int .i64 i,.int .i64 i,.int .i64 (deep:Int)] w fun e w'=>e=.returned (.bool true)∧aa af w w':=by
 induction deep generalizing w i with
 | zero =>
   by_cases hi:has d i
   ·exact JC h i hi _ 0 (fun hn=>absurd rfl hn) (fun hn=>absurd rfl hn)
   ·exact JA h i hi _
 | succ deep ih =>
   by_cases hi:has d i
   ·exact JC h i hi _ (deep:Int) (fun _=>by rw[IntKind.wrap_i64];omega) (fun _ wx kx j=>ih (h.on kx) (by omega) j)
   ·exact JA h i hi _
end
set_option maxHeartbeats 4000000
section
variable{N:Nat->Prop} {w w':World} {F a:Nat} {d d':ag} {room calls fail:Int}
theorem uK (hI:aG d) (at':Int) (s:ByteArray) (follow:Bool):kK d (aL d at' s follow)=(aL d at' s follow).2:=by
 unfold kK
 by_cases h1:(aL d at' s follow).2≠0
 ·rw[if_pos h1]
 ·rw[if_neg h1,if_pos (qv hI (Classical.not_not.1 h1)),Classical.not_not.1 h1]
theorem Qd (h:aY N w F a d room calls fail) (at' mask:Int) (s:ByteArray) (hsz:s.size<=4294967280) :
 Calls Tryz.prog 13 #[.pointer (some ⟨F,0,none⟩),.agg #[.int .i64 at',.int .i64 mask],.string s] w fun e w' =>
  e=.returned (.tuple #[.string (pS d at' s).1,.int .i64 (pS d at' s).2])∧aa af w w':=by
 have HS:=Lib.hid (fun wx (k:aa af w wx)=>uI (h.on k) at' mask s false hsz)
 obtain⟨ik,im,il,ih,iz,hsv,hkm⟩:=zS h (aL d at' s false)
 rw[hsv,uK h.pd.inv]at HS
 rw[uK h.pd.inv]at hkm
 have cS:=fun he:(aL d at' s false).2=0=>qv (d:=d) h.pd.inv (at':=at') (s:=s) (follow:=false) he
 obtain⟨Z,hZ⟩:∃Z,pS d at' s=Z:=⟨_,rfl⟩
 rw[hZ]
 unfold pS at hZ
 obtain⟨⟨⟨pn,pd,pm⟩,te⟩,hX⟩:∃X,aL d at' s false=X:=⟨_,rfl⟩
 rw[hX]at HS hkm cS hZ
 simp only at HS hkm cS hZ
 have HF:=Lib.hid h
 have HD:Hid (∀wx,aa af w wx->Calls Tryz.prog 32 #[.pointer (some ⟨a,0,none⟩),.int .i64 pn] wx fun e w'=>e=.returned (.tuple #[.string (ij d pn),.int .i64 (mH d pn)])∧wx=w'):=Lib.hid fun wx k=>(h.on k).pd.tells fun _ _ _ hR _ _=>y6 hR pn
 have fH:=Lib.hid ((aa.refl af w).alloc (.cells #[.int .i64 at',.int .i64 mask] 34))
 clear hX hsv
 by_cases he:te=0
 case neg =>
  have hb:(te != 0)=true:=by simpa using he
  rw[if_pos he]at hZ
  subst hZ
  clear he h cS hkm
  go_enter Tryz.func13,Tryz.ntmps13
  go_wp2_with(go_at_call 9;go_loud(refine(HS.out _ fH.out).mono ?_);rintro e w4 ⟨rfl,bB⟩)
  go_ret2
  exact⟨rfl,(fH.out.trans bB).alloc _⟩
 case pos =>
  subst he
  rw[if_neg (by simp)]at hZ
  obtain⟨rfl,jN⟩:=hkm rfl
  clear jN
  have hh:=cS rfl
  obtain⟨kd,aM⟩:∃kd,(nd d pn).kind=kd:=⟨_,rfl⟩
  rw[aM]at hZ HS
  by_cases h3:kd=3
  ·have hb:(kd != 3)=false:=by simpa using h3
   rw[if_neg (fun x=>x h3)]at hZ
   have e1:ij d pn=(nd d pn).data:=by unfold ij;rw[if_neg (by rw[aM,h3];decide),if_neg (by rw[aM,h3];decide)]
   have e2:mH d pn=0:=by unfold mH;rw[if_neg (by rw[aM,h3];decide),if_neg (by rw[aM,h3];decide)]
   rw[e1,e2]at HD
   subst hZ
   clear e1 e2 h3 aM hh cS h hkm
   generalize(nd d pn).data=dt at *
   go_enter Tryz.func13,Tryz.ntmps13
   go_upto_region 6 with(go_at_call 9;go_loud(refine(HS.out _ fH.out).mono ?_);rintro e w4 ⟨rfl,bB⟩)
   have kM:=Lib.hid ((fH.out.trans bB).alloc (.cells #[.int .i64 kd,.int .i64 im,.int .i64 il,.int .i64 ih,.int .i64 iz] 29))
   have f5:=(HF.out.on kM.out).c0
   clear bB
   go_wp2_with(go_at_call 32;go_loud(refine(HD.out _ kM.out).mono ?_);rintro e w6 ⟨rfl,Qe⟩;subst Qe)
   go_ret2
   exact⟨rfl,kM.out⟩
  ·have hb:(kd != 3)=true:=by simpa using h3
   rw[if_pos h3]at hZ
   subst hZ
   clear h3 aM hh cS h hkm
   go_enter Tryz.func13,Tryz.ntmps13
   go_wp2_with(go_at_call 9;go_loud(refine(HS.out _ fH.out).mono ?_);rintro e w4 ⟨rfl,bB⟩)
   go_ret2
   exact⟨rfl,(fH.out.trans bB).alloc _⟩
def zU (r:Int × Int) (mask:Int):Value:=if r.2=0 then .agg #[.int .i64 r.1,.int .i64 mask]else .agg #[.int .i64 0,.int .i64 0]
theorem Qf (h:aY N w F a d room calls fail) (at' mask:Int) (s:ByteArray) (hsz:s.size<=4294967280) :
 Calls Tryz.prog 103 #[.pointer (some ⟨F,0,none⟩),.agg #[.int .i64 at',.int .i64 mask],.string s] w fun e w' =>
  e=.returned (.tuple #[zU (fI d at' s 64) mask,.int .i64 (fI d at' s 64).2])∧aa af w w':=by
 have HS:=Lib.hid (fun wx (k:aa af w wx)=>uI (h.on k) at' mask s true hsz)
 obtain⟨ik,im,il,ih,iz,hsv,hkm⟩:=zS h (aL d at' s true)
 rw[hsv,uK h.pd.inv]at HS
 rw[uK h.pd.inv]at hkm
 obtain⟨Z,hZ⟩:∃Z,fI d at' s 64=Z:=⟨_,rfl⟩
 rw[hZ]
 obtain⟨V,hV⟩:∃V,zU Z mask=V:=⟨_,rfl⟩
 rw[hV]
 unfold fI at hZ
 obtain⟨⟨⟨pn,pd,pm⟩,te⟩,hX⟩:∃X,aL d at' s true=X:=⟨_,rfl⟩
 rw[hX]at HS hkm hZ
 simp only at HS hkm hZ
 have k0:aa af w ((w.alloc (.cells #[.int .i64 at',.int .i64 mask] 34)).alloc (.cells #[.int .i64 0,.int .i64 0] 34)):=((aa.refl af w).alloc _).alloc _
 have e1:(w.alloc (.cells #[.int .i64 at',.int .i64 mask] 34)).heap.size=w.heap.size+1:=by simp
 have fH:=Lib.hid k0
 have HB:=Lib.hid (fun wx (kx:aa af ((w.alloc (.cells #[.int .i64 at',.int .i64 mask] 34)).alloc (.cells #[.int .i64 0,.int .i64 0] 34)) wx)=>(⟨Bk.new (((aa.refl af (w.alloc (.cells #[.int .i64 at',.int .i64 mask] 34))).alloc (.cells #[.int .i64 0,.int .i64 0] 34)).trans kx),e1▸Bk.new kx⟩:Bk wx w.heap.size [.int .i64 at',.int .i64 mask]∧Bk wx (w.heap.size+1) [.int .i64 0,.int .i64 0]))
 have hI:=h.pd.inv
 clear hX hsv k0 h e1
 by_cases he:te=0
 case neg =>
  have hb:(te != 0)=true:=by simpa using he
  rw[if_pos he]at hZ
  subst hZ
  have Qg:V=.agg #[.int .i64 0,.int .i64 0]:=by rw[<- hV];exact if_neg he
  subst Qg
  clear he hkm hV
  go_enter Tryz.func103,Tryz.ntmps103
  go_wp2_with(go_at_call 9;go_loud(refine(HS.out _ fH.out).mono ?_);rintro e w4 ⟨rfl,bB⟩;obtain⟨B0,B1⟩:=HB.out _ bB;have a0:=B0.cell 0 _ rfl;have a1:=B0.cell 1 _ rfl;have al:=B0.lt;have az:=B0.fz;have c0:=B1.cell 0 _ rfl;have c1:=B1.cell 1 _ rfl;have cl:=B1.lt;have cz:=B1.fz;clear B0 B1)
  refine bodyPost_ret (v:=.tuple #[.agg #[.int .i64 0,.int .i64 0],.int .i64 te]) ?_ rfl ⟨rfl,by repeat(first|exact fH.out.trans bB|refine aa.alloc ?_ _|refine aa.setCell ?_ (.inr (by first|exact Nat.le_refl _|exact Nat.le_succ _)) _)⟩
  rw[cL rfl]
  go_simp
 case pos =>
  subst he
  rw[if_neg (by simp)]at hZ
  obtain⟨rfl,rfl⟩:=hkm rfl
  have hm0:=(hI.node pn).mV
  have bU:=(hI.node pn).mW
  have s8:=I8 (nd d pn).mode hm0 bU
  obtain⟨md,l7⟩:∃md,(nd d pn).mode=md:=⟨_,rfl⟩
  obtain⟨kd,aM⟩:∃kd,(nd d pn).kind=kd:=⟨_,rfl⟩
  rw[aM,l7]at hZ HS
  rw[l7]at s8
  clear aM l7 hm0 bU hkm hI
  by_cases h2:kd=2
  ·have hb:(kd != 2)=false:=by simpa using h2
   rw[if_neg (fun x=>x h2)]at hZ
   by_cases h4:md / 64 % 2=0
   ·rw[if_pos h4]at hZ
    rw[decide_eq_true h4]at s8
    subst hZ
    obtain rfl:V=.agg #[.int .i64 0,.int .i64 0]:=by rw[<- hV];exact if_neg (by decide)
    clear h2 h4 hV
    go_enter Tryz.func103,Tryz.ntmps103
    go_wp2_with(go_at_call 9;go_loud(refine(HS.out _ fH.out).mono ?_);rintro e w4 ⟨rfl,bB⟩;obtain⟨B0,B1⟩:=HB.out _ bB;have a0:=B0.cell 0 _ rfl;have a1:=B0.cell 1 _ rfl;have al:=B0.lt;have az:=B0.fz;have c0:=B1.cell 0 _ rfl;have c1:=B1.cell 1 _ rfl;have cl:=B1.lt;have cz:=B1.fz;clear B0 B1)
    refine bodyPost_ret (v:=.tuple #[.agg #[.int .i64 0,.int .i64 0],.int .i64 19]) ?_ rfl ⟨rfl,by repeat(first|exact fH.out.trans bB|refine aa.alloc ?_ _|refine aa.setCell ?_ (.inr (by first|exact Nat.le_refl _|exact Nat.le_succ _)) _)⟩
    rw[cL rfl]
    go_simp
   ·rw[if_neg h4]at hZ
    rw[decide_eq_false h4]at s8
    subst hZ
    obtain rfl:V=.agg #[.int .i64 pn,.int .i64 mask]:=by rw[<- hV];exact if_pos rfl
    clear h2 h4 hV
    go_enter Tryz.func103,Tryz.ntmps103
    go_wp2_with(go_at_call 9;go_loud(refine(HS.out _ fH.out).mono ?_);rintro e w4 ⟨rfl,bB⟩;obtain⟨B0,B1⟩:=HB.out _ bB;have a0:=B0.cell 0 _ rfl;have a1:=B0.cell 1 _ rfl;have al:=B0.lt;have az:=B0.fz;have c0:=B1.cell 0 _ rfl;have c1:=B1.cell 1 _ rfl;have cl:=B1.lt;have cz:=B1.fz;clear B0 B1)
    refine bodyPost_ret (v:=.tuple #[.agg #[.int .i64 pn,.int .i64 mask],.int .i64 0]) ?_ rfl ⟨rfl,by repeat(first|exact fH.out.trans bB|refine aa.alloc ?_ _|refine aa.setCell ?_ (.inr (by first|exact Nat.le_refl _|exact Nat.le_succ _)) _)⟩
    rw[cL rfl]
    go_simp
  ·have hb:(kd != 2)=true:=by simpa using h2
   rw[if_pos h2]at hZ
   subst hZ
   obtain rfl:V=.agg #[.int .i64 0,.int .i64 0]:=by rw[<- hV];exact if_neg (by decide)
   clear h2 hV
   go_enter Tryz.func103,Tryz.ntmps103
   go_wp2_with(go_at_call 9;go_loud(refine(HS.out _ fH.out).mono ?_);rintro e w4 ⟨rfl,bB⟩;obtain⟨B0,B1⟩:=HB.out _ bB;have a0:=B0.cell 0 _ rfl;have a1:=B0.cell 1 _ rfl;have al:=B0.lt;have az:=B0.fz;have c0:=B1.cell 0 _ rfl;have c1:=B1.cell 1 _ rfl;have cl:=B1.lt;have cz:=B1.fz;clear B0 B1)
   refine bodyPost_ret (v:=.tuple #[.agg #[.int .i64 0,.int .i64 0],.int .i64 14]) ?_ rfl ⟨rfl,by repeat(first|exact fH.out.trans bB|refine aa.alloc ?_ _|refine aa.setCell ?_ (.inr (by first|exact Nat.le_refl _|exact Nat.le_succ _)) _)⟩
   rw[cL rfl]
   go_simp
end
set_option maxHeartbeats 8000000
section
variable{S:Nat->Prop} {w:World} {p:Option Addr} {c:Nat} {d:ag} {room calls fail:Int}
theorem Ea (H:R6 S w p c d calls) {S':Nat->Prop} {wx:World} (h:aI S' wx p c d) (at' mask:Int) (s:ByteArray) (follow:Bool) (hs:s.size<=4294967280) :
 Calls Tryz.prog 10 #[fV p c d.length room calls fail,.agg #[.int .i64 at',.int .i64 mask],.string s,.bool follow] wx fun e w' =>
  e=.returned (.tuple #[.int .i64 (aL d at' s follow).1.node,.int .i64 (aL d at' s follow).2])∧aa af wx w':=by
 have k0:aa af wx ((wx.alloc (.cells #[.slice p d.length c,.int .i64 room,.int .i64 calls,.int .i64 fail] 39)).alloc (.cells #[.int .i64 at',.int .i64 mask] 40)):=((aa.refl af wx).alloc _).alloc _
 have cS:=xK (room:=room) (h.ai k0) H.inv H.small (pz H.nh H.inv H.clean) at' s follow hs
 have cS:Calls Tryz.prog 29 #[aE p c d room,.int .i64 at',.string s,.bool follow] _ fun e w'=>e=.returned (.tuple #[aF (aL d at' s follow).1,.int .i64 (aL d at' s follow).2])∧aa af _ w':=cS
 obtain⟨⟨⟨tn,td,tm⟩,te⟩,hY⟩:∃Y,aL d at' s follow=Y:=⟨_,rfl⟩
 rw[hY]at cS ⊢
 unfold aF aE at cS
 unfold fV
 have fc:=Lib.hid cS
 have HK:=Lib.hid k0
 clear cS k0 hY h H
 go_enter Tryz.func10,Tryz.ntmps10
 go_wp2_with(go_at_call 29;go_loud(refine fc.out.mono ?_);rintro e w1 ⟨rfl,hk1⟩)
 go_ret2
 exact⟨rfl,(HK.out.trans hk1).alloc _⟩
theorem R5 (H:R6 S w p c d calls) (at' mask:Int) (s:ByteArray) (hs:s.size<=4294967280) :
 Calls Tryz.prog 14 #[fV p c d.length room calls fail,.agg #[.int .i64 at',.int .i64 mask],.string s] w fun e w' =>
  e=.returned (.tuple #[.string (pS d at' s).1,.int .i64 (pS d at' s).2])∧aa af w w':=by
 have k0:aa af w ((w.alloc (.cells #[.slice p d.length c,.int .i64 room,.int .i64 calls,.int .i64 fail] 39)).alloc (.cells #[.int .i64 at',.int .i64 mask] 40)):=((aa.refl af w).alloc _).alloc _
 have iP:=Lib.hid (Ea (room:=room) (fail:=fail) H (H.rows.ai k0) at' mask s false hs)
 have cS:=fun he:(aL d at' s false).2=0=>qv (d:=d) H.inv (at':=at') (s:=s) (follow:=false) he
 obtain⟨Z,hZ⟩:∃Z,pS d at' s=Z:=⟨_,rfl⟩
 rw[hZ]
 unfold pS at hZ
 obtain⟨⟨⟨tn,td,tm⟩,te⟩,hY⟩:∃Y,aL d at' s false=Y:=⟨_,rfl⟩
 rw[hY]at iP cS hZ
 simp only at iP cS hZ
 unfold fV at *
 have HB:=Lib.hid (fun wx (kx:aa af ((w.alloc (.cells #[.slice p d.length c,.int .i64 room,.int .i64 calls,.int .i64 fail] 39)).alloc (.cells #[.int .i64 at',.int .i64 mask] 40)) wx)=>Bk.new (((aa.refl af (w.alloc (.cells #[.slice p d.length c,.int .i64 room,.int .i64 calls,.int .i64 fail] 39))).alloc (.cells #[.int .i64 at',.int .i64 mask] 40)).trans kx))
 have HK:=Lib.hid k0
 clear hY k0
 by_cases he:te=0
 case neg =>
  have hb:(te != 0)=true:=by simpa using he
  rw[if_pos he]at hZ
  subst hZ
  clear he H cS
  go_enter Tryz.func14,Tryz.ntmps14
  go_wp2_with(go_at_call 10;go_loud(refine iP.out.mono ?_);rintro e w1 ⟨rfl,hk1⟩;have f0:=(HB.out _ hk1).cell 0 _ rfl;have f1:=(HB.out _ hk1).cell 1 _ rfl)
  go_ret2
  exact⟨rfl,HK.out.trans hk1⟩
 case pos =>
  subst he
  rw[if_neg (by simp)]at hZ
  obtain⟨k,hk2,hk⟩:=eP (cS rfl)
  have hk2:tn=(k:Int):=hk2
  subst hk2
  obtain⟨g,off,q,m,rfl,cI,hrow⟩:=H.rows.rowAt hk
  have HC:=Lib.hid (fun(w1:World) (hk1:aa af w w1)=>(⟨(hrow.ai hk1).c0,(hrow.ai hk1).c3,(hrow.ai hk1).lt⟩:_∧_∧_))
  have hcap:=H.rows.cap
  have hmax:=H.rows.max
  unfold maxLen at hmax
  have dw:(k:Int)<(d.length:Int):=by omega
  obtain⟨kd,aM⟩:∃kd,(nd d (k:Int)).kind=kd:=⟨_,rfl⟩
  obtain⟨dt,hdt⟩:∃dt,(nd d (k:Int)).data=dt:=⟨_,rfl⟩
  rw[aM,hdt]at hZ HC
  clear H cS hrow aM hdt
  by_cases h3:kd=3
  ·have hb:(kd != 3)=false:=by simpa using h3
   rw[if_neg (fun h=>h h3)]at hZ
   subst hZ
   clear h3
   go_enter Tryz.func14,Tryz.ntmps14
   go_wp2_with(go_at_call 10;go_loud(refine iP.out.mono ?_);rintro e w1 ⟨rfl,hk1⟩;have f0:=(HB.out _ hk1).cell 0 _ rfl;have f1:=(HB.out _ hk1).cell 1 _ rfl;obtain⟨c0,c3,cl⟩:=HC.out _ (HK.out.trans hk1))
   go_ret2
   exact⟨rfl,HK.out.trans hk1⟩
  ·have hb:(kd != 3)=true:=by simpa using h3
   rw[if_pos h3]at hZ
   subst hZ
   clear h3
   go_enter Tryz.func14,Tryz.ntmps14
   go_wp2_with(go_at_call 10;go_loud(refine iP.out.mono ?_);rintro e w1 ⟨rfl,hk1⟩;have f0:=(HB.out _ hk1).cell 0 _ rfl;have f1:=(HB.out _ hk1).cell 1 _ rfl;obtain⟨c0,c3,cl⟩:=HC.out _ (HK.out.trans hk1))
   go_ret2
   exact⟨rfl,HK.out.trans hk1⟩
theorem JH (H:R6 S w p c d calls) (at' mask:Int) (s:ByteArray) (b:Nat) (Wy:b<=50) (hs:s.size<=4294967280) :
 Calls Tryz.prog 16 #[fV p c d.length room calls fail,.agg #[.int .i64 at',.int .i64 mask],.string s,.int .i64 (b:Int)] w fun e w' =>
  e=.returned (.tuple #[.int .i64 (fI d at' s ((2 ^ b:Nat):Int)).1,.int .i64 (fI d at' s ((2 ^ b:Nat):Int)).2])∧aa af w w':=by
 have k0:aa af w ((w.alloc (.cells #[.slice p d.length c,.int .i64 room,.int .i64 calls,.int .i64 fail] 39)).alloc (.cells #[.int .i64 at',.int .i64 mask] 40)):=((aa.refl af w).alloc _).alloc _
 have iP:=Lib.hid (Ea (room:=room) (fail:=fail) H (H.rows.ai k0) at' mask s true hs)
 have cS:=fun he:(aL d at' s true).2=0=>qv (d:=d) H.inv (at':=at') (s:=s) (follow:=true) he
 obtain⟨Z,hZ⟩:∃Z,fI d at' s ((2 ^ b:Nat):Int)=Z:=⟨_,rfl⟩
 rw[hZ]
 unfold fI at hZ
 obtain⟨⟨⟨tn,td,tm⟩,te⟩,hY⟩:∃Y,aL d at' s true=Y:=⟨_,rfl⟩
 rw[hY]at iP cS hZ
 simp only at iP cS hZ
 unfold fV at *
 have HB:=Lib.hid (fun wx (kx:aa af ((w.alloc (.cells #[.slice p d.length c,.int .i64 room,.int .i64 calls,.int .i64 fail] 39)).alloc (.cells #[.int .i64 at',.int .i64 mask] 40)) wx)=>Bk.new (((aa.refl af (w.alloc (.cells #[.slice p d.length c,.int .i64 room,.int .i64 calls,.int .i64 fail] 39))).alloc (.cells #[.int .i64 at',.int .i64 mask] 40)).trans kx))
 have HK:=Lib.hid k0
 clear hY k0
 by_cases he:te=0
 case neg =>
  have hb:(te != 0)=true:=by simpa using he
  rw[if_pos he]at hZ
  subst hZ
  clear he H cS
  go_enter Tryz.func16,Tryz.ntmps16
  go_wp2_with(go_at_call 10;go_loud(refine iP.out.mono ?_);rintro e w1 ⟨rfl,hk1⟩;have f0:=(HB.out _ hk1).cell 0 _ rfl;have f1:=(HB.out _ hk1).cell 1 _ rfl)
  go_ret2
  exact⟨rfl,HK.out.trans hk1⟩
 case pos =>
  subst he
  rw[if_neg (by simp)]at hZ
  obtain⟨k,hk2,hk⟩:=eP (cS rfl)
  have hk2:tn=(k:Int):=hk2
  subst hk2
  obtain⟨g,off,q,m,rfl,cI,hrow⟩:=H.rows.rowAt hk
  have HC:=Lib.hid (fun(w1:World) (hk1:aa af w w1)=>(⟨(hrow.ai hk1).c0,(hrow.ai hk1).c1,(hrow.ai hk1).lt⟩:_∧_∧_))
  have hcap:=H.rows.cap
  have hmax:=H.rows.max
  unfold maxLen at hmax
  have dw:(k:Int)<(d.length:Int):=by omega
  have hm0:=(H.inv.node (k:Int)).mV
  have bU:=(H.inv.node (k:Int)).mW
  have xE:=sG (nd d (k:Int)).mode hm0 b
  have HM:=Lib.hid (tP (nd d (k:Int)).mode.toNat b (by omega) (by omega))
  rw[show(((nd d (k:Int)).mode.toNat:Nat):Int)=(nd d (k:Int)).mode by omega]at HM
  obtain⟨kd,aM⟩:∃kd,(nd d (k:Int)).kind=kd:=⟨_,rfl⟩
  rw[xE]at HM
  rw[aM]at hZ HC
  generalize(nd d (k:Int)).mode=md at *
  clear H cS hrow aM xE hm0 bU
  by_cases h3:kd=2
  ·have hb:(kd != 2)=false:=by simpa using h3
   rw[if_neg (fun h=>h h3)]at hZ
   by_cases h4:md / ((2 ^ b:Nat):Int) % 2=0
   ·rw[if_pos h4]at hZ
    rw[decide_eq_true h4]at HM
    subst hZ
    clear h3 h4
    go_enter Tryz.func16,Tryz.ntmps16
    go_wp2_with(first|(go_at_call 10;go_loud(refine iP.out.mono ?_);rintro e w1 ⟨rfl,hk1⟩;have f0:=(HB.out _ hk1).cell 0 _ rfl;have f1:=(HB.out _ hk1).cell 1 _ rfl;obtain⟨c0,c1,cl⟩:=HC.out _ (HK.out.trans hk1))|(go_at_call 36;go_loud(refine(HM.out _).mono ?_);rintro e w2 ⟨rfl,rfl⟩))
    go_ret2
    exact⟨rfl,HK.out.trans hk1⟩
   ·rw[if_neg h4]at hZ
    rw[decide_eq_false h4]at HM
    subst hZ
    clear h3 h4
    go_enter Tryz.func16,Tryz.ntmps16
    go_wp2_with(first|(go_at_call 10;go_loud(refine iP.out.mono ?_);rintro e w1 ⟨rfl,hk1⟩;have f0:=(HB.out _ hk1).cell 0 _ rfl;have f1:=(HB.out _ hk1).cell 1 _ rfl;obtain⟨c0,c1,cl⟩:=HC.out _ (HK.out.trans hk1))|(go_at_call 36;go_loud(refine(HM.out _).mono ?_);rintro e w2 ⟨rfl,rfl⟩))
    go_ret2
    exact⟨rfl,HK.out.trans hk1⟩
  ·have hb:(kd != 2)=true:=by simpa using h3
   rw[if_pos h3]at hZ
   subst hZ
   clear h3
   go_enter Tryz.func16,Tryz.ntmps16
   go_wp2_with(go_at_call 10;go_loud(refine iP.out.mono ?_);rintro e w1 ⟨rfl,hk1⟩;have f0:=(HB.out _ hk1).cell 0 _ rfl;have f1:=(HB.out _ hk1).cell 1 _ rfl;obtain⟨c0,c1,cl⟩:=HC.out _ (HK.out.trans hk1))
   go_ret2
   exact⟨rfl,HK.out.trans hk1⟩
end
section
variable{B:Nat->Prop} {w w':World} {B0 F a:Nat} {d:ag} {room calls fail at' mask:Int} {p:Option Addr} {c k:Nat}
theorem Sd.sm (h:Sd B w B0 F a p c d room calls fail at' mask k):iM w B0 F a d room calls fail room p c:=by
 obtain⟨N,_,h2,h3⟩:=h.sd.ex
 exact⟨⟨N,h2⟩,⟨_,h3⟩,h.bx.lt,h.bx.cell 0 _ rfl,h.bx.cell 3 _ rfl,h.bx.cell 4 _ rfl⟩
noncomputable def JF (d:ag) (at':Int) (s:ByteArray):Int:=if (fI d at' s 64).2=0 then(fI d at' s 64).1 else at'
theorem JG (hI:aG d) {s:ByteArray} {bit:Int} (h:(fI d at' s bit).2=0):uM d (fI d at' s bit).1:=by
 unfold fI at h ⊢
 split at h
 ·next h1=>exact absurd h h1
 next h1 =>
 rw[if_neg h1]
 split at h
 ·cases h
 next h2 =>
 rw[if_neg h2]
 split at h
 ·cases h
 next h3 =>
 rw[if_neg h3]
 have hh:=qv hI (Classical.not_not.1 h1)
 have hr:=bF hh
 exact⟨by omega,.inr (Classical.not_not.1 h2)⟩
theorem Q7 {s:ByteArray} {bit:Int} (h:(fI d at' s bit).2≠0):(fI d at' s bit).1=0:=by
 unfold fI at h ⊢
 split
 ·rfl
 next h1 =>
 rw[if_neg h1]at h
 split
 ·rfl
 next h2 =>
 rw[if_neg h2]at h
 split
 ·rfl
 next h3 =>
 rw[if_neg h3]at h
 exact absurd rfl h
theorem Q8 (h:Sd B w B0 F a p c d room calls fail at' mask k) (hk:k<=100) (s:ByteArray) (hs:s.size<=4294967280) :
 Calls Tryz.prog 59 #[.pointer (some ⟨B0,0,none⟩),.string s] w (qy B w B0 F a d room calls fail (JF d at' s) mask k):=by
 have HH:=Lib.hid h
 have wN:=Lib.hid (fun(wx:World) (kx:aa af w wx)=>(h.sd.on kx).asks fun N hN=>Qf hN at' mask s hs)
 obtain⟨S,hR⟩:=h.r6 hk
 have dG:=Lib.hid (fun(wx:World) (kx:aa af w wx)=>(show Calls Tryz.prog 16 #[.agg #[.slice p d.length c,.int .i64 room,.int .i64 calls,.int .i64 fail],.agg #[.int .i64 at',.int .i64 mask],.string s,.int .i64 6] wx fun e w'=>e=.returned (.tuple #[.int .i64 (fI d at' s 64).1,.int .i64 (fI d at' s 64).2])∧aa af wx w' from by
  obtain⟨S',hR'⟩:=(h.on kx).r6 hk
  have:=JH (room:=room) (fail:=fail) hR' at' mask s 6 (by decide) hs
  rw[show((2 ^ 6:Nat):Int)=64 from rfl,show((6:Nat):Int)=6 from rfl]at this
  exact this))
 have hcap:=h.sd.cap
 have hmax:=h.sd.max
 unfold maxLen at hmax
 have HU:=Lib.hid (fun e=>JG (d:=d) (at':=at') h.sd.inv (s:=s) (bit:=64) e)
 have HE:=Lib.hid (fun e=>Q7 (d:=d) (at':=at') (s:=s) (bit:=64) e)
 unfold JF at *
 obtain⟨⟨yn,ye⟩,hY⟩:∃Y,fI d at' s 64=Y:=⟨_,rfl⟩
 rw[hY]at wN dG HU HE ⊢
 obtain⟨t0,t1,hT,wO,jM⟩:∃t0 t1:Int,zU (yn,ye) mask=.agg #[.int .i64 t0,.int .i64 t1]∧(ye=0->t0=yn∧t1=mask)∧(ye≠0->t0=0∧t1=0):=by
  unfold zU
  by_cases hz:ye=0
  ·exact⟨yn,mask,if_pos hz,fun _=>⟨rfl,rfl⟩,fun h=>absurd hz h⟩
  ·exact⟨0,0,if_neg hz,fun h=>absurd h hz,fun _=>⟨rfl,rfl⟩⟩
 rw[hT]at wN
 simp only at wN dG HU HE ⊢
 obtain⟨A,hA⟩:∃A,(if ye=0 then yn else at')=A:=⟨_,rfl⟩
 rw[hA]
 replace hA:=Lib.hid hA
 replace wO:=Lib.hid wO
 replace jM:=Lib.hid jM
 have b0:=h.bx.cell 0 _ rfl
 have b1:=h.bx.cell 1 _ rfl
 have b2:=h.bx.cell 2 _ rfl
 clear hY hR hs h hT
 go_enter Tryz.func59,Tryz.ntmps59
 go_upto_region 1 with fail
 go_cut [5,6]from 5 to 21 (fun x y wx=>∃TB:Nat,x=.pointer (some ⟨TB,0,none⟩)∧y=.int .i64 ye∧w.heap.size<=TB∧Bk wx TB [.int .i64 t0,.int .i64 t1]∧aa af w wx)
 case first =>
  have kr:aa af w w.drew:=(aa.refl af w).drew
  have d0:=cG kr b0
  have d1:=cG kr b1
  have d2:=cG kr b2
  go_region_held3 (fun wz=>wz.cell? ⟨B0,0,none⟩=some (.pointer (some ⟨F,0,none⟩))∧wz.cell? ⟨B0,1,none⟩=some (.int .i64 at')∧wz.cell? ⟨B0,2,none⟩=some (.int .i64 mask)∧aa af w wz)
   (refine⟨?_,?_,?_,?_⟩<;>first|with_reducible assumption|(with_reducible refine cG ?_ b0;exact kC)|(with_reducible refine cG ?_ b1;exact kC)|(with_reducible refine cG ?_ b2;exact kC)|(exact kC))
   (first|(go_at_call 103;refine(wN.out _ kC).mono ?_;rintro e w5 ⟨rfl,bX⟩;have zk:aa af w w5:=aa.trans kC bX;have z0:=cG zk b0;have z1:=cG zk b1;have z2:=cG zk b2;(try(have yb:=Bk.new ((aa.refl af _).drew.trans bX);have y0:=yb.cell 0 _ rfl;have y1:=yb.cell 1 _ rfl;have yl:=yb.lt;have yf:=yb.fz));(try(have yb:=Bk.new bX;have y0:=yb.cell 0 _ rfl;have y1:=yb.cell 1 _ rfl;have yl:=yb.lt;have yf:=yb.fz))))
  all_goals
   go_wp2_with fail
   go_meet
   first
    | exact⟨w5.heap.size,rfl,rfl,zk.size,Bk.new (aa.refl af _),zk.alloc _⟩
    | exact⟨w.heap.size,rfl,rfl,Nat.le_refl _,(yb.put 0 _).put 1 _,(zk.setCell (.inr (Nat.le_refl _)) _).setCell (.inr (Nat.le_refl _)) _⟩
 case rest =>
 obtain⟨TB,rfl,rfl,JI,s8,cF⟩:=hcut
 have HT:=Lib.hid s8
 have HK:=Lib.hid cF
 have V8:=Lib.hid JI
 clear s8 cF JI b0 b1 b2
 go_upto_region 2 with fail
 have kd:=HK.out.drew
 have e3:=(HH.out.bx.on kd).cell 3 _ rfl
 have e4:=(HH.out.bx.on kd).cell 4 _ rfl
 have e5:=(HH.out.bx.on kd).cell 5 _ rfl
 have e6:=(HH.out.bx.on kd).cell 6 _ rfl
 have e7:=(HH.out.bx.on kd).cell 7 _ rfl
 have e8:=(HH.out.bx.on kd).cell 8 _ rfl
 replace kd:=Lib.hid kd
 go_region_held3 (fun wz=>wz.cell? ⟨B0,3,none⟩=some (.slice p d.length c)∧wz.cell? ⟨B0,4,none⟩=some (.int .i64 room)∧wz.cell? ⟨B0,5,none⟩=some (.int .i64 calls)∧wz.cell? ⟨B0,6,none⟩=some (.int .i64 fail)∧wz.cell? ⟨B0,7,none⟩=some (.int .i64 at')∧wz.cell? ⟨B0,8,none⟩=some (.int .i64 mask))
  (refine⟨?_,?_,?_,?_,?_,?_⟩<;>with_reducible assumption)
  (first|(go_at_call 16;refine(dG.out _ kd.out).mono ?_;rintro e w7 ⟨rfl,iE⟩;have zk:=Lib.hid (kd.out.trans iE);have DE:=Lib.hid ((HT.out.on (aa.refl af _).drew).on iE);clear iE;have z3:=(HH.out.bx.on zk.out).cell 3 _ rfl;have z4:=(HH.out.bx.on zk.out).cell 4 _ rfl;have z5:=(HH.out.bx.on zk.out).cell 5 _ rfl;have z6:=(HH.out.bx.on zk.out).cell 6 _ rfl;have z7:=(HH.out.bx.on zk.out).cell 7 _ rfl;have z8:=(HH.out.bx.on zk.out).cell 8 _ rfl))
 clear e3 e4 e5 e6 e7 e8 z3 z4 z5 z6 z7 z8 dG wN
 have Ad:=DE.out.cell 0 _ rfl
 have Ae:=DE.out.cell 1 _ rfl
 by_cases hz:ye=0
 case neg =>
  obtain⟨rfl,rfl⟩:=jM.out hz
  have hb:(ye != 0)=true:=by simpa using hz
  obtain rfl:at'=A:=(if_neg hz).symm.trans hA.out
  clear wO jM hA
  go_wp2_with fail
  go_ret
  exact⟨p,c,by simp,HH.out.on zk.out,zk.out.bC⟩
 case pos =>
  subst hz
  obtain⟨rfl,rfl⟩:=wO.out rfl
  have gM:=Lib.hid (fun(wx:World) (kx:aa af w wx)=>DD (HH.out.on kx).sm 60 (by decide) t0)
  have ep:=Lib.hid (HU.out rfl)
  obtain rfl:t0=A:=(if_pos rfl).symm.trans hA.out
  clear wO jM hA
  go_upto_region 7 with fail
  have kr:aa af w7 w7.drew:=(aa.refl af w7).drew
  have d0:=cG kr Ad
  have d1:=cG kr Ae
  have d2:=(HH.out.bx.on (zk.out.trans kr)).cell 2 _ rfl
  go_cut [58]from 43 to 58 (fun x wx=>x=.bool false∧aa af w7 wx)
  case first =>
   go_region_held3 (fun wz=>wz.cell? ⟨TB,0,none⟩=some (.int .i64 t0)∧wz.cell? ⟨TB,1,none⟩=some (.int .i64 t1)∧wz.cell? ⟨B0,2,none⟩=some (.int .i64 t1))
    (refine⟨?_,?_,?_⟩<;>with_reducible assumption)
    (first|(go_at_call 11;refine(gM.out _ (zk.out.trans kD)).mono ?_;rintro e w8 ⟨rfl,fP⟩;have wP:aa af w7 w8:=aa.trans kD fP;have z0:=cG wP Ad;have z1:=cG wP Ae;have z2:=(HH.out.bx.on (zk.out.trans wP)).cell 2 _ rfl))
   all_goals(go_wp2_with fail;go_meet;exact⟨by simp,by first|exact wP|exact wP.drew⟩)
  case rest =>
  obtain⟨rfl,fP⟩:=hcut
  have JJ:=Lib.hid (DE.out.on fP)
  have tv:=Lib.hid (zk.out.trans fP)
  clear Ad Ae d0 d1 d2 fP kr
  have Ad:=JJ.out.cell 0 _ rfl
  have Ae:=JJ.out.cell 1 _ rfl
  have uP:=Lib.hid (HH.out.bx.on tv.out)
  have bl:=uP.out.lt
  have bf:=uP.out.fz
  have x1:=uP.out.cell 1 _ rfl
  have x2:=uP.out.cell 2 _ rfl
  have x7:=uP.out.cell 7 _ rfl
  go_wp2_with fail
  go_ret
  have kp:=fun(wx:World)=>((((aa.refl (fun g=>g=B0) wx).setCell (p:=⟨B0,1,none⟩) (.inl (show B0=B0 from rfl)) (.int .i64 t0)).setCell (p:=⟨B0,2,none⟩) (.inl (show B0=B0 from rfl)) (.int .i64 t1)).setCell (p:=⟨B0,7,none⟩) (.inl (show B0=B0 from rfl)) (.int .i64 t0))
  exact⟨p,c,rfl,⟨((HH.out.sd.on tv.out).turn (kp _) (fun g _ hg=>by rw[show g=B0 from hg];exact HH.out.nb)),HH.out.nb,((uP.out.put 1 _).put 2 _).put 7 _,HH.out.nh,ep.out,HH.out.m0,HH.out.m1,HH.out.ms,HH.out.c0,HH.out.c1⟩,tv.out.bC.trans ((kp _).mono (fun g _ hg=>.inr hg))⟩
end
end Go.Proofs.YtnanhmfpikddkaaGreatDoor
namespace Go.Proofs.YtnanhmfpikddkaaGreatDoor
open Go
structure oI (d:ag) (i:Int):Prop where
 kind:(nd d i).kind=1
 holds:(nd d i).holds≠0
section
variable{d:ag} {room:Int}
theorem oI.has {i:Int} (h:oI d i):has d i:=by unfold Go.Proofs.YtnanhmfpikddkaaGreatDoor.has;rw[h.kind];decide
theorem Sy (hI:aG d) (mask:Int) (p:aJ) (s:ByteArray) (flags m:Int):((fL d room mask p s flags m).2.2≠0->(fL d room mask p s flags m).2.1=0)∧((fL d room mask p s flags m).2.2=0->oI (fL d room mask p s flags m).1 (fL d room mask p s flags m).2.1):=by
 unfold fL
 split;· exact⟨fun _=>rfl,fun h=>by cases h⟩
 split;· exact⟨fun _=>rfl,fun h=>by cases h⟩
 split;· next h=>exact⟨fun _=>rfl,fun e=>absurd e h⟩
 split;· next h=>exact⟨fun _=>rfl,fun e=>absurd e h⟩
 split;· next h=>exact⟨fun _=>rfl,fun e=>absurd e h⟩
 next h1 h2 h3 h4 h5 =>
 refine⟨fun h=>absurd rfl h,fun _=>?_⟩
 have he:=Classical.not_not.1 h5
 have hnd:nd (d++[aU 1 (bO m mask) ⟨#[]⟩]) d.length=aU 1 (bO m mask) ⟨#[]⟩:=by rw[iI,if_pos rfl]
 generalize d++[aU 1 (bO m mask) ⟨#[]⟩]=d1 at *
 have hf:=oO (FO he).1
 have hk:(nd (bM d1 room p.dir p.name d.length) d.length).kind=(nd d1 d.length).kind∧(nd (bM d1 room p.dir p.name d.length) d.length).holds=(nd d1 d.length).holds:=by
  unfold bM
  rw[if_pos he]
  unfold bN
  rw[lW hf.1]
  split
  ·next e=>rw[e];exact⟨rfl,rfl⟩
  ·exact⟨rfl,rfl⟩
 rw[hnd]at hk
 exact⟨hk.1,by show(nd (bM d1 room p.dir p.name d.length) d.length).holds≠0;rw[hk.2];show(1:Int)≠0;decide⟩
theorem Sz (hI:aG d) {i:Int} (hk:(nd d i).kind=1):oI (eJ d i) i:=by
 have hi:has d i:=by unfold has;rw[hk];decide
 have hh:=(hI.node i).holds
 have e:nd (eJ d i) i=(nd d i).bT ((nd d i).holds+1):=by
  unfold eJ kW
  rw[if_pos hi,gu (bF hi).1 (bF hi).2,if_pos rfl]
 exact⟨by rw[e];exact hk,by rw[e];show(nd d i).holds+1≠0;omega⟩
theorem SA (hI:aG d) (hcl:bK d) (i flags:Int):((fM d i flags).2.2≠0->(fM d i flags).2.1=0∨¬has d i)∧((fM d i flags).2.2=0->oI (fM d i flags).1 (fM d i flags).2.1):=by
 unfold fM
 split
 ·next h=>exact⟨fun _=>.inl rfl,fun e=>absurd e h⟩
 ·next h =>
  have h0:=Classical.not_not.1 h
  have hk:(nd d i).kind=1:=by
   unfold oD at h0
   by_cases e2:(nd d i).kind=2
   ·rw[if_pos e2]at h0;cases h0
   rw[if_neg e2]at h0
   by_cases e1:(nd d i).kind≠1
   ·rw[if_pos e1]at h0;cases h0
   exact Classical.not_not.1 e1
  have hi:has d i:=by unfold has;rw[hk];decide
  have hE:(nd (if bg flags 8=true then dD d i else d) i).kind=1∧aG (if bg flags 8=true then dD d i else d):=by
   split
   ·refine⟨?_,(Em hI hcl i).1⟩
    unfold dD jY
    split
    ·rw[gu (bF hi).1 (bF hi).2,if_pos rfl];exact hk
    ·exact hk
   ·exact⟨hk,hI⟩
  refine⟨fun hn=>absurd ?_ hn,fun _=>Sz hE.2 hE.1⟩
  show rS _ i=0
  unfold rS
  rw[if_pos]
  unfold has
  rw[hE.1]
  decide
theorem Rd (hI:aG d) (hcl:bK d) (calls fail at' mask:Int) (s:ByteArray) (flags m:Int) :
 ((fF calls fail d room at' mask s flags m).2.2≠0->(fF calls fail d room at' mask s flags m).2.1=0)∧((fF calls fail d room at' mask s flags m).2.2=0->oI (fF calls fail d room at' mask s flags m).1 (fF calls fail d room at' mask s flags m).2.1):=by
 unfold fF
 split
 ·next h=>exact⟨fun _=>rfl,fun e=>absurd e h.2⟩
 unfold jc
 split
 ·next h=>exact⟨fun _=>rfl,fun e=>absurd e h⟩
 next he =>
 split
 ·exact Sy hI _ _ _ _ _
 next hn =>
 split
 ·exact⟨fun _=>rfl,fun h=>by cases h⟩
 ·have hh:=AB hI (Classical.not_not.1 he) hn
  obtain⟨h1,h2⟩:=SA hI hcl (aQ d at' s (!ni flags)).1.node flags
  exact⟨fun h=>(h1 h).resolve_right (fun x=>x hh),h2⟩
theorem SB {i:Int} (h:oI d i) (j x:Int) (s:ByteArray):oI (iy d room j x s) i:=by
 unfold iy
 split
 ·next he =>
  have hj:has d j:=by
   have h1:=he.1
   unfold iK at h1
   split at h1
   ·next e=>exact absurd h1 e
   ·next e=>exact(m8 (Classical.not_not.1 e)).1
  have e:(nd (aX d j (iw (nd d j) x.toNat s)) i).kind=(nd d i).kind∧(nd (aX d j (iw (nd d j) x.toNat s)) i).holds=(nd d i).holds:=by
   rw[gu (bF hj).1 (bF hj).2]
   split
   ·next e=>rw[e];exact⟨rfl,rfl⟩
   ·exact⟨rfl,rfl⟩
  exact⟨by rw[e.1];exact h.kind,by rw[e.2];exact h.holds⟩
 ·exact h
theorem Ri {i:Int} (h:oI d i) (calls fail j x:Int) (s:ByteArray):oI (mK calls fail d room j x s).1 i:=by
 unfold mK bz
 split
 ·exact h
 ·exact SB h _ _ _
theorem Rm {i:Int} (h:oI d i):mJ d i 0 10000=0∧nV d i 0 10000=uO (nd d i).data∧gq d i=0:=by
 have hda:ij d i=(nd d i).data:=by unfold ij;rw[h.kind];rfl
 have Cs:mH d i=0:=by unfold mH;rw[h.kind];rfl
 have he:mJ d i 0 10000=0:=by
  unfold mJ
  rw[Cs,if_neg (by simp),if_neg (by decide),if_neg (by decide)]
 refine⟨he,?_,?_⟩
 ·unfold nV
  rw[he,if_pos rfl,hda]
  unfold cut uO
  rw[show min (0:Int).toNat (nd d i).data.size=0 by omega,show(10000:Int).toNat=10000 from rfl]
  split
  ·next hz=>rw[show 0+min 10000 ((nd d i).data.size-0)=10000 by omega]
  ·next hz=>rw[show 0+min 10000 ((nd d i).data.size-0)=(nd d i).data.size by omega];exact ByteArray.extract_zero_size
 ·unfold gq
  rw[if_neg (by rw[h.kind];decide),if_neg h.holds]
theorem Rh (hI:aG d) (h:NH d) (calls fail i x:Int) (s:ByteArray):aH (mK calls fail d room i x s).1<=aH d∧NH (mK calls fail d room i x s).1∧KK d (mK calls fail d room i x s).1:=by
 unfold mK bz
 split
 ·exact⟨Nat.le_refl _,h,KK.refl d⟩
 ·exact⟨Sm _ _ _,Qx h _ _ _,QH _ _ _⟩
theorem Rc (h:NH d) (calls fail at' mask:Int) (s:ByteArray) (flags m:Int):aH (fF calls fail d room at' mask s flags m).1<=aH d+3∧NH (fF calls fail d room at' mask s flags m).1∧KK d (fF calls fail d room at' mask s flags m).1:=by
 unfold fF
 split
 ·exact⟨Nat.le_add_right _ _,h,KK.refl d⟩
 ·exact⟨Sr _ _ _ _ _,Qw h _ _ _ _ _,QK _ _ _ _ _⟩
end
end Go.Proofs.YtnanhmfpikddkaaGreatDoor
