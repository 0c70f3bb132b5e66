/-
  Contracts of the reference for layer 6: create.
-/
import Derived.Test.YtnanhmfpikddkaaGreatDoorG09
import Derived.Test.YtnanhmfpikddkaaGreatDoorG11
import Derived.Test.YtnanhmfpikddkaaGreatDoorG15
import Derived.Test.YtnanhmfpikddkaaGreatDoorG40
import Derived.Deep.RegionHeld3

set_option linter.unusedSimpArgs false
set_option linter.unusedVariables false
set_option maxRecDepth 100000
set_option maxHeartbeats 8000000
namespace Go.Proofs.YtnanhmfpikddkaaGreatDoor
open Go Go.RowKit
theorem gp {fn:Func} {p t u:Tmp} {ty:TypeId} (h:fn.results=#[.cell p ty,.tmp t,.tmp u]) (tmps:Array Value) (P:Program) (w:World) :
 (results fn tmps).run P w=((asAddr (tmps.getD p undef)).run P w).andThen fun a w₁=>((loadVar ty a).run P w₁).andThen fun v w₂=>.ok (.tuple #[v,tmps.getD t undef,tmps.getD u undef]) w₂:=by
 simp only[results,h]
 simp[Sem.run_bind,Result.andThen]
theorem cG {w w':World} {g j:Nat} {v:Value} (k:aa af w w') (h:w.cell? ⟨g,j,none⟩=some v):w'.cell? ⟨g,j,none⟩=some v:=(k.cell (p:=⟨g,j,none⟩) (dm h) (fun h=>h)).trans h
structure F8 (w wx:World) (v:Value) (room calls fail:Int) (u q r:List Value):Prop where
 k:aa af w wx
 b0:Bk wx w.heap.size [v,.int .i64 room,.int .i64 calls,.int .i64 fail]
 b1:Bk wx (w.heap.size+1) u
 b2:Bk wx (w.heap.size+1+1) q
 b3:Bk wx (w.heap.size+1+1+1) r
section
variable{w wx wy:World} {v v':Value} {room room' calls calls' fail fail':Int} {u q r:List Value}
theorem F8.new (w:World) (v:Value) (room calls fail:Int) (u q r:Array Value) (T0 T1 T2 T3:TypeId) :
 F8 w ((((w.alloc (.cells #[v,.int .i64 room,.int .i64 calls,.int .i64 fail] T0)).alloc (.cells u T1)).alloc (.cells q T2)).alloc (.cells r T3)) v room calls fail u.toList q.toList r.toList:=by
 have h6:=F6.new w v room calls fail u q T0 T1 T2
 have k3:=(aa.refl af (((w.alloc (.cells #[v,.int .i64 room,.int .i64 calls,.int .i64 fail] T0)).alloc (.cells u T1)).alloc (.cells q T2))).alloc (.cells r T3)
 have s3:(((w.alloc (.cells #[v,.int .i64 room,.int .i64 calls,.int .i64 fail] T0)).alloc (.cells u T1)).alloc (.cells q T2)).heap.size=w.heap.size+1+1+1:=by simp
 have c3:=Bk.new (aa.refl af ((((w.alloc (.cells #[v,.int .i64 room,.int .i64 calls,.int .i64 fail] T0)).alloc (.cells u T1)).alloc (.cells q T2)).alloc (.cells r T3)))
 rw[s3]at c3
 exact⟨h6.k.trans k3,h6.b0.on k3,h6.b1.on k3,h6.b2.on k3,c3⟩
theorem F8.all {a0 a1 q0 q1 q2 r0 r1 r2 r3:Value} (h:F8 w wx v room calls fail [a0,a1] [q0,q1,q2] [r0,r1,r2,r3]) :
 wx.cell? ⟨w.heap.size,0,none⟩=some v∧wx.cell? ⟨w.heap.size,1,none⟩=some (.int .i64 room)∧wx.cell? ⟨w.heap.size,2,none⟩=some (.int .i64 calls)∧wx.cell? ⟨w.heap.size,3,none⟩=some (.int .i64 fail) ∧
 wx.cell? ⟨w.heap.size+1,0,none⟩=some a0∧wx.cell? ⟨w.heap.size+1,1,none⟩=some a1∧wx.cell? ⟨w.heap.size+1+1,0,none⟩=some q0∧wx.cell? ⟨w.heap.size+1+1,1,none⟩=some q1∧wx.cell? ⟨w.heap.size+1+1,2,none⟩=some q2 ∧
 wx.cell? ⟨w.heap.size+1+1+1,0,none⟩=some r0∧wx.cell? ⟨w.heap.size+1+1+1,1,none⟩=some r1∧wx.cell? ⟨w.heap.size+1+1+1,2,none⟩=some r2∧wx.cell? ⟨w.heap.size+1+1+1,3,none⟩=some r3 ∧
 w.heap.size<wx.heap.size∧w.heap.size+1+1+1<wx.heap.size∧(∀j,wx.frozen? ⟨w.heap.size,j,none⟩=false)∧(∀j,wx.frozen? ⟨w.heap.size+1+1+1,j,none⟩=false) :=
 ⟨h.b0.cell 0 _ rfl,h.b0.cell 1 _ rfl,h.b0.cell 2 _ rfl,h.b0.cell 3 _ rfl,h.b1.cell 0 _ rfl,h.b1.cell 1 _ rfl,h.b2.cell 0 _ rfl,h.b2.cell 1 _ rfl,h.b2.cell 2 _ rfl,h.b3.cell 0 _ rfl,h.b3.cell 1 _ rfl,h.b3.cell 2 _ rfl,h.b3.cell 3 _ rfl,h.b0.lt,h.b3.lt,h.b0.fz,h.b3.fz⟩
theorem F8.on (h:F8 w wx v room calls fail u q r) (k:aa af wx wy):F8 w wy v room calls fail u q r:=⟨h.k.trans k,h.b0.on k,h.b1.on k,h.b2.on k,h.b3.on k⟩
theorem F8.lK (h:F8 w wx v room calls fail u q r) (v':Value) (room':Int) :
 F8 w ((wx.setCell ⟨w.heap.size,0,none⟩ v').setCell ⟨w.heap.size,1,none⟩ (.int .i64 room')) v' room' calls fail u q r:=by
 have k:=eV wx w.heap.size v' (.int .i64 room')
 exact⟨h.k.step k (fun g hg=>.inr (by omega)),(h.b0.put 0 v').put 1 (.int .i64 room'),h.b1.keep k (fun e=>by omega),h.b2.keep k (fun e=>by omega),h.b3.keep k (fun e=>by omega)⟩
theorem F8.fin (h:F8 w wx v room calls fail u q r) (v0 v1 v2 v3:Value):aa af w ((((wx.setCell ⟨w.heap.size+1+1+1,0,none⟩ v0).setCell ⟨w.heap.size+1+1+1,1,none⟩ v1).setCell ⟨w.heap.size+1+1+1,2,none⟩ v2).setCell ⟨w.heap.size+1+1+1,3,none⟩ v3) :=
 h.k.step (gB wx (w.heap.size+1+1+1) v0 v1 v2 v3) (fun g hg=>.inr (by omega))
theorem F8.beside (h:F8 w wx v room calls fail u q r) {b:Nat} (hb:w.heap.size+4<=b) (k:aa (fun g=>g=b) wx wy):F8 w wy v room calls fail u q r :=
 ⟨h.k.step k (fun g hg=>.inr (by omega)),h.b0.keep k (fun e=>by omega),h.b1.keep k (fun e=>by omega),h.b2.keep k (fun e=>by omega),h.b3.keep k (fun e=>by omega)⟩
end
def sH (S:Nat->Prop) (w:World) (X:ag × Int × Int) (room calls fail:Int):Ending->World->Prop:=fun e w' =>
 ∃p' c',e=.returned (.tuple #[fV p' c' X.1.length room calls fail,.int .i64 X.2.1,.int .i64 X.2.2])∧aI S w' p' c' X.1∧aa af w w'
structure UR (S:Nat->Prop) (w w0 wx:World) (p1:Option Addr) (c1 DB:Nat) (d1:ag) (room:Int) (L:List Nat):Prop where
 far:w.heap.size+4<=DB
 box:Bk wx DB [.slice p1 d1.length c1,.int .i64 room]
 rows:aI (NI S (DB::L)) wx p1 c1 d1
 k:aa af w0 wx
section
variable{S:Nat->Prop} {w:World} {p:Option Addr} {c:Nat} {d:ag} {room calls fail:Int}
theorem E8 (h:aI S w p c d) (hS:∀g,w.heap.size<=g->S g) (hI:aG d) (hcl:bK d) (hms:aH d+8<=2147483648) (at' mask:Int) (P:aJ) (EZ:P.name.size<=255) (s:ByteArray) (hs:s.size<=4294967280)
 (flags m:Int) (gy:0<=flags) (dK:flags<=31) (hm0:0<=m) (bU:m<=4095) (bS:0<=mask) (hk1:mask<=511) :
 Calls Tryz.prog 134 #[fV p c d.length room calls fail,.agg #[.int .i64 at',.int .i64 mask],.agg #[.int .i64 P.node,.int .i64 P.dir,.string P.name],.string s,.int .i64 flags,.int .i64 m] w (sH S w (fL d room mask P s flags m) room calls fail):=by
 obtain⟨pn,pd,pm⟩:=P
 simp only at EZ ⊢
 have eC:aP d:=by unfold aP;omega
 have hcap:=h.cap
 have hmax:=h.max
 unfold maxLen at hmax
 have HH:=Lib.hid h
 have HS:=Lib.hid hS
 unfold fV
 obtain⟨X,hX⟩:∃X,fL d room mask ⟨pn,pd,pm⟩ s flags m=X:=⟨_,rfl⟩
 rw[hX]
 unfold fL at hX
 obtain⟨x4,gW⟩:∃x4,bg flags 4=x4:=⟨_,rfl⟩
 have jI:Hid (∀wx,Calls Tryz.prog 133 #[.int .i64 flags,.int .i64 4] wx fun e w'=>e=.returned (.bool x4)∧w'=wx):=Lib.hid fun wx=>by
  have:=AX (FG:=bg) (fun _ _=>rfl) flags gy dK 4 (by omega) wx
  rw[show((4:Nat):Int)=4 from rfl,gW]at this
  exact this
 obtain⟨xs,hxs⟩:∃xs,cg s=xs:=⟨_,rfl⟩
 have gT:Hid (∀wx,Calls Tryz.prog 92 #[.string s] wx fun e w'=>e=.returned (.bool xs)∧w'=wx):=Lib.hid fun wx=>by
  have:=EY s (by omega) wx
  rw[hxs]at this
  exact this
 obtain⟨me,hme⟩:∃me,cD d pd 128=me:=⟨_,rfl⟩
 have LS:=Lib.hid (fun(wx:World) (k:aa af w wx)=>(show Calls Tryz.prog 89 #[.agg #[.slice p d.length c,.int .i64 room,.int .i64 calls,.int .i64 fail],.int .i64 pd,.int .i64 7] wx fun e w'=>e=.returned (.int .i64 me)∧aa af wx w' from by
  have:=vu (room:=room) (calls:=calls) (fail:=fail) (h.ai k) hI pd 7 (by decide)
  rw[show((2 ^ 7:Nat):Int)=128 from rfl,hme]at this
  exact this))
 rw[gW,hxs]at hX
 simp only[hme]at hX
 have m6:me=0->pd≠d.length:=fun e hh=>by
  unfold cD at hme
  by_cases hd:has d pd
  ·have:=bF hd;omega
  ·rw[if_pos hd]at hme;omega
 obtain⟨mn,rfl⟩:∃mn:Nat,m=mn:=⟨m.toNat,by omega⟩
 obtain⟨kn,rfl⟩:∃kn:Nat,mask=kn:=⟨mask.toNat,by omega⟩
 have A7:Hid (∀wx,Calls Tryz.prog 84 #[.int .i64 (mn:Int),.int .i64 (kn:Int)] wx fun e w'=>e=.returned (.int .i64 (bO mn kn))∧w'=wx):=Lib.hid fun wx=>by
  have:=LP (CL:=nX) (fun _ _=>rfl) (fun _ _ _=>rfl) zV mn kn (by omega) (by omega) wx
  rw[<- Jb mn kn (by omega) (by omega)]at this
  exact this
 generalize bO (mn:Int) (kn:Int)=fm at *
 replace hX:=Lib.hid hX
 replace m6:=Lib.hid m6
 clear gW hxs hme h hS gy dK hm0 bU bS hk1
 go_enter Tryz.func134,Tryz.ntmps134
 go_upto_region 1 with fail
 have HF:=Lib.hid (F8.new w (.slice p d.length c) room calls fail #[.int .i64 at',.int .i64 (kn:Int)] #[.int .i64 pn,.int .i64 pd,.string pm] #[.slice none 0 0,.int .i64 0,.int .i64 0,.int .i64 0] 39 40 82 39)
 generalize(((w.alloc (.cells #[.slice p d.length c,.int .i64 room,.int .i64 calls,.int .i64 fail] 39)).alloc (.cells #[.int .i64 at',.int .i64 (kn:Int)] 40)).alloc (.cells #[.int .i64 pn,.int .i64 pd,.string pm] 82)).alloc (.cells #[.slice none 0 0,.int .i64 0,.int .i64 0,.int .i64 0] 39)=w0 at *
 obtain⟨f0,f1,f2,f3,u0,u1,q0,q1,q2,ak,aq,au,aB,ay,av,aA,ax⟩:=HF.out.all
 cases x4 with
 | false =>
   obtain rfl:X=(d,0,12):=hX.out.symm.trans (if_pos rfl)
   clear hX
   go_wp2_with(go_at_call 133;go_loud(refine(jI.out _).mono ?_);rintro e w1 ⟨rfl,rfl⟩)
   refine bodyPost_ret (v:=.tuple #[.agg #[.slice p d.length c,.int .i64 room,.int .i64 calls,.int .i64 fail],.int .i64 0,.int .i64 12]) ?_ rfl ⟨p,c,rfl,HH.out.ai (HF.out.fin _ _ _ _),HF.out.fin _ _ _ _⟩
   rw[gp rfl]
   go_simp
 | true =>
 go_upto_region 3 with(go_at_call 133;go_loud(refine(jI.out _).mono ?_);rintro e w1 ⟨rfl,rfl⟩)
 clear jI
 replace hX:=Lib.hid (hX.out.symm.trans (if_neg (by simp)))
 cases xs with
 | true =>
   obtain rfl:X=(d,0,15):=hX.out.trans (if_pos rfl)
   clear hX
   go_wp2_with(go_at_call 92;go_loud(refine(gT.out _).mono ?_);rintro e w1 ⟨rfl,rfl⟩)
   refine bodyPost_ret (v:=.tuple #[.agg #[.slice p d.length c,.int .i64 room,.int .i64 calls,.int .i64 fail],.int .i64 0,.int .i64 15]) ?_ rfl ⟨p,c,rfl,HH.out.ai (HF.out.fin _ _ _ _),HF.out.fin _ _ _ _⟩
   rw[gp rfl]
   go_simp
 | false =>
 go_upto_region 5 with(go_at_call 92;go_loud(refine(gT.out _).mono ?_);rintro e w1 ⟨rfl,rfl⟩)
 clear gT
 replace hX:=Lib.hid (hX.out.trans (if_neg (by simp)))
 have iC:=Lib.hid (LS.out _ HF.out.k)
 clear LS
 by_cases Ba:me=0
 case neg =>
  have hb:(me != 0)=true:=by simpa using Ba
  obtain rfl:X=(d,0,me):=hX.out.trans (if_pos Ba)
  clear hX m6 Ba
  go_wp2_with(go_at_call 89;go_loud(refine iC.out.mono ?_);rintro e w1 ⟨rfl,hkn⟩;(clear f0 f1 f2 f3 u0 u1 q0 q1 q2 ak aq au aB ay av aA ax;replace HF:=Lib.hid (HF.out.on hkn);obtain⟨f0,f1,f2,f3,u0,u1,q0,q1,q2,ak,aq,au,aB,ay,av,aA,ax⟩:=HF.out.all))
  refine bodyPost_ret (v:=.tuple #[.agg #[.slice p d.length c,.int .i64 room,.int .i64 calls,.int .i64 fail],.int .i64 0,.int .i64 me]) ?_ rfl ⟨p,c,rfl,HH.out.ai (HF.out.fin _ _ _ _),HF.out.fin _ _ _ _⟩
  rw[gp rfl]
  go_simp
 case pos =>
 subst Ba
 have hne:pd≠d.length:=m6.out rfl
 replace hX:=Lib.hid (hX.out.trans (if_neg (by simp)))
 clear m6
 replace hne:=Lib.hid hne
 go_upto_region 8 with(go_at_call 89;go_loud(refine iC.out.mono ?_);rintro e w1 ⟨rfl,hkn⟩;(clear f0 f1 f2 f3 u0 u1 q0 q1 q2 ak aq au aB ay av aA ax;replace HF:=Lib.hid (HF.out.on hkn);obtain⟨f0,f1,f2,f3,u0,u1,q0,q1,q2,ak,aq,au,aB,ay,av,aA,ax⟩:=HF.out.all))
 clear iC hkn
 have oM:=Lib.hid (HH.out.first (L:=[w.heap.size,w.heap.size+1,w.heap.size+1+1,w.heap.size+1+1+1]) HF.out.k (by simp;omega))
 have jV:=Lib.hid (HF.out.on (aa.refl af w1).drew)
 have jd:=Lib.hid (fun(wx:World) (k:aa af w1 wx)=>EP (room:=room) (oM.out.ai k) (NI.new HS.out (HF.out.k.trans k) (by have:=HF.out.b3.lt;have:=k.size;simp;omega)) hI eC 1 fm ⟨#[]⟩ (by decide))
 have Bb:=Lib.hid (fun(wx:World) (k:aa af w1 wx) (hlt:w1.heap.size<wx.heap.size)=>EP (room:=room) (oM.out.more k w1.heap.size (Nat.le_refl _)) (NI.new HS.out (HF.out.k.trans k) (L:=w1.heap.size::[w.heap.size,w.heap.size+1,w.heap.size+1+1,w.heap.size+1+1+1]) (by have:=HF.out.b3.lt;have:=k.size;simp;omega)) hI eC 1 fm ⟨#[]⟩ (by decide))
 unfold tM aE at jd Bb
 clear f0 f1 f2 f3 u0 u1 q0 q1 q2 ak aq au aB ay av aA ax
 obtain⟨ee,hee⟩:∃ee,cP d room 1 fm ⟨#[]⟩=ee:=⟨_,rfl⟩
 obtain⟨ii,E9⟩:∃ii,lu d room 1 fm ⟨#[]⟩=ii:=⟨_,rfl⟩
 obtain⟨d1,hd1⟩:∃d1,iq d room 1 fm ⟨#[]⟩=d1:=⟨_,rfl⟩
 rw[hee,E9,hd1]at jd Bb
 have Bc:=Lib.hid hee
 have LU:=Lib.hid E9
 have LV:=Lib.hid hd1
 clear hee E9 hd1
 go_cut [16,17,18]from 16 to 44 (fun x y z wx=>∃(p1:Option Addr) (c1 DB:Nat),x=.pointer (some ⟨DB,0,none⟩)∧y=.int .i64 ii∧z=.int .i64 ee∧UR S w w1 wx p1 c1 DB d1 room [w.heap.size,w.heap.size+1,w.heap.size+1+1,w.heap.size+1+1+1])
 case first =>
  have d0:=jV.out.b0.cell 0 _ rfl
  have Wz:=jV.out.b0.cell 1 _ rfl
  have d2:=jV.out.b1.cell 1 _ rfl
  go_region_held3 (fun wz=>wz.cell? ⟨w.heap.size,0,none⟩=some (.slice p d.length c)∧wz.cell? ⟨w.heap.size,1,none⟩=some (.int .i64 room)∧wz.cell? ⟨w.heap.size+1,1,none⟩=some (.int .i64 (kn:Int))∧aa af w1 wz)
   (refine⟨?_,?_,?_,?_⟩<;>first|with_reducible assumption|(with_reducible refine(HF.out.on ?_).b0.cell 0 _ rfl;exact kC)|(with_reducible refine(HF.out.on ?_).b0.cell 1 _ rfl;exact kC)|(with_reducible refine(HF.out.on ?_).b1.cell 1 _ rfl;exact kC)|(exact kC))
   (first
     | (go_at_call 84;refine(A7.out _).mono ?_;rintro e wf ⟨rfl,rfl⟩)
     | (go_at_call 117;first
         | (refine(Bb.out _ kC (by first|(simp;done)|(simp;omega))).mono ?_;rintro e w5 ⟨p3,c3,rfl,rF,bX⟩;have zk:aa af w1 w5:=aa.trans kC bX;have ju:=Lib.hid (HF.out.on zk);have z0:=ju.out.b0.cell 0 _ rfl;have z1:=ju.out.b0.cell 1 _ rfl;have z2:=ju.out.b1.cell 1 _ rfl;have yb:=Bk.new ((aa.refl af _).drew.trans bX);have y0:=yb.cell 0 _ rfl;have y1:=yb.cell 1 _ rfl;have yl:=yb.lt;have yf:=yb.fz)
         | (refine(jd.out _ kC).mono ?_;rintro e w5 ⟨p3,c3,rfl,rF,bX⟩;have zk:aa af w1 w5:=aa.trans kC bX;have ju:=Lib.hid (HF.out.on zk);have z0:=ju.out.b0.cell 0 _ rfl;have z1:=ju.out.b0.cell 1 _ rfl;have z2:=ju.out.b1.cell 1 _ rfl)))
  all_goals
   go_wp2_with fail
   go_meet
   first
    | exact⟨p3,c3,w5.heap.size,rfl,rfl,rfl,by have:=ju.out.b3.lt;omega,Bk.new (aa.refl af _),rF.more ((aa.refl af w5).alloc _) _ (Nat.le_refl _),zk.alloc _⟩
    | exact⟨p3,c3,w1.heap.size,rfl,rfl,rfl,by have:=HF.out.b3.lt;omega,(yb.put 0 _).put 1 _,rF.put (eV w5 w1.heap.size _ _) (by simp),zk.step (eV w5 w1.heap.size _ _) (fun g hg=>.inr (by omega))⟩
 case rest =>
 obtain⟨p1,c1,DB,rfl,rfl,rfl,hm⟩:=hcut
 replace HF:=Lib.hid (HF.out.on hm.k)
 have HD:=Lib.hid hm.box
 have HR:=Lib.hid hm.rows
 have xG:w.heap.size+4<=DB:=hm.far
 clear hm jV jd Bb oM A7
 by_cases rG:ee=0
 case neg =>
  have hb:(ee != 0)=true:=by simpa using rG
  obtain rfl:X=(d,0,ee):=hX.out.trans (by rw[Bc.out];exact if_pos rG)
  clear hX rG Bc
  obtain⟨f0,f1,f2,f3,u0,u1,q0,q1,q2,ak,aq,au,aB,ay,av,aA,ax⟩:=HF.out.all
  go_wp2_with fail
  refine bodyPost_ret (v:=.tuple #[.agg #[.slice p d.length c,.int .i64 room,.int .i64 calls,.int .i64 fail],.int .i64 0,.int .i64 ee]) ?_ rfl ⟨p,c,rfl,HH.out.ai (HF.out.fin _ _ _ _),HF.out.fin _ _ _ _⟩
  rw[gp rfl]
  go_simp
 case pos =>
  subst rG
  have he:cP d room 1 fm ⟨#[]⟩=0:=Bc.out
  obtain⟨m1,m2,m3⟩:=Ek hI hcl he
  obtain⟨n1,n2,n3⟩:=KF hI hcl he hne.out pm
  obtain rfl:d1=d++[aU 1 fm ⟨#[]⟩]:=LV.out.symm.trans (by unfold iq;rw[if_pos he])
  obtain rfl:ii=d.length:=LU.out.symm.trans (by unfold lu;rw[if_pos he])
  replace hX:=Lib.hid (hX.out.trans (if_neg (by rw[he];simp)))
  have hl1:(d++[aU 1 fm ⟨#[]⟩]).length=d.length+1:=by simp
  have hl2:(bM (d++[aU 1 fm ⟨#[]⟩]) room pd pm d.length).length=d.length+1:=by rw[Bo,hl1]
  have gX:∀(wx:World) (p2:Option Addr) (c2:Nat) (L:List Nat),aI (NI S L) wx p2 c2 (bM (d++[aU 1 fm ⟨#[]⟩]) room pd pm d.length)->(∀g,wx.heap.size<=g->NI S L g) ->
   Calls Tryz.prog 102 #[aE p2 c2 (bM (d++[aU 1 fm ⟨#[]⟩]) room pd pm d.length) room,.int .i64 d.length,.int .i64 (-1)] wx (eH (NI S L) wx (eZ (bM (d++[aU 1 fm ⟨#[]⟩]) room pd pm d.length) d.length) room (gq (bM (d++[aU 1 fm ⟨#[]⟩]) room pd pm d.length) d.length)):=fun wx p2 c2 L hr hN=>by
   have:=tF (room:=room) hr hN n1 n2 (by omega) (d.length:Int) (-1) (.inr rfl)
   rw[DV]at this
   exact this
  have hr2:∀(wx:World) (p2:Option Addr) (c2:Nat) (L:List Nat),aI (NI S L) wx p2 c2 (d++[aU 1 fm ⟨#[]⟩])->(∀g,wx.heap.size<=g->NI S L g) ->
   Calls Tryz.prog 86 #[aE p2 c2 (d++[aU 1 fm ⟨#[]⟩]) room,.int .i64 pd,.string pm,.int .i64 d.length] wx (eH (NI S L) wx (bM (d++[aU 1 fm ⟨#[]⟩]) room pd pm d.length) room (cH (d++[aU 1 fm ⟨#[]⟩]) room pd pm d.length)):=fun wx p2 c2 L hr hN =>
   EC (room:=room) hr hN m1 (by unfold aP;omega) pd pm d.length (by unfold maxLen;omega)
  have oz:(eZ (bM (d++[aU 1 fm ⟨#[]⟩]) room pd pm d.length) d.length).length=d.length+1:=by rw[FN,hl2]
  have hdl:d.length<=2147483648:=by have:=jm d;omega
  replace hr2:=Lib.hid hr2
  replace gX:=Lib.hid gX
  clear he m1 m2 m3 n1 n2 n3 hI hcl hms eC Bc LV LU
  generalize gq (bM (d++[aU 1 fm ⟨#[]⟩]) room pd pm d.length) d.length=re at *
  obtain⟨ee,hee⟩:∃ee,cH (d++[aU 1 fm ⟨#[]⟩]) room pd pm d.length=ee:=⟨_,rfl⟩
  rw[hee]at hr2 hX
  clear hee
  generalize eZ (bM (d++[aU 1 fm ⟨#[]⟩]) room pd pm d.length) d.length=d3 at *
  generalize bM (d++[aU 1 fm ⟨#[]⟩]) room pd pm d.length=d2 at *
  generalize d++[aU 1 fm ⟨#[]⟩]=d1 at *
  unfold eH aE at hr2 gX
  rw[hl1]at hr2 HD
  rw[hl2]at hr2 gX
  rw[oz]at gX
  -- Enter
  have HE:=Lib.hid (hr2.out _ p1 c1 _ HR.out (NI.new HS.out HF.out.k (by have:=HF.out.b3.lt;have:=HD.out.lt;simp;omega)))
  obtain⟨f0,f1,f2,f3,u0,u1,q0,q1,q2,ak,aq,au,aB,ay,av,aA,ax⟩:=HF.out.all
  have e0:=HD.out.cell 0 _ rfl
  have e1:=HD.out.cell 1 _ rfl
  go_upto_region 12 with(go_at_call 86;go_loud(refine HE.out.mono ?_);rintro e w3 ⟨p2,c2,rfl,hr,hkn⟩;clear e0 e1;replace HD:=Lib.hid (HD.out.on hkn);have e0:=HD.out.cell 0 _ rfl;have e1:=HD.out.cell 1 _ rfl;have el:=HD.out.lt;have ef:=HD.out.fz;(clear f0 f1 f2 f3 u0 u1 q0 q1 q2 ak aq au aB ay av aA ax;replace HF:=Lib.hid (HF.out.on hkn);obtain⟨f0,f1,f2,f3,u0,u1,q0,q1,q2,ak,aq,au,aB,ay,av,aA,ax⟩:=HF.out.all))
  replace HF:=Lib.hid (HF.out.beside xG (eV w3 DB (.slice p2 (d.length+1) c2) (.int .i64 room)))
  replace HD:=Lib.hid ((HD.out.put 0 (.slice p2 (d.length+1) c2)).put 1 (.int .i64 room))
  replace HR:=Lib.hid (hr.put (eV w3 DB (.slice p2 (d.length+1) c2) (.int .i64 room)) (by simp))
  clear f0 f1 f2 f3 u0 u1 q0 q1 q2 ak aq au aB ay av aA ax
  clear hr hkn HE hr2 e0 e1 el ef
  generalize(w3.setCell ⟨DB,0,none⟩ (.slice p2 (d.length+1) c2)).setCell ⟨DB,1,none⟩ (.int .i64 room)=w4 at *
  by_cases rG:ee=0
  case pos =>
   subst rG
   obtain rfl:X=(d2,(d.length:Int),0):=hX.out.trans (if_neg (by simp))
   clear hX gX
   obtain⟨f0,f1,f2,f3,u0,u1,q0,q1,q2,ak,aq,au,aB,ay,av,aA,ax⟩:=HF.out.all
   have e0:=HD.out.cell 0 _ rfl
   have e1:=HD.out.cell 1 _ rfl
   go_upto_region 16 with fail
   replace HR:=Lib.hid (HR.out.put (eV w4 w.heap.size (.slice p2 (d.length+1) c2) (.int .i64 room)) (by simp))
   replace HF:=Lib.hid (HF.out.lK (.slice p2 (d.length+1) c2) room)
   clear f0 f1 f2 f3 u0 u1 q0 q1 q2 ak aq au aB ay av aA ax
   clear e0 e1
   generalize(w4.setCell ⟨w.heap.size,0,none⟩ (.slice p2 (d.length+1) c2)).setCell ⟨w.heap.size,1,none⟩ (.int .i64 room)=w7 at *
   obtain⟨f0,f1,f2,f3,u0,u1,q0,q1,q2,ak,aq,au,aB,ay,av,aA,ax⟩:=HF.out.all
   have US:=Lib.hid hl2
   clear hl2 oz hl1
   go_wp2_with fail
   refine bodyPost_ret (v:=.tuple #[.agg #[.slice p2 (d.length+1) c2,.int .i64 room,.int .i64 calls,.int .i64 fail],.int .i64 (d.length:Int),.int .i64 0]) ?_ rfl ⟨p2,c2,?_,(HR.out.put (gB w7 (w.heap.size+1+1+1) _ _ _ _) (by simp)).drop,HF.out.fin _ _ _ _⟩
   ·rw[gp rfl]
    go_simp
   ·show _=Ending.returned (.tuple #[fV p2 c2 d2.length room calls fail,.int .i64 (d.length:Int),.int .i64 0])
    rw[US.out]
    rfl
  case neg =>
   have hb:(ee != 0)=true:=by simpa using rG
   obtain rfl:X=(d3,0,ee):=hX.out.trans (if_pos rG)
   clear hX rG
   have HE:=Lib.hid (gX.out w4 p2 c2 _ HR.out (NI.new HS.out HF.out.k (by have:=HF.out.b3.lt;have:=HD.out.lt;simp;omega)))
   obtain⟨f0,f1,f2,f3,u0,u1,q0,q1,q2,ak,aq,au,aB,ay,av,aA,ax⟩:=HF.out.all
   have e0:=HD.out.cell 0 _ rfl
   have e1:=HD.out.cell 1 _ rfl
   go_upto_region 14 with(go_at_call 102;go_loud(refine HE.out.mono ?_);rintro e w5 ⟨p3,c3,rfl,hr,hkn⟩;clear e0 e1;replace HD:=Lib.hid (HD.out.on hkn);have e0:=HD.out.cell 0 _ rfl;have e1:=HD.out.cell 1 _ rfl;have el:=HD.out.lt;have ef:=HD.out.fz;(clear f0 f1 f2 f3 u0 u1 q0 q1 q2 ak aq au aB ay av aA ax;replace HF:=Lib.hid (HF.out.on hkn);obtain⟨f0,f1,f2,f3,u0,u1,q0,q1,q2,ak,aq,au,aB,ay,av,aA,ax⟩:=HF.out.all))
   replace HF:=Lib.hid (HF.out.beside xG (eV w5 DB (.slice p3 (d.length+1) c3) (.int .i64 room)))
   replace HD:=Lib.hid ((HD.out.put 0 (.slice p3 (d.length+1) c3)).put 1 (.int .i64 room))
   replace HR:=Lib.hid (hr.put (eV w5 DB (.slice p3 (d.length+1) c3) (.int .i64 room)) (by simp))
   clear f0 f1 f2 f3 u0 u1 q0 q1 q2 ak aq au aB ay av aA ax
   clear hr hkn HE gX e0 e1 el ef
   generalize(w5.setCell ⟨DB,0,none⟩ (.slice p3 (d.length+1) c3)).setCell ⟨DB,1,none⟩ (.int .i64 room)=w6 at *
   obtain⟨f0,f1,f2,f3,u0,u1,q0,q1,q2,ak,aq,au,aB,ay,av,aA,ax⟩:=HF.out.all
   have e0:=HD.out.cell 0 _ rfl
   have e1:=HD.out.cell 1 _ rfl
   go_upto_region 16 with fail
   replace HR:=Lib.hid (HR.out.put (eV w6 w.heap.size (.slice p3 (d.length+1) c3) (.int .i64 room)) (by simp))
   replace HF:=Lib.hid (HF.out.lK (.slice p3 (d.length+1) c3) room)
   clear f0 f1 f2 f3 u0 u1 q0 q1 q2 ak aq au aB ay av aA ax
   clear e0 e1
   generalize(w6.setCell ⟨w.heap.size,0,none⟩ (.slice p3 (d.length+1) c3)).setCell ⟨w.heap.size,1,none⟩ (.int .i64 room)=w7 at *
   obtain⟨f0,f1,f2,f3,u0,u1,q0,q1,q2,ak,aq,au,aB,ay,av,aA,ax⟩:=HF.out.all
   have UT:=Lib.hid oz
   clear hl2 oz hl1
   go_wp2_with fail
   refine bodyPost_ret (v:=.tuple #[.agg #[.slice p3 (d.length+1) c3,.int .i64 room,.int .i64 calls,.int .i64 fail],.int .i64 0,.int .i64 ee]) ?_ rfl ⟨p3,c3,?_,(HR.out.put (gB w7 (w.heap.size+1+1+1) _ _ _ _) (by simp)).drop,HF.out.fin _ _ _ _⟩
   ·rw[gp rfl]
    go_simp
   ·show _=Ending.returned (.tuple #[fV p3 c3 d3.length room calls fail,.int .i64 0,.int .i64 ee])
    rw[UT.out]
    rfl
end
end Go.Proofs.YtnanhmfpikddkaaGreatDoor
