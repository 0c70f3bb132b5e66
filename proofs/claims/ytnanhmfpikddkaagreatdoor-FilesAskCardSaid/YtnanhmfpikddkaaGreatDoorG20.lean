/-
  Contracts of the reference for layer 4,the tenth part: Move in another's place.
-/
import Derived.Test.YtnanhmfpikddkaaGreatDoorG07

set_option linter.unusedSimpArgs false
set_option linter.unusedVariables false
namespace Go.Proofs.YtnanhmfpikddkaaGreatDoor
open Go.RowKit
set_option maxRecDepth 100000
set_option maxHeartbeats 2000000
section
variable{S:Nat->Prop} {w:World} {p:Option Addr} {c:Nat} {d:ag} {room:Int}
theorem Tr (h:aI S w p c d) (hS:∀g,w.heap.size<=g->S g) (hI:aG d) (hcl:bK d) (hs:aP d) (f:Int) (name:ByteArray) (t:Int) (other:ByteArray) (k old:Int) (c0:bH d f name=0) (hkk:aN d f name=k) (c1:aO d t=0)
 (M:cE d f name t other k) (hold:bk (nd d t).ah other=some old) (hne:old≠k) (hg0:mZ d k old=0) :
 Calls Tryz.prog 93 #[aE p c d room,.int .i64 f,.string name,.int .i64 t,.string other] w (eH S w (gc (bL d f name t other k)) room 0):=by
 have hcap:=h.cap
 have hmax:=h.max
 unfold maxLen at hmax
 have hf:=M.hf
 have ht:=M.ht
 have hk:=M.hk
 have hk1:=M.k1
 have ho:=(hI.tgt t _ (dV hold)).1
 have dG:=Lib.hid (fun(w1:World) (hk:aa af w w1)=>qB (room:=room) (h.ai hk) hI.zero t)
 have dJ:=Lib.hid (fun(w1:World) (hk:aa af w w1)=>nC (room:=room) (h.ai hk) hI f name)
 have fR:=Lib.hid (fun(w1:World) (hk:aa af w w1)=>nC (room:=room) (h.ai hk) hI t other)
 have xw:=Lib.hid (fun(w1:World) (fK:aa af w w1)=>Lr (room:=room) (h.ai fK) k old hk ho)
 have gE:=Lib.hid (fun(h2:(nd d k).kind=2) (w1:World) (fK:aa af w w1)=>vg (room:=room) (h.ai fK) hI hs t k M.t2 hk1 false ⟨(fun h=>by cases h),fun h=>absurd h (M.top h2)⟩)
 have e1:bH d t other=0:=by unfold bH;rw[if_neg (by simpa using c1),hold];rfl
 have e2:aN d t other=old:=by unfold aN;rw[if_neg (by simpa using c1),hold];rfl
 rw[c0,hkk]at dJ
 rw[c1]at dG
 rw[e1,e2]at fR
 rw[hg0]at xw
 have oY:(old==k)=false:=by simpa using hne
 have B:=iH (w:=w) (aa.refl af ((w.alloc (.cells #[.slice p d.length c,.int .i64 room] 37)).alloc (.cells #[.slice none 0 0,.int .i64 0] 37)))
 -- what the two puts make
 have sB:aG (aZ d f name):=yP hI M.f2 M.get
 have pI:(aZ d f name).length=d.length:=j4 _ _ _
 have r7:(bL d f name t other k).length=d.length:=by unfold bL aZ eM;rw[j4,j4]
 have hel:=gx hs f
 have xy:(nd (aZ d f name) t).ah.length<4294967295:=gx (by have:=ur hI hf M.get;unfold aP at *;omega) t
 have hml:=jm d
 have hd1:dz d f (bQ (nd d f).ah name)=aZ d f name:=rfl
 have pq:dz (aZ d f name) t (eW (nd (aZ d f name) t).ah other k)=bL d f name t other k:=by
  rw[<- M.ref]
  unfold yV
  rw[if_pos (kX hold)]
 have mP:dI (nd d f).ah name=0:=by unfold dI;rw[if_pos (kX M.get)]
 have xq:dI (nd (aZ d f name) t).ah other=0:=by unfold dI;rw[if_pos (by rw[M.GU];exact kX hold)]
 obtain⟨dK,dS⟩:=(M.free hcl).1 old hold
 obtain⟨F,T,K,g,off,q,q',m,m',rfl,rfl,rfl,hF,hT,hK,rfl,cI,hsl,jT,hg1,hc⟩:=vf h hf ht hk
 have HC:=Lib.hid hc
 have HD:=Lib.hid (fun(w2:World) (N:Nat) (hk2:aa af w w2) (hN:w.heap.size+2<=N) (hsz:N<w2.heap.size)=>Ex (fQ S w N) w2 q m (nd d (F:Int)).ah name
  (hsl.cN hk2 (fun _ _ _ h=>h) (fun g hg hl=>⟨⟨hg,by omega,by omega⟩,by omega⟩)) (hI.node (F:Int)).rising (by omega) (vk hS hN hsz))
 rw[mP]at HD
 have HP:=Lib.hid (fun(w0 w2:World) (N:Nat) (bS:aa af w w0) (hN:w.heap.size+2<=N) (hsz:N<w2.heap.size) (hr:aI (fQ S w N) w2 (some ⟨g,off,none⟩) c d) (q2:Option Addr) (m2:Nat) (hx:bt aK (fQ S w N) w2 q2 m2 (bQ (nd d (F:Int)).ah name)) =>
  AP (room:=room) hr hS hN hsz (by unfold aP at hs;omega) F hF (bQ (nd d (F:Int)).ah name) q2 m2 hx (aZ d F name) hd1)
 have HT:=Lib.hid (fun(w2:World) (N:Nat) (p3:Option Addr) (c3:Nat) (hr:aI (fQ S w N) w2 p3 c3 (aZ d F name))=>hr.rowAt (show T<(aZ d F name).length by rw[pI];exact hT))
 have HS:=Lib.hid (fun(w2:World) (N:Nat) (hN:w.heap.size+2<=N) (hsz:N<w2.heap.size) (q2:Option Addr) (m2:Nat) (hx:bt aK (fQ S w N) w2 q2 m2 (nd (aZ d F name) (T:Int)).ah) =>
  SZ (fQ S w N) w2 q2 m2 (nd (aZ d F name) (T:Int)).ah other (K:Int) hx (sB.node (T:Int)).rising xy (vk hS hN hsz))
 rw[xq]at HS
 have HQ:=Lib.hid (fun(w2:World) (N:Nat) (hN:w.heap.size+2<=N) (hsz:N<w2.heap.size) (p3:Option Addr) (c3:Nat) (hr:aI (fQ S w N) w2 p3 c3 (aZ d F name)) (q2:Option Addr) (m2:Nat) (hx:bt aK (fQ S w N) w2 q2 m2 (eW (nd (aZ d F name) (T:Int)).ah other K)) =>
  AP (room:=room) hr hS hN hsz (by unfold aP at hs;rw[pI];omega) T (by rw[pI];exact hT) (eW (nd (aZ d F name) (T:Int)).ah other K) q2 m2 hx (bL d F name T other K) pq)
 have bP:=Lib.hid (fun(w2:World) (N:Nat) (hN:w.heap.size+2<=N) (hsz:N<w2.heap.size) (p3:Option Addr) (c3:Nat) (hr:aI (fQ S w N) w2 p3 c3 (bL d F name T other K)) =>
  EB (room:=room) hr (vk hS hN hsz) M.after (M.small hs) old dK dS)
 have aM:((nd d (K:Int)).kind=2)∨((nd d (K:Int)).kind≠2):=Classical.em _
 have oM:=Lib.hid (fun(w2:World) (N:Nat) (hk:aa af w w2) (hN:w.heap.size+2<=N)=>h.Ls hk hN)
 unfold aE at *
 rw[pI]at HQ
 rw[r7]at bP
 clear h hI hs hc hsl jT c0 c1 hkk hf ht hk hk1 hold ho e1 e2 M hcl sB pI r7 hel xy hml hd1 pq mP xq dK dS hg0 hne
 generalize bL d F name T other K=AQ at *
 generalize eW (nd (aZ d F name) (T:Int)).ah other K=ns at *
 generalize aZ d F name=dH at *
 generalize bQ (nd d (F:Int)).ah name=ne at *
 generalize(nd d (F:Int)).ah=eF at *
 generalize(nd d (T:Int)).ah=eT at *
 rcases aM with aM|aM
 case' inl=>rw[aM]at HC;replace gE:=Lib.hid (gE.out aM);clear aM
 case' inr=>clear gE;generalize(nd d (K:Int)).kind=ko at *
 all_goals
  go_enter Tryz.func93,Tryz.ntmps93
  go_upto_region 24 with(first|(go_at_call 123;have HX:=dJ;clear dJ;refine(HX.out _ B.keeps).mono ?_;clear HX;rintro e w1 ⟨rfl,hk1⟩;(try clear A0);(try clear A1);(try clear C0);(try clear C1);(try clear zA);(try clear zC);(try clear l0);(try clear l1);(try clear R0);(try clear R1);(try clear R2);(try clear R3);(try clear R4);(try clear hgl);(try clear Q0);(try clear T4);replace B:=B.on hk1;clear hk1;have A0:=B.A0;have A1:=B.A1;have C0:=B.C0;have C1:=B.C1;have zA:=B.zA;have zC:=B.zC;have l0:w.heap.size<w1.heap.size:=Nat.lt_of_lt_of_le (by simp) B.size;have l1:w.heap.size+1<w1.heap.size:=B.size;obtain⟨R0,R1,R2,R3,R4,hgl,Q0,T4⟩:=HC.out _ B.keeps)|(go_at_call 123;have HX:=fR;clear fR;refine(HX.out _ B.keeps).mono ?_;clear HX;rintro e w1 ⟨rfl,hk1⟩;(try clear A0);(try clear A1);(try clear C0);(try clear C1);(try clear zA);(try clear zC);(try clear l0);(try clear l1);(try clear R0);(try clear R1);(try clear R2);(try clear R3);(try clear R4);(try clear hgl);(try clear Q0);(try clear T4);replace B:=B.on hk1;clear hk1;have A0:=B.A0;have A1:=B.A1;have C0:=B.C0;have C1:=B.C1;have zA:=B.zA;have zC:=B.zC;have l0:w.heap.size<w1.heap.size:=Nat.lt_of_lt_of_le (by simp) B.size;have l1:w.heap.size+1<w1.heap.size:=B.size;obtain⟨R0,R1,R2,R3,R4,hgl,Q0,T4⟩:=HC.out _ B.keeps)|(go_at_call 119;refine(dG.out _ B.keeps).mono ?_;rintro e w1 ⟨rfl,hk1⟩;(try clear A0);(try clear A1);(try clear C0);(try clear C1);(try clear zA);(try clear zC);(try clear l0);(try clear l1);(try clear R0);(try clear R1);(try clear R2);(try clear R3);(try clear R4);(try clear hgl);(try clear Q0);(try clear T4);replace B:=B.on hk1;clear hk1;have A0:=B.A0;have A1:=B.A1;have C0:=B.C0;have C1:=B.C1;have zA:=B.zA;have zC:=B.zC;have l0:w.heap.size<w1.heap.size:=Nat.lt_of_lt_of_le (by simp) B.size;have l1:w.heap.size+1<w1.heap.size:=B.size;obtain⟨R0,R1,R2,R3,R4,hgl,Q0,T4⟩:=HC.out _ B.keeps)|(go_at_call 130;refine(gE.out _ B.keeps).mono ?_;rintro e w1 ⟨rfl,hk1⟩;(try clear A0);(try clear A1);(try clear C0);(try clear C1);(try clear zA);(try clear zC);(try clear l0);(try clear l1);(try clear R0);(try clear R1);(try clear R2);(try clear R3);(try clear R4);(try clear hgl);(try clear Q0);(try clear T4);replace B:=B.on hk1;clear hk1;have A0:=B.A0;have A1:=B.A1;have C0:=B.C0;have C1:=B.C1;have zA:=B.zA;have zC:=B.zC;have l0:w.heap.size<w1.heap.size:=Nat.lt_of_lt_of_le (by simp) B.size;have l1:w.heap.size+1<w1.heap.size:=B.size;obtain⟨R0,R1,R2,R3,R4,hgl,Q0,T4⟩:=HC.out _ B.keeps)|(go_at_call 131;refine(xw.out _ B.keeps).mono ?_;rintro e w1 ⟨rfl,hk1⟩;(try clear A0);(try clear A1);(try clear C0);(try clear C1);(try clear zA);(try clear zC);(try clear l0);(try clear l1);(try clear R0);(try clear R1);(try clear R2);(try clear R3);(try clear R4);(try clear hgl);(try clear Q0);(try clear T4);replace B:=B.on hk1;clear hk1;have A0:=B.A0;have A1:=B.A1;have C0:=B.C0;have C1:=B.C1;have zA:=B.zA;have zC:=B.zC;have l0:w.heap.size<w1.heap.size:=Nat.lt_of_lt_of_le (by simp) B.size;have l1:w.heap.size+1<w1.heap.size:=B.size;obtain⟨R0,R1,R2,R3,R4,hgl,Q0,T4⟩:=HC.out _ B.keeps)|(go_at_call 124;go_loud(refine(HD.out _ w1.heap.size (B.keeps.alloc _) B.size (by simp)).mono ?_);rintro e w2 ⟨v2,rfl,hsl,hk2⟩;obtain⟨q2,m2,rfl,hsl⟩:=hsl;have NB:=pH hk2;have Bs:=B.size;have qC:=(B.keeps.alloc _).trans hk2;replace B:=(B.on ((aa.refl af _).alloc _)).on hk2;(try clear A0);(try clear A1);(try clear C0);(try clear C1);(try clear zA);(try clear zC);(try clear l0);(try clear l1);(try clear R0);(try clear R1);(try clear R2);(try clear R3);(try clear R4);(try clear hgl);(try clear Q0);(try clear T4);have A0:=B.A0;have A1:=B.A1;have C0:=B.C0;have C1:=B.C1;have zA:=B.zA;have zC:=B.zC;have N0:=NB.N0;have N1:=NB.N1;have N2:=NB.N2;have N3:=NB.N3;have N4:=NB.N4;have zN:=NB.zN;have nA:¬w.heap.size=w1.heap.size:=(by omega);have rE:¬w1.heap.size=w.heap.size:=(by omega);have hz2:w1.heap.size<w2.heap.size:=dm N0)|(go_at_call 121;go_loud(refine(HP.out w2 _ w1.heap.size qC Bs (by simpa using hz2) ((oM.out w2 _ qC Bs).var (cB w2 ⟨w1.heap.size,4,none⟩ _) (fun b hb=>.inr (.inr hb))) q2 m2 (hsl.vl (cB w2 ⟨w1.heap.size,4,none⟩ _) (fun b hb=>.inr (.inr hb)))).mono ?_);rintro e w4 ⟨p3,c3,rfl,eU,bB⟩;replace NB:=(NB.AO (.slice q2 ne.length m2)).on bB;replace B:=(B.set Bs 4 (.slice q2 ne.length m2)).on bB;(try clear N0 N1 N2 N3 N4 zN);(try clear A0);(try clear A1);(try clear C0);(try clear C1);(try clear zA);(try clear zC);(try clear l0);(try clear l1);(try clear R0);(try clear R1);(try clear R2);(try clear R3);(try clear R4);(try clear hgl);(try clear Q0);(try clear T4);have A0:=B.A0;have A1:=B.A1;have C0:=B.C0;have C1:=B.C1;have zA:=B.zA;have zC:=B.zC))
  have kA:=(cB w4 ⟨w.heap.size,0,none⟩ (.slice p3 d.length c3)).trans (cB _ ⟨w.heap.size,1,none⟩ (.int .i64 room))
  have B5:=B.xx (p':=p3) (n':=d.length) (c':=c3) (room':=room)
  have N5:=NB.keep kA rE
  have tJ:=eU.var kA (fun b hb=>.inl hb)
  have EE:=dm N5.N0
  (try clear A0);(try clear A1);(try clear C0);(try clear C1);(try clear zA);(try clear zC);(try clear l0);(try clear l1);(try clear R0);(try clear R1);(try clear R2);(try clear R3);(try clear R4);(try clear hgl);(try clear Q0);(try clear T4)
  clear kA bB NB B eU hsl hk2 qC HP HD oM dG HC hz2
  generalize(w4.setCell ⟨w.heap.size,0,none⟩ (.slice p3 d.length c3)).setCell ⟨w.heap.size,1,none⟩ (.int .i64 room)=w5 at *
  obtain⟨g5,Ts,q5,m5,rfl,xz,jG⟩:=HT.out _ _ _ _ tJ
  have A0:=B5.A0
  have A1:=B5.A1
  have C0:=B5.C0
  have C1:=B5.C1
  have zA:=B5.zA
  have zC:=B5.zC
  have N0:=N5.N0
  have N1:=N5.N1
  have N2:=N5.N2
  have N3:=N5.N3
  have N4:=N5.N4
  have zN:=N5.zN
  have R0:=jG.c0
  have R1:=jG.c1
  have R2:=jG.c2
  have R3:=jG.c3
  have R4:=jG.c4
  have hgl:=jG.lt
  have nG:¬g5=w1.heap.size:=xz.2
  have EF:¬w1.heap.size=g5:=fun e=>nG e.symm
  go_upto_region 25 with(fail)
  change Code.wp _ _ _ _ (l9 w5 w1.heap.size 0 (.int .i64 (nd dH (T:Int)).kind) (.int .i64 (nd dH (T:Int)).mode) (.int .i64 (nd dH (T:Int)).holds) (.string (nd dH (T:Int)).data) (.slice q5 (nd dH (T:Int)).ah.length m5))
  have k5:=EG w5 w1.heap.size 0 (.int .i64 (nd dH (T:Int)).kind) (.int .i64 (nd dH (T:Int)).mode) (.int .i64 (nd dH (T:Int)).holds) (.string (nd dH (T:Int)).data) (.slice q5 (nd dH (T:Int)).ah.length m5)
  have N6:=N5.l9 (.int .i64 (nd dH (T:Int)).kind) (.int .i64 (nd dH (T:Int)).mode) (.int .i64 (nd dH (T:Int)).holds) (.string (nd dH (T:Int)).data) (.slice q5 (nd dH (T:Int)).ah.length m5)
  have B6:=B5.keep k5 nA (by omega) (fun b hb=>by omega)
  have EH:=tJ.var k5 (fun b hb=>.inr (.inr hb))
  have ve:=jG.sl.vl k5 (fun b hb=>.inr (.inr hb))
  have EI:=dm N6.N0
  (try clear A0);(try clear A1);(try clear C0);(try clear C1);(try clear zA);(try clear zC);(try clear l0);(try clear l1);(try clear R0);(try clear R1);(try clear R2);(try clear R3);(try clear R4);(try clear hgl);(try clear Q0);(try clear T4)
  clear N0 N1 N2 N3 N4 zN k5 N5 B5 tJ jG HT EE nG EF xz
  generalize l9 w5 w1.heap.size 0 (.int .i64 (nd dH (T:Int)).kind) (.int .i64 (nd dH (T:Int)).mode) (.int .i64 (nd dH (T:Int)).holds) (.string (nd dH (T:Int)).data) (.slice q5 (nd dH (T:Int)).ah.length m5)=w6 at *
  have A0:=B6.A0
  have A1:=B6.A1
  have C0:=B6.C0
  have C1:=B6.C1
  have zA:=B6.zA
  have zC:=B6.zC
  have N0:=N6.N0
  have N1:=N6.N1
  have N2:=N6.N2
  have N3:=N6.N3
  have N4:=N6.N4
  have zN:=N6.zN
  go_wp2_with(first|(go_at_call 132;go_loud(refine(HS.out w6 w1.heap.size Bs EI q5 m5 ve).mono ?_);rintro e w7 ⟨v7,rfl,tK,iE⟩;obtain⟨q7,m7,rfl,tK⟩:=tK;have N7:=N6.on iE;have B7:=B6.on iE;have EJ:=EH.ai iE;have EK:=dm N7.N0;(try clear A0);(try clear A1);(try clear C0);(try clear C1);(try clear zA);(try clear zC);(try clear l0);(try clear l1);(try clear R0);(try clear R1);(try clear R2);(try clear R3);(try clear R4);(try clear hgl);(try clear Q0);(try clear T4);clear N0 N1 N2 N3 N4 zN;have A0:=B7.A0;have A1:=B7.A1;have C0:=B7.C0;have C1:=B7.C1;have zA:=B7.zA;have zC:=B7.zC;have N0:=N7.N0;have N1:=N7.N1;have N2:=N7.N2;have N3:=N7.N3;have N4:=N7.N4;have zN:=N7.zN)|(go_at_call 121;go_loud(refine(HQ.out _ w1.heap.size Bs (by simpa using EK) _ _ (EJ.var (cB w7 ⟨w1.heap.size,4,none⟩ _) (fun b hb=>.inr (.inr hb))) q7 m7 (tK.vl (cB w7 ⟨w1.heap.size,4,none⟩ _) (fun b hb=>.inr (.inr hb)))).mono ?_);rintro e w8 ⟨p8,c8,rfl,pJ,fP⟩;have B8:=(B7.set Bs 4 (.slice q7 ns.length m7)).on fP;have N8:=(N7.AO (.slice q7 ns.length m7)).on fP;have Lu:=dm N8.N0;(try clear A0);(try clear A1);(try clear C0);(try clear C1);(try clear zA);(try clear zC);(try clear l0);(try clear l1);(try clear R0);(try clear R1);(try clear R2);(try clear R3);(try clear R4);(try clear hgl);(try clear Q0);(try clear T4);clear N0 N1 N2 N3 N4 zN;have A0:=B8.A0;have A1:=B8.A1;have C0:=B8.C0;have C1:=B8.C1;have zA:=B8.zA;have zC:=B8.zC)|(go_at_call 125;go_loud(refine(bP.out _ w1.heap.size Bs (by simpa using Lu) _ _ (pJ.var ((cB w8 ⟨w.heap.size,0,none⟩ (.slice p8 d.length c8)).trans (cB _ ⟨w.heap.size,1,none⟩ (.int .i64 room))) (fun b hb=>.inl hb))).mono ?_);rintro e w9 ⟨p9,c9,rfl,Tt,tI⟩;have B9:=(B8.xx (p':=p8) (n':=d.length) (c':=c8) (room':=room)).on tI;(try clear A0);(try clear A1);(try clear C0);(try clear C1);(try clear zA);(try clear zC);(try clear l0);(try clear l1);(try clear R0);(try clear R1);(try clear R2);(try clear R3);(try clear R4);(try clear hgl);(try clear Q0);(try clear T4);have A0:=B9.A0;have A1:=B9.A1;have C0:=B9.C0;have C1:=B9.C1;have zA:=B9.zA;have zC:=B9.zC))
  (try simp only[Exit.inBlock,Exit.then])
  refine bodyPost_ret (v:=.tuple #[.agg #[.slice p9 (gc AQ).length c9,.int .i64 room],.int .i64 0]) ?_ rfl ?_
  ·rw[results_cell_tmp rfl]
   go_simp
  ·exact dP ((Tt.var ((cB w9 ⟨w.heap.size,0,none⟩ (.slice p9 (gc AQ).length c9)).trans (cB _ ⟨w.heap.size,1,none⟩ (.int .i64 room))) (fun b hb=>.inl hb)).Lt) (B9.xx (p':=p9) (n':=(gc AQ).length) (c':=c9) (room':=room)).keeps _ _
end
end Go.Proofs.YtnanhmfpikddkaaGreatDoor
