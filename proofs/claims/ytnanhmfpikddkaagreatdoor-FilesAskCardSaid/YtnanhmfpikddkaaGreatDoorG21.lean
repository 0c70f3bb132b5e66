/-
  Contracts of the reference for layer 4,the eleventh part: Move to a new name.
-/
import Derived.Test.YtnanhmfpikddkaaGreatDoorG07
import Derived.Deep.RegionHeld3
import Derived.Test.YtnanhmfpikddkaaGreatDoorG20
import Derived.Test.YtnanhmfpikddkaaGreatDoorG04
import Derived.Test.YtnanhmfpikddkaaGreatDoorG09
import Derived.Test.YtnanhmfpikddkaaGreatDoorG19
import Derived.Test.YtnanhmfpikddkaaGreatDoorG11
import Derived.Test.YtnanhmfpikddkaaGreatDoorG15
import Derived.Test.YtnanhmfpikddkaaGreatDoorG16
import Derived.Test.YtnanhmfpikddkaaGreatDoorG18

set_option linter.unusedSimpArgs false
set_option linter.unusedVariables false
namespace Go.Proofs.YtnanhmfpikddkaaGreatDoor
open Go.RowKit
set_option maxRecDepth 100000
set_option maxHeartbeats 2000000
section
variable{S:Nat->Prop} {w:World} {p:Option Addr} {c:Nat} {d:ag} {room:Int}
theorem Lv {u lo ln:Nat} (h:(u:Int)<=9007199254740992) (h1:lo<=255) (h2:ln<=255):wrap64 ((u:Int)+(lo:Int))=(u:Int)+(lo:Int)∧wrap64 ((u:Int)+(lo:Int)-(ln:Int))=(u:Int)+(lo:Int)-(ln:Int) :=
 ⟨IntWalk.wrap64_in _ (by omega),IntWalk.wrap64_in _ (by omega)⟩
theorem Tu (h:aI S w p c d) (hS:∀g,w.heap.size<=g->S g) (hI:aG d) (hs:aP d) (f:Int) (name:ByteArray) (t:Int) (other:ByteArray) (k:Int) (hos:other.size<=maxLen) (c0:bH d f name=0) (hkk:aN d f name=k) (c1:aO d t=0) (fE:(nd d k).kind=2->¬cU d k t)
 (hold:bk (nd d t).ah other=none) (hp:bw (nd d t).ah other≠0) :
 Calls Tryz.prog 93 #[aE p c d room,.int .i64 f,.string name,.int .i64 t,.string other] w (eH S w d room (bw (nd d t).ah other)):=by
 have hcap:=h.cap
 have hmax:=h.max
 unfold maxLen at hmax
 obtain⟨f0,hget⟩:=mI c0
 rw[hkk]at hget
 obtain⟨hf,dS⟩:=fD f0
 obtain⟨ht,cy⟩:=fD c1
 have hk:has d k:=(hI.tgt f _ (dV hget)).1
 have hk1:k≠1:=(hI.tgt f _ (dV hget)).2
 have hns:name.size<=255:=rX ((hI.node f).names _ (dV hget))
 have dG:=Lib.hid (fun(w1:World) (hk:aa af w w1)=>qB (room:=room) (h.ai hk) hI.zero t)
 have dJ:=Lib.hid (fun(w1:World) (hk:aa af w w1)=>nC (room:=room) (h.ai hk) hI f name)
 have fR:=Lib.hid (fun(w1:World) (hk:aa af w w1)=>nC (room:=room) (h.ai hk) hI t other)
 have ep:=Lib.hid (fun(w1:World) (hk:aa af w w1)=>rD (room:=room) (h.ai hk) hI.zero (by have:=hI.two;omega) hI hs)
 have gE:=Lib.hid (fun(h2:(nd d k).kind=2) (w1:World) (fK:aa af w w1)=>vg (room:=room) (h.ai fK) hI hs t k cy hk1 false ⟨(fun h=>by cases h),fun h=>absurd h (fE h2)⟩)
 have e1:bH d t other=12:=by unfold bH;rw[if_neg (by simpa using c1),hold];rfl
 have e2:aN d t other=0:=by unfold aN;rw[if_neg (by simpa using c1),hold];rfl
 rw[c0,hkk]at dJ
 rw[c1]at dG
 rw[e1,e2]at fR
 have Hh:=Lib.hid (fun(w1:World) (hk:aa af w w1)=>h.gO hk)
 have B:=iH (w:=w) (aa.refl af ((w.alloc (.cells #[.slice p d.length c,.int .i64 room] 37)).alloc (.cells #[.slice none 0 0,.int .i64 0] 37)))
 have xA:=gx hs t
 obtain⟨F,T,K,g,off,q,q',m,m',rfl,rfl,rfl,hF,hT,hK,rfl,cI,hsl,jT,hg1,hc⟩:=vf h hf ht hk
 have HC:=Lib.hid hc
 have aM:((nd d (K:Int)).kind=2)∨((nd d (K:Int)).kind≠2):=Classical.em _
 have kR:=Lib.hid (fun(w1:World) (hk1:aa af w w1)=>xj S w1 q' m' (nd d (T:Int)).ah other (K:Int) (jT.ai hk1) (hI.node (T:Int)).rising (by omega) (fun g hg=>hS g (by have:=hk1.size;omega)) hos)
 clear h hS hI hs hc hsl jT f0 hget c0 c1 hkk fE hf ht hk hk1 dS cy hold e1 e2 xA ep hns
 generalize bw (nd d (T:Int)).ah other=pe at *
 generalize gh (nd d (T:Int)).ah other (K:Int)=pt at *
 generalize(nd d (F:Int)).ah=eF at *
 generalize(nd d (T:Int)).ah=eT at *
 unfold aE at *
 rcases aM with aM|aM
 case' inl=>rw[aM]at HC;replace gE:=Lib.hid (gE.out aM);clear aM
 case' inr=>clear gE;generalize(nd d (K:Int)).kind=ko at *
 all_goals
  go_enter Tryz.func93,Tryz.ntmps93
  go_wp2_with(first|(go_at_call 123;have HX:=dJ;clear dJ;refine(HX.out _ B.keeps).mono ?_;clear HX;rintro e w1 ⟨rfl,hk1⟩;(try clear A0);(try clear A1);(try clear C0);(try clear C1);(try clear zA);(try clear zC);(try clear l0);(try clear l1);(try clear R0);(try clear R1);(try clear R2);(try clear R3);(try clear R4);(try clear hgl);(try clear Q0);(try clear T4);replace B:=B.on hk1;clear hk1;have A0:=B.A0;have A1:=B.A1;have C0:=B.C0;have C1:=B.C1;have zA:=B.zA;have zC:=B.zC;have l0:w.heap.size<w1.heap.size:=Nat.lt_of_lt_of_le (by simp) B.size;have l1:w.heap.size+1<w1.heap.size:=B.size;obtain⟨R0,R1,R2,R3,R4,hgl,Q0,T4⟩:=HC.out _ B.keeps)|(go_at_call 123;have HX:=fR;clear fR;refine(HX.out _ B.keeps).mono ?_;clear HX;rintro e w1 ⟨rfl,hk1⟩;(try clear A0);(try clear A1);(try clear C0);(try clear C1);(try clear zA);(try clear zC);(try clear l0);(try clear l1);(try clear R0);(try clear R1);(try clear R2);(try clear R3);(try clear R4);(try clear hgl);(try clear Q0);(try clear T4);replace B:=B.on hk1;clear hk1;have A0:=B.A0;have A1:=B.A1;have C0:=B.C0;have C1:=B.C1;have zA:=B.zA;have zC:=B.zC;have l0:w.heap.size<w1.heap.size:=Nat.lt_of_lt_of_le (by simp) B.size;have l1:w.heap.size+1<w1.heap.size:=B.size;obtain⟨R0,R1,R2,R3,R4,hgl,Q0,T4⟩:=HC.out _ B.keeps)|(go_at_call 119;refine(dG.out _ B.keeps).mono ?_;rintro e w1 ⟨rfl,hk1⟩;(try clear A0);(try clear A1);(try clear C0);(try clear C1);(try clear zA);(try clear zC);(try clear l0);(try clear l1);(try clear R0);(try clear R1);(try clear R2);(try clear R3);(try clear R4);(try clear hgl);(try clear Q0);(try clear T4);replace B:=B.on hk1;clear hk1;have A0:=B.A0;have A1:=B.A1;have C0:=B.C0;have C1:=B.C1;have zA:=B.zA;have zC:=B.zC;have l0:w.heap.size<w1.heap.size:=Nat.lt_of_lt_of_le (by simp) B.size;have l1:w.heap.size+1<w1.heap.size:=B.size;obtain⟨R0,R1,R2,R3,R4,hgl,Q0,T4⟩:=HC.out _ B.keeps)|(go_at_call 130;refine(gE.out _ B.keeps).mono ?_;rintro e w1 ⟨rfl,hk1⟩;(try clear A0);(try clear A1);(try clear C0);(try clear C1);(try clear zA);(try clear zC);(try clear l0);(try clear l1);(try clear R0);(try clear R1);(try clear R2);(try clear R3);(try clear R4);(try clear hgl);(try clear Q0);(try clear T4);replace B:=B.on hk1;clear hk1;have A0:=B.A0;have A1:=B.A1;have C0:=B.C0;have C1:=B.C1;have zA:=B.zA;have zC:=B.zC;have l0:w.heap.size<w1.heap.size:=Nat.lt_of_lt_of_le (by simp) B.size;have l1:w.heap.size+1<w1.heap.size:=B.size;obtain⟨R0,R1,R2,R3,R4,hgl,Q0,T4⟩:=HC.out _ B.keeps)|(go_at_call 120;have HX:=kR;clear kR;go_loud(refine(HX.out _ B.keeps).mono ?_);clear HX;rintro e w1 ⟨v2,rfl,-,hk1⟩;(try clear A0);(try clear A1);(try clear C0);(try clear C1);(try clear zA);(try clear zC);(try clear l0);(try clear l1);(try clear R0);(try clear R1);(try clear R2);(try clear R3);(try clear R4);(try clear hgl);(try clear Q0);(try clear T4);replace B:=B.on hk1;clear hk1;have A0:=B.A0;have A1:=B.A1;have C0:=B.C0;have C1:=B.C1;have zA:=B.zA;have zC:=B.zC;obtain⟨R0,R1,R2,R3,R4,hgl,Q0,T4⟩:=HC.out _ B.keeps))
  (try simp only[Exit.inBlock,Exit.then])
  refine bodyPost_ret (v:=.tuple #[.agg #[.slice (some ⟨g,off,none⟩) d.length c,.int .i64 room],.int .i64 pe]) ?_ rfl ?_
  ·rw[results_cell_tmp rfl]
   go_simp
  ·exact dP (Hh.out _ B.keeps) B.keeps _ _
theorem Tv (h:aI S w p c d) (hS:∀g,w.heap.size<=g->S g) (hI:aG d) (hs:aP d) (f:Int) (name:ByteArray) (t:Int) (other:ByteArray) (k:Int) (hos:other.size<=maxLen) (c0:bH d f name=0) (hkk:aN d f name=k) (c1:aO d t=0) (fE:(nd d k).kind=2->¬cU d k t)
 (hold:bk (nd d t).ah other=none) (hp:bw (nd d t).ah other=0) (hr:room<used d+other.size-name.size) :
 Calls Tryz.prog 93 #[aE p c d room,.int .i64 f,.string name,.int .i64 t,.string other] w (eH S w d room 20):=by
 have hcap:=h.cap
 have hmax:=h.max
 unfold maxLen at hmax
 obtain⟨f0,hget⟩:=mI c0
 rw[hkk]at hget
 obtain⟨hf,dS⟩:=fD f0
 obtain⟨ht,cy⟩:=fD c1
 have hk:has d k:=(hI.tgt f _ (dV hget)).1
 have hk1:k≠1:=(hI.tgt f _ (dV hget)).2
 have hns:name.size<=255:=rX ((hI.node f).names _ (dV hget))
 have dG:=Lib.hid (fun(w1:World) (hk:aa af w w1)=>qB (room:=room) (h.ai hk) hI.zero t)
 have dJ:=Lib.hid (fun(w1:World) (hk:aa af w w1)=>nC (room:=room) (h.ai hk) hI f name)
 have fR:=Lib.hid (fun(w1:World) (hk:aa af w w1)=>nC (room:=room) (h.ai hk) hI t other)
 have ep:=Lib.hid (fun(w1:World) (hk:aa af w w1)=>rD (room:=room) (h.ai hk) hI.zero (by have:=hI.two;omega) hI hs)
 have gE:=Lib.hid (fun(h2:(nd d k).kind=2) (w1:World) (fK:aa af w w1)=>vg (room:=room) (h.ai fK) hI hs t k cy hk1 false ⟨(fun h=>by cases h),fun h=>absurd h (fE h2)⟩)
 have e1:bH d t other=12:=by unfold bH;rw[if_neg (by simpa using c1),hold];rfl
 have e2:aN d t other=0:=by unfold aN;rw[if_neg (by simpa using c1),hold];rfl
 rw[c0,hkk]at dJ
 rw[c1]at dG
 rw[e1,e2]at fR
 have Hh:=Lib.hid (fun(w1:World) (hk:aa af w w1)=>h.gO hk)
 have B:=iH (w:=w) (aa.refl af ((w.alloc (.cells #[.slice p d.length c,.int .i64 room] 37)).alloc (.cells #[.slice none 0 0,.int .i64 0] 37)))
 have xA:=gx hs t
 obtain⟨F,T,K,g,off,q,q',m,m',rfl,rfl,rfl,hF,hT,hK,rfl,cI,hsl,jT,hg1,hc⟩:=vf h hf ht hk
 have HC:=Lib.hid hc
 have aM:((nd d (K:Int)).kind=2)∨((nd d (K:Int)).kind≠2):=Classical.em _
 have kR:=Lib.hid (fun(w1:World) (hk1:aa af w w1)=>xj S w1 q' m' (nd d (T:Int)).ah other (K:Int) (jT.ai hk1) (hI.node (T:Int)).rising (by omega) (fun g hg=>hS g (by have:=hk1.size;omega)) hos)
 have bZ:=lg hI hs
 have tC:other.size<=255:=rX (mA.1 hp).1
 obtain⟨lp,mb⟩:=Lv bZ tC hns
 rw[hp]at kR
 unfold aE at *
 clear h hS hI hs hc hsl jT f0 hget c0 c1 hkk fE hf ht hk hk1 dS cy hold e1 e2 xA hns bZ tC hp
 generalize(used d:Int)=us at *
 have hwi:IntKind.i64.wrap (us+(other.size:Int))=us+(other.size:Int):=by rw[<- lp];exact xu _
 have mc:IntKind.i64.wrap (us+(other.size:Int)-(name.size:Int))=us+(other.size:Int)-(name.size:Int):=by rw[<- mb];exact xu _
 generalize gh (nd d (T:Int)).ah other (K:Int)=pt at *
 generalize(nd d (F:Int)).ah=eF at *
 generalize(nd d (T:Int)).ah=eT at *
 rcases aM with aM|aM
 case' inl=>rw[aM]at HC;replace gE:=Lib.hid (gE.out aM);clear aM
 case' inr=>clear gE;generalize(nd d (K:Int)).kind=ko at *
 all_goals
  go_enter Tryz.func93,Tryz.ntmps93
  go_upto_region 19 with(first|(go_at_call 123;have HX:=dJ;clear dJ;refine(HX.out _ B.keeps).mono ?_;clear HX;rintro e w1 ⟨rfl,hk1⟩;(try clear A0);(try clear A1);(try clear C0);(try clear C1);(try clear zA);(try clear zC);(try clear l0);(try clear l1);(try clear R0);(try clear R1);(try clear R2);(try clear R3);(try clear R4);(try clear hgl);(try clear Q0);(try clear T4);replace B:=B.on hk1;clear hk1;have A0:=B.A0;have A1:=B.A1;have C0:=B.C0;have C1:=B.C1;have zA:=B.zA;have zC:=B.zC;have l0:w.heap.size<w1.heap.size:=Nat.lt_of_lt_of_le (by simp) B.size;have l1:w.heap.size+1<w1.heap.size:=B.size;obtain⟨R0,R1,R2,R3,R4,hgl,Q0,T4⟩:=HC.out _ B.keeps)|(go_at_call 123;have HX:=fR;clear fR;refine(HX.out _ B.keeps).mono ?_;clear HX;rintro e w1 ⟨rfl,hk1⟩;(try clear A0);(try clear A1);(try clear C0);(try clear C1);(try clear zA);(try clear zC);(try clear l0);(try clear l1);(try clear R0);(try clear R1);(try clear R2);(try clear R3);(try clear R4);(try clear hgl);(try clear Q0);(try clear T4);replace B:=B.on hk1;clear hk1;have A0:=B.A0;have A1:=B.A1;have C0:=B.C0;have C1:=B.C1;have zA:=B.zA;have zC:=B.zC;have l0:w.heap.size<w1.heap.size:=Nat.lt_of_lt_of_le (by simp) B.size;have l1:w.heap.size+1<w1.heap.size:=B.size;obtain⟨R0,R1,R2,R3,R4,hgl,Q0,T4⟩:=HC.out _ B.keeps)|(go_at_call 119;refine(dG.out _ B.keeps).mono ?_;rintro e w1 ⟨rfl,hk1⟩;(try clear A0);(try clear A1);(try clear C0);(try clear C1);(try clear zA);(try clear zC);(try clear l0);(try clear l1);(try clear R0);(try clear R1);(try clear R2);(try clear R3);(try clear R4);(try clear hgl);(try clear Q0);(try clear T4);replace B:=B.on hk1;clear hk1;have A0:=B.A0;have A1:=B.A1;have C0:=B.C0;have C1:=B.C1;have zA:=B.zA;have zC:=B.zC;have l0:w.heap.size<w1.heap.size:=Nat.lt_of_lt_of_le (by simp) B.size;have l1:w.heap.size+1<w1.heap.size:=B.size;obtain⟨R0,R1,R2,R3,R4,hgl,Q0,T4⟩:=HC.out _ B.keeps)|(go_at_call 130;refine(gE.out _ B.keeps).mono ?_;rintro e w1 ⟨rfl,hk1⟩;(try clear A0);(try clear A1);(try clear C0);(try clear C1);(try clear zA);(try clear zC);(try clear l0);(try clear l1);(try clear R0);(try clear R1);(try clear R2);(try clear R3);(try clear R4);(try clear hgl);(try clear Q0);(try clear T4);replace B:=B.on hk1;clear hk1;have A0:=B.A0;have A1:=B.A1;have C0:=B.C0;have C1:=B.C1;have zA:=B.zA;have zC:=B.zC;have l0:w.heap.size<w1.heap.size:=Nat.lt_of_lt_of_le (by simp) B.size;have l1:w.heap.size+1<w1.heap.size:=B.size;obtain⟨R0,R1,R2,R3,R4,hgl,Q0,T4⟩:=HC.out _ B.keeps)|(go_at_call 120;have HX:=kR;clear kR;go_loud(refine(HX.out _ B.keeps).mono ?_);clear HX;rintro e w1 ⟨v2,rfl,-,hk1⟩;(try clear A0);(try clear A1);(try clear C0);(try clear C1);(try clear zA);(try clear zC);(try clear l0);(try clear l1);(try clear R0);(try clear R1);(try clear R2);(try clear R3);(try clear R4);(try clear hgl);(try clear Q0);(try clear T4);replace B:=B.on hk1;clear hk1;have A0:=B.A0;have A1:=B.A1;have C0:=B.C0;have C1:=B.C1;have zA:=B.zA;have zC:=B.zC;obtain⟨R0,R1,R2,R3,R4,hgl,Q0,T4⟩:=HC.out _ B.keeps))
  go_cut [104]from 94 to 104 (fun x wx=>x=.bool true∧aa af w1 wx)
  case first =>
   have kr:aa af w1 w1:=aa.refl af w1
   have bh:aa af w1 w1.drew:=kr.drew
   have Bd:=B.on bh
   go_region_held3 (fun wz=>wz.cell? ⟨w.heap.size,0,none⟩=some (.slice (some ⟨g,off,none⟩) d.length c)∧wz.cell? ⟨w.heap.size,1,none⟩=some (.int .i64 room)∧aa af w1 wz) (first|exact⟨B.A0,B.A1,kr⟩|exact⟨Bd.A0,Bd.A1,bh⟩|exact⟨B6.A0,B6.A1,aR⟩|exact⟨fq.A0,fq.A1,fC⟩)
    (first|(go_at_call 26;refine(ep.out _ (B.keeps.trans (by assumption))).mono ?_;rintro e w6 ⟨rfl,cF⟩;have aR:aa af w1 w6:=aa.trans (by assumption) cF;have B6:=B.on aR;have fC:=aR.drew;have fq:=B.on fC;have qD:=B6.A0;have qE:=B6.A1))
   all_goals(go_wp2_with fail;go_meet;exact⟨by simp[hwi,mc,hr],by first|exact aR|exact aR.drew⟩)
  case rest =>
   obtain⟨rfl,aR⟩:=hcut
   have B6:=B.on aR
   (try clear A0);(try clear A1);(try clear C0);(try clear C1);(try clear zA);(try clear zC);(try clear l0);(try clear l1);(try clear R0);(try clear R1);(try clear R2);(try clear R3);(try clear R4);(try clear hgl);(try clear Q0);(try clear T4)
   have C0:=B6.C0
   have C1:=B6.C1
   have zC:=B6.zC
   have A0:=B6.A0
   have A1:=B6.A1
   go_wp2_with fail
   (try simp only[Exit.inBlock,Exit.then])
   refine bodyPost_ret (v:=.tuple #[.agg #[.slice (some ⟨g,off,none⟩) d.length c,.int .i64 room],.int .i64 20]) ?_ rfl ?_
   ·rw[results_cell_tmp rfl]
    go_simp
   ·exact dP (Hh.out _ B6.keeps) B6.keeps _ _
end
set_option maxRecDepth 100000
set_option maxHeartbeats 2000000
section
variable{S:Nat->Prop} {w:World} {p:Option Addr} {c:Nat} {d:ag} {room:Int}
theorem Tw (h:aI S w p c d) (hS:∀g,w.heap.size<=g->S g) (hI:aG d) (hcl:bK d) (hs:aP d) (f:Int) (name:ByteArray) (t:Int) (other:ByteArray) (k:Int) (hos:other.size<=maxLen) (c0:bH d f name=0) (hkk:aN d f name=k) (c1:aO d t=0) (fE:(nd d k).kind=2->¬cU d k t)
 (hold:bk (nd d t).ah other=none) (hp:bw (nd d t).ah other=0) (hr:¬room<used d+other.size-name.size) :
 Calls Tryz.prog 93 #[aE p c d room,.int .i64 f,.string name,.int .i64 t,.string other] w (eH S w (gc (bL d f name t other k)) room 0):=by
 have hcap:=h.cap
 have hmax:=h.max
 unfold maxLen at hmax
 obtain⟨f0,hget⟩:=mI c0
 rw[hkk]at hget
 obtain⟨hf,dS⟩:=fD f0
 obtain⟨ht,cy⟩:=fD c1
 have hk:has d k:=(hI.tgt f _ (dV hget)).1
 have hk1:k≠1:=(hI.tgt f _ (dV hget)).2
 have hns:name.size<=255:=rX ((hI.node f).names _ (dV hget))
 have dG:=Lib.hid (fun(w1:World) (hk:aa af w w1)=>qB (room:=room) (h.ai hk) hI.zero t)
 have dJ:=Lib.hid (fun(w1:World) (hk:aa af w w1)=>nC (room:=room) (h.ai hk) hI f name)
 have fR:=Lib.hid (fun(w1:World) (hk:aa af w w1)=>nC (room:=room) (h.ai hk) hI t other)
 have ep:=Lib.hid (fun(w1:World) (hk:aa af w w1)=>rD (room:=room) (h.ai hk) hI.zero (by have:=hI.two;omega) hI hs)
 have gE:=Lib.hid (fun(h2:(nd d k).kind=2) (w1:World) (fK:aa af w w1)=>vg (room:=room) (h.ai fK) hI hs t k cy hk1 false ⟨(fun h=>by cases h),fun h=>absurd h (fE h2)⟩)
 have e1:bH d t other=12:=by unfold bH;rw[if_neg (by simpa using c1),hold];rfl
 have e2:aN d t other=0:=by unfold aN;rw[if_neg (by simpa using c1),hold];rfl
 rw[c0,hkk]at dJ
 rw[c1]at dG
 rw[e1,e2]at fR
 have Hh:=Lib.hid (fun(w1:World) (hk:aa af w w1)=>h.gO hk)
 have B:=iH (w:=w) (aa.refl af ((w.alloc (.cells #[.slice p d.length c,.int .i64 room] 37)).alloc (.cells #[.slice none 0 0,.int .i64 0] 37)))
 have xA:=gx hs t
 have ke:bu (nd d t).ah other=false:=by rw[<- ox,hold];rfl
 have M:cE d f name t other k:=cE.mk' hI dS cy hget (by rw[hold];simp) (fun _=>hp) fE
 -- what the two puts make
 have sB:aG (aZ d f name):=yP hI M.f2 M.get
 have pI:(aZ d f name).length=d.length:=j4 _ _ _
 have r7:(bL d f name t other k).length=d.length:=by unfold bL aZ eM;rw[j4,j4]
 have hel:=gx hs f
 have xy:(nd (aZ d f name) t).ah.length<4294967295:=gx (by have:=ur hI hf M.get;unfold aP at *;omega) t
 have hml:=jm d
 have hd1:dz d f (bQ (nd d f).ah name)=aZ d f name:=rfl
 have pq:dz (aZ d f name) t (bY (nd (aZ d f name) t).ah other k)=bL d f name t other k:=by
  rw[<- M.ref]
  unfold yV
  rw[if_neg (by rw[ke];decide)]
 have mP:dI (nd d f).ah name=0:=by unfold dI;rw[if_pos (kX M.get)]
 have vV:bw (nd (aZ d f name) t).ah other=0:=mA.2 ⟨(mA.1 hp).1,by rw[M.GU];exact ke⟩
 have tL:=(M.free hcl).2 hold
 rw[tL]
 obtain⟨F,T,K,g,off,q,q',m,m',rfl,rfl,rfl,hF,hT,hK,rfl,cI,hsl,jT,hg1,hc⟩:=vf h hf ht hk
 have HC:=Lib.hid hc
 have aM:((nd d (K:Int)).kind=2)∨((nd d (K:Int)).kind≠2):=Classical.em _
 have kR:=Lib.hid (fun(w1:World) (hk1:aa af w w1)=>xj S w1 q' m' (nd d (T:Int)).ah other (K:Int) (jT.ai hk1) (hI.node (T:Int)).rising (by omega) (fun g hg=>hS g (by have:=hk1.size;omega)) hos)
 have bZ:=lg hI hs
 have tC:other.size<=255:=rX (mA.1 hp).1
 obtain⟨lp,mb⟩:=Lv bZ tC hns
 rw[hp]at kR
 have HD:=Lib.hid (fun(w2:World) (N:Nat) (hk2:aa af w w2) (hN:w.heap.size+2<=N) (hsz:N<w2.heap.size)=>Ex (fQ S w N) w2 q m (nd d (F:Int)).ah name
  (hsl.cN hk2 (fun _ _ _ h=>h) (fun g hg hl=>⟨⟨hg,by omega,by omega⟩,by omega⟩)) (hI.node (F:Int)).rising (by omega) (vk hS hN hsz))
 rw[mP]at HD
 have HP:=Lib.hid (fun(w0 w2:World) (N:Nat) (bS:aa af w w0) (hN:w.heap.size+2<=N) (hsz:N<w2.heap.size) (hr:aI (fQ S w N) w2 (some ⟨g,off,none⟩) c d) (q2:Option Addr) (m2:Nat) (hx:bt aK (fQ S w N) w2 q2 m2 (bQ (nd d (F:Int)).ah name)) =>
  AP (room:=room) hr hS hN hsz (by unfold aP at hs;omega) F hF (bQ (nd d (F:Int)).ah name) q2 m2 hx (aZ d F name) hd1)
 have HT:=Lib.hid (fun(w2:World) (N:Nat) (p3:Option Addr) (c3:Nat) (hr:aI (fQ S w N) w2 p3 c3 (aZ d F name))=>hr.rowAt (show T<(aZ d F name).length by rw[pI];exact hT))
 have HS:=Lib.hid (fun(w2:World) (N:Nat) (hN:w.heap.size+2<=N) (hsz:N<w2.heap.size) (q2:Option Addr) (m2:Nat) (hx:bt aK (fQ S w N) w2 q2 m2 (nd (aZ d F name) (T:Int)).ah) =>
  xj (fQ S w N) w2 q2 m2 (nd (aZ d F name) (T:Int)).ah other (K:Int) hx (sB.node (T:Int)).rising xy (vk hS hN hsz) hos)
 rw[vV,show gh (nd (aZ d F name) (T:Int)).ah other (K:Int)=bY (nd (aZ d F name) (T:Int)).ah other (K:Int)from if_pos vV]at HS
 have HQ:=Lib.hid (fun(w2:World) (N:Nat) (hN:w.heap.size+2<=N) (hsz:N<w2.heap.size) (p3:Option Addr) (c3:Nat) (hr:aI (fQ S w N) w2 p3 c3 (aZ d F name)) (q2:Option Addr) (m2:Nat) (hx:bt aK (fQ S w N) w2 q2 m2 (bY (nd (aZ d F name) (T:Int)).ah other K)) =>
  AP (room:=room) hr hS hN hsz (by unfold aP at hs;rw[pI];omega) T (by rw[pI];exact hT) (bY (nd (aZ d F name) (T:Int)).ah other K) q2 m2 hx (bL d F name T other K) pq)
 have oM:=Lib.hid (fun(w2:World) (N:Nat) (hk:aa af w w2) (hN:w.heap.size+2<=N)=>h.Ls hk hN)
 unfold aE at *
 rw[pI]at HQ
 have vm:=Lib.hid r7
 clear h hI hs hc hsl jT f0 hget c0 c1 hkk fE hf ht hk hk1 dS cy hold e1 e2 xA hns bZ tC hp vV ke M hcl sB pI r7 hel xy hml hd1 pq mP tL Hh
 generalize(used d:Int)=us at *
 have hwi:IntKind.i64.wrap (us+(other.size:Int))=us+(other.size:Int):=by rw[<- lp];exact xu _
 have mc:IntKind.i64.wrap (us+(other.size:Int)-(name.size:Int))=us+(other.size:Int)-(name.size:Int):=by rw[<- mb];exact xu _
 generalize gh (nd d (T:Int)).ah other (K:Int)=pt at *
 generalize bL d F name T other K=AQ at *
 generalize bY (nd (aZ d F name) (T:Int)).ah other K=ns at *
 generalize aZ d F name=dH at *
 generalize bQ (nd d (F:Int)).ah name=ne at *
 generalize(nd d (F:Int)).ah=eF at *
 generalize(nd d (T:Int)).ah=eT at *
 rcases aM with aM|aM
 case' inl=>rw[aM]at HC;replace gE:=Lib.hid (gE.out aM);clear aM
 case' inr=>clear gE;generalize(nd d (K:Int)).kind=ko at *
 all_goals
  go_enter Tryz.func93,Tryz.ntmps93
  go_upto_region 19 with(first|(go_at_call 123;have HX:=dJ;clear dJ;refine(HX.out _ B.keeps).mono ?_;clear HX;rintro e w1 ⟨rfl,hk1⟩;(try clear A0);(try clear A1);(try clear C0);(try clear C1);(try clear zA);(try clear zC);(try clear l0);(try clear l1);(try clear R0);(try clear R1);(try clear R2);(try clear R3);(try clear R4);(try clear hgl);(try clear Q0);(try clear T4);replace B:=B.on hk1;clear hk1;have A0:=B.A0;have A1:=B.A1;have C0:=B.C0;have C1:=B.C1;have zA:=B.zA;have zC:=B.zC;have l0:w.heap.size<w1.heap.size:=Nat.lt_of_lt_of_le (by simp) B.size;have l1:w.heap.size+1<w1.heap.size:=B.size;obtain⟨R0,R1,R2,R3,R4,hgl,Q0,T4⟩:=HC.out _ B.keeps)|(go_at_call 123;have HX:=fR;clear fR;refine(HX.out _ B.keeps).mono ?_;clear HX;rintro e w1 ⟨rfl,hk1⟩;(try clear A0);(try clear A1);(try clear C0);(try clear C1);(try clear zA);(try clear zC);(try clear l0);(try clear l1);(try clear R0);(try clear R1);(try clear R2);(try clear R3);(try clear R4);(try clear hgl);(try clear Q0);(try clear T4);replace B:=B.on hk1;clear hk1;have A0:=B.A0;have A1:=B.A1;have C0:=B.C0;have C1:=B.C1;have zA:=B.zA;have zC:=B.zC;have l0:w.heap.size<w1.heap.size:=Nat.lt_of_lt_of_le (by simp) B.size;have l1:w.heap.size+1<w1.heap.size:=B.size;obtain⟨R0,R1,R2,R3,R4,hgl,Q0,T4⟩:=HC.out _ B.keeps)|(go_at_call 119;refine(dG.out _ B.keeps).mono ?_;rintro e w1 ⟨rfl,hk1⟩;(try clear A0);(try clear A1);(try clear C0);(try clear C1);(try clear zA);(try clear zC);(try clear l0);(try clear l1);(try clear R0);(try clear R1);(try clear R2);(try clear R3);(try clear R4);(try clear hgl);(try clear Q0);(try clear T4);replace B:=B.on hk1;clear hk1;have A0:=B.A0;have A1:=B.A1;have C0:=B.C0;have C1:=B.C1;have zA:=B.zA;have zC:=B.zC;have l0:w.heap.size<w1.heap.size:=Nat.lt_of_lt_of_le (by simp) B.size;have l1:w.heap.size+1<w1.heap.size:=B.size;obtain⟨R0,R1,R2,R3,R4,hgl,Q0,T4⟩:=HC.out _ B.keeps)|(go_at_call 130;refine(gE.out _ B.keeps).mono ?_;rintro e w1 ⟨rfl,hk1⟩;(try clear A0);(try clear A1);(try clear C0);(try clear C1);(try clear zA);(try clear zC);(try clear l0);(try clear l1);(try clear R0);(try clear R1);(try clear R2);(try clear R3);(try clear R4);(try clear hgl);(try clear Q0);(try clear T4);replace B:=B.on hk1;clear hk1;have A0:=B.A0;have A1:=B.A1;have C0:=B.C0;have C1:=B.C1;have zA:=B.zA;have zC:=B.zC;have l0:w.heap.size<w1.heap.size:=Nat.lt_of_lt_of_le (by simp) B.size;have l1:w.heap.size+1<w1.heap.size:=B.size;obtain⟨R0,R1,R2,R3,R4,hgl,Q0,T4⟩:=HC.out _ B.keeps)|(go_at_call 120;have HX:=kR;clear kR;go_loud(refine(HX.out _ B.keeps).mono ?_);clear HX;rintro e w1 ⟨v2,rfl,-,hk1⟩;(try clear A0);(try clear A1);(try clear C0);(try clear C1);(try clear zA);(try clear zC);(try clear l0);(try clear l1);(try clear R0);(try clear R1);(try clear R2);(try clear R3);(try clear R4);(try clear hgl);(try clear Q0);(try clear T4);replace B:=B.on hk1;clear hk1;have A0:=B.A0;have A1:=B.A1;have C0:=B.C0;have C1:=B.C1;have zA:=B.zA;have zC:=B.zC;obtain⟨R0,R1,R2,R3,R4,hgl,Q0,T4⟩:=HC.out _ B.keeps))
  go_cut [104]from 94 to 104 (fun x wx=>x=.bool false∧aa af w1 wx)
  case first =>
   have kr:aa af w1 w1:=aa.refl af w1
   have bh:aa af w1 w1.drew:=kr.drew
   have Bd:=B.on bh
   go_region_held3 (fun wz=>wz.cell? ⟨w.heap.size,0,none⟩=some (.slice (some ⟨g,off,none⟩) d.length c)∧wz.cell? ⟨w.heap.size,1,none⟩=some (.int .i64 room)∧aa af w1 wz) (first|exact⟨B.A0,B.A1,kr⟩|exact⟨Bd.A0,Bd.A1,bh⟩|exact⟨B6.A0,B6.A1,aR⟩|exact⟨fq.A0,fq.A1,fC⟩)
    (first|(go_at_call 26;refine(ep.out _ (B.keeps.trans (by assumption))).mono ?_;rintro e w6 ⟨rfl,cF⟩;have aR:aa af w1 w6:=aa.trans (by assumption) cF;have B6:=B.on aR;have fC:=aR.drew;have fq:=B.on fC;have qD:=B6.A0;have qE:=B6.A1))
   all_goals(go_wp2_with fail;go_meet;exact⟨by simp[hwi,mc,hr],by first|exact aR|exact aR.drew⟩)
  case rest =>
   obtain⟨rfl,aR⟩:=hcut
   replace B:=B.on aR
   (try clear A0);(try clear A1);(try clear C0);(try clear C1);(try clear zA);(try clear zC);(try clear l0);(try clear l1);(try clear R0);(try clear R1);(try clear R2);(try clear R3);(try clear R4);(try clear hgl);(try clear Q0);(try clear T4)
   clear aR ep hwi mc lp mb hr
   obtain⟨R0,R1,R2,R3,R4,hgl,Q0,T4⟩:=HC.out _ B.keeps
   have A0:=B.A0
   have A1:=B.A1
   have C0:=B.C0
   have C1:=B.C1
   have zA:=B.zA
   have zC:=B.zC
   go_upto_region 24 with(first|(go_at_call 124;go_loud(refine(HD.out _ wc.heap.size (B.keeps.alloc _) B.size (by simp)).mono ?_);rintro e w2 ⟨v2,rfl,hsl,hk2⟩;obtain⟨q2,m2,rfl,hsl⟩:=hsl;have NB:=pH hk2;have Bs:=B.size;have qC:=(B.keeps.alloc _).trans hk2;replace B:=(B.on ((aa.refl af _).alloc _)).on hk2;(try clear A0);(try clear A1);(try clear C0);(try clear C1);(try clear zA);(try clear zC);(try clear l0);(try clear l1);(try clear R0);(try clear R1);(try clear R2);(try clear R3);(try clear R4);(try clear hgl);(try clear Q0);(try clear T4);have A0:=B.A0;have A1:=B.A1;have C0:=B.C0;have C1:=B.C1;have zA:=B.zA;have zC:=B.zC;have N0:=NB.N0;have N1:=NB.N1;have N2:=NB.N2;have N3:=NB.N3;have N4:=NB.N4;have zN:=NB.zN;have nA:¬w.heap.size=wc.heap.size:=(by omega);have rE:¬wc.heap.size=w.heap.size:=(by omega);have hz2:wc.heap.size<w2.heap.size:=dm N0)|(go_at_call 121;go_loud(refine(HP.out w2 _ wc.heap.size qC Bs (by simpa using hz2) ((oM.out w2 _ qC Bs).var (cB w2 ⟨wc.heap.size,4,none⟩ _) (fun b hb=>.inr (.inr hb))) q2 m2 (hsl.vl (cB w2 ⟨wc.heap.size,4,none⟩ _) (fun b hb=>.inr (.inr hb)))).mono ?_);rintro e w4 ⟨p3,c3,rfl,eU,bB⟩;replace NB:=(NB.AO (.slice q2 ne.length m2)).on bB;replace B:=(B.set Bs 4 (.slice q2 ne.length m2)).on bB;(try clear N0 N1 N2 N3 N4 zN);(try clear A0);(try clear A1);(try clear C0);(try clear C1);(try clear zA);(try clear zC);(try clear l0);(try clear l1);(try clear R0);(try clear R1);(try clear R2);(try clear R3);(try clear R4);(try clear hgl);(try clear Q0);(try clear T4);have A0:=B.A0;have A1:=B.A1;have C0:=B.C0;have C1:=B.C1;have zA:=B.zA;have zC:=B.zC))
   have kA:=(cB w4 ⟨w.heap.size,0,none⟩ (.slice p3 d.length c3)).trans (cB _ ⟨w.heap.size,1,none⟩ (.int .i64 room))
   have B5:=B.xx (p':=p3) (n':=d.length) (c':=c3) (room':=room)
   have N5:=NB.keep kA rE
   have tJ:=eU.var kA (fun b hb=>.inl hb)
   have EE:=dm N5.N0
   (try clear A0);(try clear A1);(try clear C0);(try clear C1);(try clear zA);(try clear zC);(try clear l0);(try clear l1);(try clear R0);(try clear R1);(try clear R2);(try clear R3);(try clear R4);(try clear hgl);(try clear Q0);(try clear T4)
   clear kA bB NB B eU hsl hk2 qC HP HD oM HC hz2
   generalize(w4.setCell ⟨w.heap.size,0,none⟩ (.slice p3 d.length c3)).setCell ⟨w.heap.size,1,none⟩ (.int .i64 room)=w5 at *
   obtain⟨g5,Ts,q5,m5,rfl,xz,jG⟩:=HT.out _ _ _ _ tJ
   have A0:=B5.A0
   have A1:=B5.A1
   have C0:=B5.C0
   have C1:=B5.C1
   have zA:=B5.zA
   have zC:=B5.zC
   have N0:=N5.N0
   have N1:=N5.N1
   have N2:=N5.N2
   have N3:=N5.N3
   have N4:=N5.N4
   have zN:=N5.zN
   have R0:=jG.c0
   have R1:=jG.c1
   have R2:=jG.c2
   have R3:=jG.c3
   have R4:=jG.c4
   have hgl:=jG.lt
   have nG:¬g5=wc.heap.size:=xz.2
   have EF:¬wc.heap.size=g5:=fun e=>nG e.symm
   go_upto_region 25 with(fail)
   change Code.wp _ _ _ _ (l9 w5 wc.heap.size 0 (.int .i64 (nd dH (T:Int)).kind) (.int .i64 (nd dH (T:Int)).mode) (.int .i64 (nd dH (T:Int)).holds) (.string (nd dH (T:Int)).data) (.slice q5 (nd dH (T:Int)).ah.length m5))
   have k5:=EG w5 wc.heap.size 0 (.int .i64 (nd dH (T:Int)).kind) (.int .i64 (nd dH (T:Int)).mode) (.int .i64 (nd dH (T:Int)).holds) (.string (nd dH (T:Int)).data) (.slice q5 (nd dH (T:Int)).ah.length m5)
   have N6:=N5.l9 (.int .i64 (nd dH (T:Int)).kind) (.int .i64 (nd dH (T:Int)).mode) (.int .i64 (nd dH (T:Int)).holds) (.string (nd dH (T:Int)).data) (.slice q5 (nd dH (T:Int)).ah.length m5)
   have B6:=B5.keep k5 nA (by omega) (fun b hb=>by omega)
   have EH:=tJ.var k5 (fun b hb=>.inr (.inr hb))
   have ve:=jG.sl.vl k5 (fun b hb=>.inr (.inr hb))
   have EI:=dm N6.N0
   (try clear A0);(try clear A1);(try clear C0);(try clear C1);(try clear zA);(try clear zC);(try clear l0);(try clear l1);(try clear R0);(try clear R1);(try clear R2);(try clear R3);(try clear R4);(try clear hgl);(try clear Q0);(try clear T4)
   clear N0 N1 N2 N3 N4 zN k5 N5 B5 tJ jG HT EE nG EF xz
   generalize l9 w5 wc.heap.size 0 (.int .i64 (nd dH (T:Int)).kind) (.int .i64 (nd dH (T:Int)).mode) (.int .i64 (nd dH (T:Int)).holds) (.string (nd dH (T:Int)).data) (.slice q5 (nd dH (T:Int)).ah.length m5)=w6 at *
   have A0:=B6.A0
   have A1:=B6.A1
   have C0:=B6.C0
   have C1:=B6.C1
   have zA:=B6.zA
   have zC:=B6.zC
   have N0:=N6.N0
   have N1:=N6.N1
   have N2:=N6.N2
   have N3:=N6.N3
   have N4:=N6.N4
   have zN:=N6.zN
   go_wp2_with(first|(go_at_call 120;go_loud(refine(HS.out w6 wc.heap.size Bs EI q5 m5 ve).mono ?_);rintro e w7 ⟨v7,rfl,tK,iE⟩;obtain⟨q7,m7,rfl,tK⟩:=tK;have N7:=N6.on iE;have B7:=B6.on iE;have EJ:=EH.ai iE;have EK:=dm N7.N0;(try clear A0);(try clear A1);(try clear C0);(try clear C1);(try clear zA);(try clear zC);(try clear l0);(try clear l1);(try clear R0);(try clear R1);(try clear R2);(try clear R3);(try clear R4);(try clear hgl);(try clear Q0);(try clear T4);clear N0 N1 N2 N3 N4 zN;have A0:=B7.A0;have A1:=B7.A1;have C0:=B7.C0;have C1:=B7.C1;have zA:=B7.zA;have zC:=B7.zC;have N0:=N7.N0;have N1:=N7.N1;have N2:=N7.N2;have N3:=N7.N3;have N4:=N7.N4;have zN:=N7.zN)|(go_at_call 121;go_loud(refine(HQ.out _ wc.heap.size Bs (by simpa using EK) _ _ (EJ.var (cB w7 ⟨wc.heap.size,4,none⟩ _) (fun b hb=>.inr (.inr hb))) q7 m7 (tK.vl (cB w7 ⟨wc.heap.size,4,none⟩ _) (fun b hb=>.inr (.inr hb)))).mono ?_);rintro e w8 ⟨p8,c8,rfl,pJ,fP⟩;have B8:=(B7.set Bs 4 (.slice q7 ns.length m7)).on fP;have N8:=(N7.AO (.slice q7 ns.length m7)).on fP;have Lu:=dm N8.N0;(try clear A0);(try clear A1);(try clear C0);(try clear C1);(try clear zA);(try clear zC);(try clear l0);(try clear l1);(try clear R0);(try clear R1);(try clear R2);(try clear R3);(try clear R4);(try clear hgl);(try clear Q0);(try clear T4);clear N0 N1 N2 N3 N4 zN;have A0:=B8.A0;have A1:=B8.A1;have C0:=B8.C0;have C1:=B8.C1;have zA:=B8.zA;have zC:=B8.zC))
   (try simp only[Exit.inBlock,Exit.then])
   refine bodyPost_ret (v:=.tuple #[.agg #[.slice p8 d.length c8,.int .i64 room],.int .i64 0]) ?_ rfl ?_
   ·rw[results_cell_tmp rfl]
    go_simp
   ·have hz:=dP (room:=room) (err:=0) ((pJ.var ((cB w8 ⟨w.heap.size,0,none⟩ (.slice p8 d.length c8)).trans (cB _ ⟨w.heap.size,1,none⟩ (.int .i64 room))) (fun b hb=>.inl hb)).Lt) (B8.xx (p':=p8) (n':=d.length) (c':=c8) (room':=room)).keeps (.slice p8 d.length c8) (.int .i64 room)
    unfold aE at hz
    rw[vm.out]at hz
    exact hz
end
set_option maxRecDepth 100000
set_option maxHeartbeats 1000000
section
variable{S:Nat->Prop} {w:World} {p:Option Addr} {c:Nat} {d:ag} {room:Int}
theorem TY (h:aI S w p c d) (hS:∀g,w.heap.size<=g->S g) (hI:aG d) (hcl:bK d) (hs:aP d) (f:Int) (name:ByteArray) (t:Int) (other:ByteArray) (hos:other.size<=maxLen) :
 Calls Tryz.prog 93 #[aE p c d room,.int .i64 f,.string name,.int .i64 t,.string other] w (eH S w (iJ d room f name t other) room (jA d room f name t other)):=by
 by_cases c0:bH d f name=0
 case neg =>
  rw[qX (by rw[wh c0];exact c0),wh c0]
  have:=Ln (room:=room) h hI hs f name t other (.inl c0)
  rw[if_pos c0]at this
  exact this
 case pos =>
 by_cases c1:aO d t=0
 case neg =>
  rw[qX (by rw[wj c0 c1];exact c1),wj c0 c1]
  have:=Ln (room:=room) h hI hs f name t other (.inr c1)
  rw[if_neg (by simpa using c0)]at this
  exact this
 case pos =>
 by_cases c2:(nd d (aN d f name)).kind=2∧cU d (aN d f name) t
 ·rw[qX (by rw[wo c0 c1 c2];decide),wo c0 c1 c2]
  exact Tq h hI hs f name t other _ c0 rfl c1 c2.1 c2.2
 ·have e2:=CH (room:=room) (other:=other) c0 c1 c2
  have fE:(nd d (aN d f name)).kind=2->¬cU d (aN d f name) t:=fun h2 ha=>c2 ⟨h2,ha⟩
  obtain⟨f0,hget⟩:=mI c0
  obtain⟨hf,dS⟩:=fD f0
  obtain⟨ht,cy⟩:=fD c1
  cases ho:bk (nd d t).ah other with
  | none =>
    have ke:bu (nd d t).ah other=false:=by rw[<- ox,ho];rfl
    have hE:l5 d room t other name (aN d f name)=lZ d room t other name:=by unfold l5;rw[ho]
    rw[hE]at e2
    have hM:lZ d room t other name=if bw (nd d t).ah other≠0 then bw (nd d t).ah other else if room-used d<(other.size:Int)-name.size then 20 else 0:=if_neg (by rw[ke];decide)
    by_cases hp:bw (nd d t).ah other=0
    case neg =>
     rw[if_pos hp]at hM
     rw[qX (by rw[e2,hM];exact hp),e2,hM]
     exact Tu h hS hI hs f name t other _ hos c0 rfl c1 fE ho hp
    case pos =>
     rw[if_neg (by simpa using hp)]at hM
     by_cases hr:room-used d<(other.size:Int)-name.size
     ·rw[if_pos hr]at hM
      rw[qX (by rw[e2,hM];decide),e2,hM]
      exact Tv h hS hI hs f name t other _ hos c0 rfl c1 fE ho hp (by omega)
     ·rw[if_neg hr]at hM
      have hD:iJ d room f name t other=gc (bL d f name t other (aN d f name)):=if_pos ⟨by rw[e2,hM],by rw[ho];simp⟩
      rw[hD,e2,hM]
      exact Tw h hS hI hcl hs f name t other _ hos c0 rfl c1 fE ho hp (by omega)
  | some old =>
    by_cases c3:old=aN d f name
    ·have hE:l5 d room t other name (aN d f name)=0:=by unfold l5;rw[ho];exact if_pos c3
     have hD:iJ d room f name t other=d:=if_neg (fun h=>h.2 (by rw[ho,c3]))
     rw[hD,e2,hE]
     have:=Lp (room:=room) h hI hs f name t other _ old c0 rfl c1 fE ho (.inl c3)
     rw[if_pos c3]at this
     exact this
    ·have hE:l5 d room t other name (aN d f name)=mZ d (aN d f name) old:=by unfold l5;rw[ho];exact if_neg c3
     by_cases c4:mZ d (aN d f name) old=0
     ·have hne:bk (nd d t).ah other≠some (aN d f name):=by rw[ho];simpa using c3
      have hD:iJ d room f name t other=gc (bL d f name t other (aN d f name)):=if_pos ⟨by rw[e2,hE,c4],hne⟩
      rw[hD,e2,hE,c4]
      have M:cE d f name t other (aN d f name):=cE.mk' hI dS cy hget hne (fun h=>by rw[kX ho]at h;cases h) fE
      exact Tr h hS hI hcl hs f name t other _ old c0 rfl c1 M ho c3 c4
     ·rw[qX (by rw[e2,hE];exact c4),e2,hE]
      have:=Lp (room:=room) h hI hs f name t other _ old c0 rfl c1 fE ho (.inr c4)
      rw[if_neg c3]at this
      exact this
end
set_option maxRecDepth 100000
set_option maxHeartbeats 1000000
structure Jo where
 kind:Int
 a:Int
 b:Int
 s:ByteArray
 t:ByteArray
-- the anchor's disks
set_option maxRecDepth 100000
set_option maxHeartbeats 2000000
noncomputable def Ds (d:ag) (room:Int) (o:Jo):ag :=
 if o.kind=1 then iq d room o.a o.b o.s else if o.kind=2 then eJ d o.a else if o.kind=3 then eZ d o.a else if o.kind=4 then oo d o.a o.b else if o.kind=5 then iy d room o.a o.b o.s
 else if o.kind=6 then dD d o.a else if o.kind=7 then bM d room o.a o.s o.b else if o.kind=8 then iU d o.a o.s else if o.kind=9 then iJ d room o.a o.s o.b o.t else d
section
variable{N:Nat->Prop} {w:World} {a:Nat} {d:ag} {p:Option Addr} {c:Nat} {room:Int}
end
set_option maxRecDepth 100000
set_option maxHeartbeats 2000000
section
variable{N:Nat->Prop} {w:World} {a:Nat} {d:ag} {p:Option Addr} {c:Nat} {room:Int}
end
theorem Dt (d:ag):aH (gc d)<=aH d:=(rN d).aH
theorem QM {d:ag} (hI:aG d) (room:Int) (o:Jo):aH (Ds d room o)<=aH d+2:=by
 have cA:∀i n,has d i->bJ n<=bJ (nd d i)+1->aH (aX d i n)<=aH d+1:=fun i n hi hm=>by
  have:=oh (n:=n) hi
  omega
 unfold Ds
 split
 ·unfold iq
  split
  ·have:=uk bJ d (aU o.a o.b o.s)
   have e:bJ (aU o.a o.b o.s)=2:=rfl
   unfold aH
   omega
  ·omega
 split
 ·unfold eJ
  split
  ·next hi =>
   have:=cA o.a ((nd d o.a).bT ((nd d o.a).holds+1)) hi (by unfold bJ;simp only[Nd.bT];omega)
   unfold kW
   omega
  ·omega
 split
 ·unfold eZ
  split
  ·next he =>
   have hi:has d o.a:=by
    unfold gq at he
    split at he
    ·cases he
    ·next h=>exact h
   have:=cA o.a ((nd d o.a).bT ((nd d o.a).holds-1)) hi (by unfold bJ;simp only[Nd.bT];omega)
   have:=Dt (gG d o.a)
   unfold gG at *
   omega
  ·omega
 split
 ·unfold oo
  split
  ·next he =>
   have hi:has d o.a:=by
    unfold ic at he
    split at he
    ·cases he
    ·next h=>exact h
   have:=cA o.a ((nd d o.a).gS o.b) hi (by unfold bJ;simp only[Nd.gS];omega)
   unfold mS
   omega
  ·omega
 split
 ·unfold iy
  split
  ·next he =>
   have hi:has d o.a:=by
    have h1:=he.1
    unfold iK at h1
    split at h1
    ·next e=>exact absurd h1 e
    ·next e=>exact(m8 (Classical.not_not.1 e)).1
   have:=cA o.a (iw (nd d o.a) o.b.toNat o.s) hi (by unfold bJ iw;simp only[Nd.dN];omega)
   omega
  ·omega
 split
 ·unfold dD
  split
  ·next he =>
   have hi:=(m8 he).1
   have:=cA o.a ((nd d o.a).dN ⟨#[]⟩) hi (by unfold bJ;simp only[Nd.dN];omega)
   unfold jY
   omega
  ·omega
 split
 ·unfold bM
  split
  ·next he =>
   have hf:aO d o.a=0:=by
    unfold cH at he
    split at he
    ·next e=>exact absurd he e
    ·next e=>exact Classical.not_not.1 e
   have hi:=(fD hf).1
   have hp:bw (nd d o.a).ah o.s=0:=by
    unfold cH at he
    rw[if_neg (by simpa using hf)]at he
    split at he;· cases he
    split at he;· cases he
    split at he;· cases he
    split at he
    ·next e=>exact absurd he e
    ·next e=>exact Classical.not_not.1 e
   have:=Bp (k:=o.b) hi hp
   omega
  ·omega
 split
 ·unfold iU
  split
  ·next he =>
   have h0:bH d o.a o.s=0:=by
    unfold gF at he
    split at he
    ·next e=>exact absurd he e
    ·next e=>exact Classical.not_not.1 e
   obtain⟨f0,hg⟩:=mI h0
   have:=ur hI (fD f0).1 hg
   have:=Dt (aZ d o.a o.s)
   omega
  ·omega
 split
 ·unfold iJ
  split
  ·next he =>
   obtain⟨he,hne⟩:=he
   have h0:bH d o.a o.s=0:=by
    refine Classical.byContradiction fun h=>?_
    rw[wh h]at he;exact h he
   have h1:aO d o.b=0:=by
    refine Classical.byContradiction fun h=>?_
    rw[wj h0 h]at he;exact h he
   have h2:¬((nd d (aN d o.a o.s)).kind=2∧cU d (aN d o.a o.s) o.b):=fun h=>by
    rw[wo h0 h1 h]at he;cases he
   rw[CH h0 h1 h2]at he
   obtain⟨f0,hg⟩:=mI h0
   have M:cE d o.a o.s o.b o.t (aN d o.a o.s):=cE.mk' hI (fD f0).2 (fD h1).2 hg hne (fun hh=>by
    have hn:bk (nd d o.b).ah o.t=none:=by
     cases hx:bk (nd d o.b).ah o.t with
     | none=>rfl
     | some y=>rw[kX hx]at hh;cases hh
    unfold l5 at he
    rw[hn]at he
    unfold lZ at he
    rw[hh]at he
    simp only[Bool.false_eq_true,if_false]at he
    split at he
    ·next e=>exact absurd he e
    ·next e=>exact Classical.not_not.1 e) (fun hk ha=>h2 ⟨hk,ha⟩)
   have:=M.aH
   have:=Dt (bL d o.a o.s o.b o.t (aN d o.a o.s))
   omega
  ·omega
 ·omega
set_option maxRecDepth 100000
theorem cJ.sub {d d':ag} (k:cJ d d') {j:Int} {e:aD} (h:e∈(nd d' j).ah):e∈(nd d j).ah:=by
 induction k with
 | refl=>exact h
 | step i hi _ ih =>
   have h1:=ih h
   rw[kT hi.1]at h1
   split at h1
   ·cases h1
   ·exact h1
theorem NY (d:ag) (i:Int) (nm:ByteArray):(iU d i nm).length=d.length:=by
 unfold iU
 split
 ·rw[(rN _).length];unfold aZ;exact j4 _ _ _
 ·rfl
end Go.Proofs.YtnanhmfpikddkaaGreatDoor
namespace Go.Proofs.YtnanhmfpikddkaaGreatDoor
def KK (d d':ag):Prop:=d.length<=d'.length∧∀j:Int,j<d.length->(nd d' j).kind=0∨(nd d' j).kind=(nd d j).kind
def uM (d:ag) (at':Int):Prop:=at'<d.length∧((nd d at').kind=0∨(nd d at').kind=2)
section
variable{d d' d'':ag} {room:Int}
theorem KK.refl (d:ag):KK d d:=⟨Nat.le_refl _,fun _ _=>.inr rfl⟩
theorem KK.trans (h:KK d d') (k:KK d' d''):KK d d'':=⟨Nat.le_trans h.1 k.1,fun j hj=>by
 rcases k.2 j (by have:=h.1;omega)with e|e
 ·exact .inl e
 ·rcases h.2 j hj with f|f
  ·exact .inl (by rw[e,f])
  ·exact .inr (by rw[e,f])⟩
theorem uM.kk {at':Int} (h:uM d at') (k:KK d d'):uM d' at':=⟨by have:=h.1;have:=k.1;omega,by
 rcases k.2 at' h.1 with e|e
 ·exact .inl e
 ·rw[e];exact h.2⟩
theorem Dq (n:Nd):KK d (d++[n]):=⟨by simp,fun j hj=>.inr (by rw[iI,if_neg (by omega)])⟩
theorem uN (hl:d'.length=d.length) (h:gY d d'):KK d d':=⟨by omega,fun j _=>(h j).elim .inl (fun e=>.inr e.1)⟩
theorem Dr (i:Int):KK d (eZ d i):=by
 refine⟨by rw[FN];omega,fun j _=>?_⟩
 unfold eZ
 split
 ·next he =>
  have hi:has d i:=fun e=>by unfold gq at he;rw[if_pos e]at he;cases he
  rcases wI (gG d i) j with e|⟨e,_⟩
  ·exact .inl e
  ·refine .inr ?_
   rw[e,yq hi]
   split
   ·next e=>subst e;rfl
   ·rfl
 ·exact .inr rfl
theorem zZ (i:Int) (name:ByteArray) (k:Int):KK d (bM d room i name k):=uN Bo (uL _ _ _)
theorem Jk (p:aJ) (kind m:Int) (s:ByteArray):KK d (gV d room p kind m s).1:=by
 unfold gV
 split
 ·exact KK.refl d
 ·exact((Dq _).trans (zZ _ _ _)).trans (Dr _)
theorem Qy (at' mask:Int) (s:ByteArray) (m:Int):KK d (gz d room at' mask s m).1:=by
 unfold gz
 split
 ·exact KK.refl d
 ·exact Jk _ _ _ _
theorem Qz (at':Int) (t s:ByteArray):KK d (kg d room at' t s).1:=by
 unfold kg
 split
 ·exact KK.refl d
 ·split
  ·exact KK.refl d
  ·exact Jk _ _ _ _
theorem QA (at':Int) (o s:ByteArray):KK d (kH d room at' o s).1:=by
 unfold kH
 repeat(first|exact KK.refl d|exact zZ _ _ _|split)
theorem Jl (at':Int) (s:ByteArray) (folder:Bool):KK d (eI d at' s folder).1:=by
 unfold eI
 split
 ·exact KK.refl d
 ·exact uN (NY _ _ _) (Jc _ _)
theorem QC (f:Int) (name:ByteArray) (t:Int) (other:ByteArray):(iJ d room f name t other).length=d.length:=by
 unfold iJ
 split
 ·rw[(rN _).length]
  unfold bL aZ eM
  rw[j4,j4]
 ·rfl
theorem QD (at':Int) (a b:ByteArray):KK d (jr d room at' a b).1:=by
 unfold jr
 repeat(first|exact KK.refl d|exact uN (QC _ _ _ _) (Ji _ _ _ _)|split)
theorem QE (i m:Int):(oo d i m).length=d.length:=by
 unfold oo mS
 split
 ·exact jl _ _ _
 ·rfl
theorem QF (at':Int) (s:ByteArray) (m:Int):KK d (kI d at' s m).1:=by
 unfold kI
 split
 ·exact KK.refl d
 ·exact uN (QE _ _) (Jd _ _)
theorem Jm (i:Int):KK d (eJ d i):=by
 unfold eJ
 split
 ·next hi =>
  refine⟨by unfold kW;rw[jl];omega,fun j _=>.inr ?_⟩
  unfold kW
  rw[gu (bF hi).1 (bF hi).2]
  split
  ·next e=>subst e;rfl
  ·rfl
 ·exact KK.refl d
theorem QG (i:Int):KK d (dD d i):=by
 refine uN ?_ (Dp i)
 unfold dD jY
 split
 ·exact jl _ _ _
 ·rfl
theorem QH (i x:Int) (s:ByteArray):KK d (iy d room i x s):=by
 refine uN ?_ (Je _ _ _)
 unfold iy
 split
 ·exact jl _ _ _
 ·rfl
theorem QI (mask:Int) (p:aJ) (s:ByteArray) (flags m:Int):KK d (fL d room mask p s flags m).1:=by
 unfold fL
 repeat(first|exact KK.refl d|exact((Dq _).trans (zZ _ _ _)).trans (Dr _)|exact(Dq _).trans (zZ _ _ _)|split)
theorem QJ (id flags:Int):KK d (fM d id flags).1:=by
 unfold fM
 split
 ·exact KK.refl d
 ·show KK d (eJ (if bg flags 8=true then dD d id else d) id)
  split
  ·exact(QG _).trans (Jm _)
  ·exact Jm _
theorem QK (at' mask:Int) (s:ByteArray) (flags m:Int):KK d (jc d room at' mask s flags m).1:=by
 unfold jc
 repeat(first|exact KK.refl d|exact QI _ _ _ _ _|exact QJ _ _|split)
theorem QL (hI:aG d) (f:Int) (nm:ByteArray) (t:Int) (o:ByteArray):aH (iJ d room f nm t o)<=aH d+2:=by
 have h:=QM hI room ⟨9,f,t,nm,o⟩
 unfold Ds at h
 rw[if_neg (show ¬(9:Int)=1 by decide),if_neg (show ¬(9:Int)=2 by decide),if_neg (show ¬(9:Int)=3 by decide),if_neg (show ¬(9:Int)=4 by decide),if_neg (show ¬(9:Int)=5 by decide),if_neg (show ¬(9:Int)=6 by decide),if_neg (show ¬(9:Int)=7 by decide),if_neg (show ¬(9:Int)=8 by decide),if_pos (show(9:Int)=9 by decide)]at h
 exact h
theorem QN (hI:aG d) (at':Int) (a b:ByteArray):aH (jr d room at' a b).1<=aH d+2:=by
 unfold jr
 have hm:∀f nm t o,aH (iJ d room f nm t o)<=aH d+2:=fun f nm t o=>QL hI f nm t o
 repeat(first|exact Nat.le_add_right _ _|exact hm _ _ _ _|split)
end
end Go.Proofs.YtnanhmfpikddkaaGreatDoor
set_option maxHeartbeats 4000000
namespace Go.Proofs.YtnanhmfpikddkaaGreatDoor
open Go Go.RowKit
structure SD (B:Nat->Prop) (w:World) (F a:Nat) (dp:ag) (room calls fail:Int) (p:Option Addr) (c:Nat) (dr:ag):Prop where
 ex:∃N:Nat->Prop,(∀g,B g->N g)∧aY N w F a dp room calls fail∧aI (fun g=>N g∧¬B g) w p c dr
section
variable{B B':Nat->Prop} {w w':World} {F a:Nat} {dp dr d':ag} {room calls calls' fail:Int} {p:Option Addr} {c:Nat}
theorem SD.low (h:SD B w F a dp room calls fail p c dr) (g:Nat) (hg:B g):g<w.heap.size:=by
 obtain⟨N,h1,h2,_⟩:=h.ex
 exact h2.low g (h1 g hg)
theorem SD.inv (h:SD B w F a dp room calls fail p c dr):aG dp:=by obtain⟨N,_,h2,_⟩:=h.ex;exact h2.pd.inv
theorem SD.clean (h:SD B w F a dp room calls fail p c dr):bK dp:=by obtain⟨N,_,h2,_⟩:=h.ex;exact h2.pd.clean
theorem SD.small (h:SD B w F a dp room calls fail p c dr):aP dp:=by obtain⟨N,_,h2,_⟩:=h.ex;exact h2.pd.small
theorem SD.cap (h:SD B w F a dp room calls fail p c dr):dr.length<=c:=by obtain⟨N,_,_,h3⟩:=h.ex;exact h3.cap
theorem SD.max (h:SD B w F a dp room calls fail p c dr):c<=maxLen:=by obtain⟨N,_,_,h3⟩:=h.ex;exact h3.max
theorem SD.more {G:Nat->Prop} (h:SD B w F a dp room calls fail p c dr) (k:aa G w w') (hG:∀g,g<w.heap.size->G g->B g) (hB:∀g,B' g->B g∨(w.heap.size<=g∧g<w'.heap.size)):SD B' w' F a dp room calls fail p c dr:=by
 obtain⟨N,h1,h2,h3⟩:=h.ex
 have k2:aa B w w':=k.mono (fun g hg hx=>hG g hg hx)
 have h4:=h2.keep k2 h1
 have hl:=h2.lt
 refine⟨fun g=>N g∨(w.heap.size<=g∧g<w'.heap.size),fun g hg=>(hB g hg).elim (fun h=>.inl (h1 g h)) .inr,⟨h2.pd.grow k2 (fun x _ hx=>.inl (h1 x hx)) (fun x hx=>?_),fun hx=>hx.elim h2.mX (fun e=>by omega),h4.c0,h4.c1,h4.c2,h4.fz⟩,h3.cN k2 (fun g hg _ hx=>hg.2 hx) (fun g hg hl2=>⟨.inl hg.1,fun hx=>(hB g hx).elim hg.2 (fun h=>by omega)⟩)⟩
 rcases hx with(hx|hx)|rfl
 ·exact .inl (.inl hx)
 ·exact .inr hx
 ·exact .inl (.inr rfl)
theorem SD.on (h:SD B w F a dp room calls fail p c dr) (k:aa af w w'):SD B w' F a dp room calls fail p c dr:=h.more k (fun _ _ hx=>hx.elim) (fun _ hg=>.inl hg)
theorem SD.turn {G:Nat->Prop} (h:SD B w F a dp room calls fail p c dr) (k:aa G w w') (hG:∀g,g<w.heap.size->G g->B g):SD B w' F a dp room calls fail p c dr:=h.more k hG (fun _ hg=>.inl hg)
theorem SD.less (h:SD B w F a dp room calls fail p c dr) (hB:∀g,B' g->B g):SD B' w F a dp room calls fail p c dr:=by
 obtain⟨N,h1,h2,h3⟩:=h.ex
 exact⟨N,fun g hg=>h1 g (hB g hg),h2,h3.cN (aa.refl af w) (fun _ _ _ h=>h) (fun g hg _=>⟨hg.1,fun hx=>hg.2 (hB g hx)⟩)⟩
def Ab (B:Nat->Prop) (w:World) (F a:Nat) (d':ag) (room calls' fail:Int) (p:Option Addr) (c:Nat) (dr:ag) (V:Value):Ending->World->Prop:=fun e w' =>
 e=.returned V∧SD B w' F a d' room calls' fail p c dr∧aa (fun g=>¬B g) w w'
theorem SD.prog {f:Nat} {args:Array Value} {V:Value} (h:SD B w F a dp room calls fail p c dr) (hc:∀N:Nat->Prop,aY N w F a dp room calls fail->Calls Tryz.prog f args w (lz N w F a d' room calls' fail V)) :
 Calls Tryz.prog f args w (Ab B w F a d' room calls' fail p c dr V):=by
 obtain⟨N,h1,h2,h3⟩:=h.ex
 refine(hc N h2).mono ?_
 rintro e w' ⟨rfl,h4,h5⟩
 exact⟨rfl,⟨N,h1,h4,h3.cN h5 (fun g hg _ hx=>hx hg.1) (fun g hg _=>hg)⟩,h5.mono (fun g _ hg hn=>hg (h1 g hn))⟩
theorem SD.asks {f:Nat} {args:Array Value} {Q:Ending->World->Prop} (h:SD B w F a dp room calls fail p c dr) (hc:∀N:Nat->Prop,aY N w F a dp room calls fail->Calls Tryz.prog f args w Q):Calls Tryz.prog f args w Q:=by
 obtain⟨N,_,h2,_⟩:=h.ex
 exact hc N h2
theorem SD.Dz {f:Nat} {args:Array Value} {Q:Ending->World->Prop} (h:SD B w F a dp room calls fail p c dr) (hc:∀S:Nat->Prop,aI S w p c dr->Calls Tryz.prog f args w Q):Calls Tryz.prog f args w Q:=by
 obtain⟨N,_,_,h3⟩:=h.ex
 exact hc _ h3
def oH (B:Nat->Prop) (w:World) (F a:Nat) (dp:ag) (room calls fail:Int) (d':ag) (V:Option Addr->Nat->Value):Ending->World->Prop:=fun e w' =>
 ∃p' c',e=.returned (V p' c')∧SD B w' F a dp room calls fail p' c' d'∧aa af w w'
theorem SD.ref {f:Nat} {args:Array Value} {V:Option Addr->Nat->Value} (h:SD B w F a dp room calls fail p c dr)
 (hc:∀S:Nat->Prop,aI S w p c dr->(∀g,w.heap.size<=g->S g)->Calls Tryz.prog f args w fun e w'=>∃p' c',e=.returned (V p' c')∧aI S w' p' c' d'∧aa af w w') :
 Calls Tryz.prog f args w (oH B w F a dp room calls fail d' V):=by
 have hlow:=h.low
 obtain⟨N,h1,h2,h3⟩:=h.ex
 refine(hc (fun g=>(N g∨w.heap.size<=g)∧¬B g) (h3.cN (aa.refl af w) (fun _ _ _ h=>h) (fun g hg _=>⟨.inl hg.1,hg.2⟩)) (fun g hg=>⟨.inr hg,fun hx=>by have:=hlow g hx;omega⟩)).mono ?_
 rintro e w' ⟨p',c',rfl,h4,h5⟩
 obtain⟨N1,g1,g2,g3⟩:=h2.wider h5
 exact⟨p',c',rfl,⟨N1,fun g hg=>g1 g (h1 g hg),g3,h4.cN (aa.refl af w') (fun _ _ _ h=>h) (fun g hg hl=>⟨hg.1.elim (g1 g) (fun h=>g2 g h hl),hg.2⟩)⟩,h5⟩
theorem SD.r6 {cr:Int} (h:SD B w F a dp room calls fail p c dr) (hI:aG dr) (hcl:bK dr) (ke:NH dr) (hms:aH dr+8<=2147483648) (hc0:0<=cr) (hc1:cr<=4611686018427387904):∃S:Nat->Prop,R6 S w p c dr cr:=by
 have hlow:=h.low
 obtain⟨N,h1,h2,h3⟩:=h.ex
 exact⟨fun g=>(N g∨w.heap.size<=g)∧¬B g,h3.cN (aa.refl af w) (fun _ _ _ h=>h) (fun g hg _=>⟨.inl hg.1,hg.2⟩),fun g hg=>⟨.inr hg,fun hx=>by have:=hlow g hx;omega⟩,hI,hcl,ke,hms,hc0,hc1⟩
theorem SD.su {f:Nat} {args:Array Value} {X:ag × Int} {cr qx:Int} (h:SD B w F a dp room calls fail p c dr) (hI:aG dr) (hcl:bK dr) (ke:NH dr) (hms:aH dr+8<=2147483648) (hc0:0<=cr) (hc1:cr<=4611686018427387904)
 (hc:∀S:Nat->Prop,R6 S w p c dr cr->Calls Tryz.prog f args w (l8 S w X room qx fail)) :
 Calls Tryz.prog f args w (oH B w F a dp room calls fail X.1 (fun p' c'=>.tuple #[fV p' c' X.1.length room qx fail,.int .i64 X.2])) :=
 h.ref fun S hr hS=>hc S ⟨hr,hS,hI,hcl,ke,hms,hc0,hc1⟩
end
structure Sd (B:Nat->Prop) (w:World) (B0 F a:Nat) (p:Option Addr) (c:Nat) (d:ag) (room calls fail at' mask:Int) (k:Nat):Prop where
 sd:SD B w F a d room calls fail p c d
 nb:B B0
 bx:Bk w B0 [.pointer (some ⟨F,0,none⟩),.int .i64 at',.int .i64 mask,.slice p d.length c,.int .i64 room,.int .i64 calls,.int .i64 fail,.int .i64 at',.int .i64 mask]
 nh:NH d
 usr:uM d at'
 m0:0<=mask
 m1:mask<=511
 ms:aH d<=2+4*k
 c0:0<=calls
 c1:calls<=2*k
section
variable{B B':Nat->Prop} {w w':World} {B0 F a:Nat} {d:ag} {room calls fail at' mask:Int} {p:Option Addr} {c k:Nat}
theorem Sd.more {G:Nat->Prop} (h:Sd B w B0 F a p c d room calls fail at' mask k) (kp:aa G w w') (hG:∀g,g<w.heap.size->G g->B g) (h0:¬G B0) (hB:∀g,B' g->B g∨(w.heap.size<=g∧g<w'.heap.size)) (hb:B' B0):Sd B' w' B0 F a p c d room calls fail at' mask k :=
 ⟨h.sd.more kp hG hB,hb,h.bx.keep kp h0,h.nh,h.usr,h.m0,h.m1,h.ms,h.c0,h.c1⟩
theorem Sd.on (h:Sd B w B0 F a p c d room calls fail at' mask k) (kp:aa af w w'):Sd B w' B0 F a p c d room calls fail at' mask k:=h.more kp (fun _ _ hx=>hx.elim) (fun h=>h) (fun _ hg=>.inl hg) h.nb
theorem Sd.turn {G:Nat->Prop} (h:Sd B w B0 F a p c d room calls fail at' mask k) (kp:aa G w w') (hG:∀g,g<w.heap.size->G g->B g) (h0:¬G B0):Sd B w' B0 F a p c d room calls fail at' mask k:=h.more kp hG h0 (fun _ hg=>.inl hg) h.nb
theorem Sd.less (h:Sd B w B0 F a p c d room calls fail at' mask k) (hB:∀g,B' g->B g) (hb:B' B0):Sd B' w B0 F a p c d room calls fail at' mask k:=⟨h.sd.less hB,hb,h.bx,h.nh,h.usr,h.m0,h.m1,h.ms,h.c0,h.c1⟩
end
section
variable{B:Nat->Prop} {w w':World} {B0 F a:Nat} {d:ag} {room calls fail at' mask:Int} {p:Option Addr} {c k:Nat}
theorem Sd.r6 (h:Sd B w B0 F a p c d room calls fail at' mask k) (hk:k<=100):∃S:Nat->Prop,R6 S w p c d calls :=
 h.sd.r6 h.sd.inv h.sd.clean h.nh (by have:=h.ms;omega) h.c0 (by have:=h.c1;omega)
end
def qy (B:Nat->Prop) (w:World) (B0 F a:Nat) (d':ag) (room calls' fail at' mask:Int) (k:Nat):Ending->World->Prop:=fun e w' =>
 ∃p' c',e=.returned (.bool true)∧Sd B w' B0 F a p' c' d' room calls' fail at' mask k∧aa (fun g=>¬B g∨g=B0) w w'
noncomputable def nj (room at' mask:Int) (d:ag) (o:jE):ag × Int :=
 if o.kind=1 then gz d room at' mask o.s o.m else if o.kind=2 then kg d room at' o.t o.s else if o.kind=3 then kH d room at' o.t o.s
 else if o.kind=4 then eI d at' o.s true else if o.kind=5 then eI d at' o.s false else if o.kind=6 then jr d room at' o.t o.s else kI d at' o.s o.m
theorem QX {d:ag} (hI:aG d) (room at' mask:Int) (o:jE):aH (nj room at' mask d o).1<=aH d+3:=by
 unfold nj
 split;· exact Jq _ _ _ _
 split;· exact QY _ _ _
 split;· exact Nat.le_trans (QZ _ _ _) (by omega)
 split;· exact Nat.le_trans (Jx hI _ _ _) (by omega)
 split;· exact Nat.le_trans (Jx hI _ _ _) (by omega)
 split;· exact Nat.le_trans (QN hI _ _ _) (by omega)
 exact Nat.le_trans (Q1 _ _ _) (by omega)
theorem Q2 {d:ag} (h:NH d) (room at' mask:Int) (o:jE):NH (nj room at' mask d o).1:=by
 unfold nj
 split;· exact Qp h _ _ _ _
 split;· exact Qq h _ _ _
 split;· exact Qr h _ _ _
 split;· exact Jh h _ _ _
 split;· exact Jh h _ _ _
 split;· exact Qs h _ _ _
 exact Qt h _ _ _
theorem Q3 {d:ag} (room at' mask:Int) (o:jE):KK d (nj room at' mask d o).1:=by
 unfold nj
 split;· exact Qy _ _ _ _
 split;· exact Qz _ _ _
 split;· exact QA _ _ _
 split;· exact Jl _ _ _
 split;· exact Jl _ _ _
 split;· exact QD _ _ _
 exact QF _ _ _
noncomputable def gZ (calls fail room at' mask:Int) (d:ag) (o:jE):ag × Int:=bz calls fail d (nj room at' mask d o)
theorem tu {d:ag} (hI:aG d) (h:NH d) (calls fail room at' mask:Int) (o:jE):aH (gZ calls fail room at' mask d o).1<=aH d+3∧NH (gZ calls fail room at' mask d o).1∧KK d (gZ calls fail room at' mask d o).1:=by
 unfold gZ bz
 split
 ·exact⟨Nat.le_add_right _ _,h,KK.refl d⟩
 ·exact⟨QX hI _ _ _ _,Q2 h _ _ _ _,Q3 _ _ _ _⟩
end Go.Proofs.YtnanhmfpikddkaaGreatDoor
