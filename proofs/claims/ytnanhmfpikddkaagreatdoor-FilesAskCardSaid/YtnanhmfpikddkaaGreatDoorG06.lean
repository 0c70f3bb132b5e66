/-
  Contracts of the reference for layer 4,the eighth part: Enter.
-/
import Derived.Test.YtnanhmfpikddkaaGreatDoorG04

set_option linter.unusedSimpArgs false
set_option linter.unusedVariables false
namespace Go.Proofs.YtnanhmfpikddkaaGreatDoor
open Go.RowKit
set_option maxRecDepth 100000
set_option maxHeartbeats 2000000
theorem mO.on {w1 w2 w3:World} {v0 v1 v2 v3 v4:Value} (h:mO w1 w2 v0 v1 v2 v3 v4) (k:aa af w2 w3):mO w1 w3 v0 v1 v2 v3 v4:=by
 have l:=dm h.N0
 exact⟨(k.cell (p:=⟨w1.heap.size,0,none⟩) l (fun h=>h)).trans h.N0,(k.cell (p:=⟨w1.heap.size,1,none⟩) l (fun h=>h)).trans h.N1,(k.cell (p:=⟨w1.heap.size,2,none⟩) l (fun h=>h)).trans h.N2,(k.cell (p:=⟨w1.heap.size,3,none⟩) l (fun h=>h)).trans h.N3,
  (k.cell (p:=⟨w1.heap.size,4,none⟩) l (fun h=>h)).trans h.N4,fun j=>(k.frozen (p:=⟨w1.heap.size,j,none⟩) l (fun h=>h)).trans (h.zN j)⟩
theorem xu (n:Int):IntKind.i64.wrap (wrap64 n)=wrap64 n:=by rw[IntKind.wrap_i64];unfold wrap64;omega
theorem Tl {x r u s:Int} (h:x=if r-u<s then 20 else 0):(r<u+s∧x=20)∨(¬r<u+s∧x=0):=by
 by_cases c:r-u<s
 ·rw[if_pos c]at h;exact .inl ⟨by omega,h⟩
 ·rw[if_neg c]at h;exact .inr ⟨by omega,h⟩
section
variable{S:Nat->Prop} {w:World} {p:Option Addr} {c:Nat} {d:ag} {room:Int}
theorem EC (h:aI S w p c d) (hS:∀g,w.heap.size<=g->S g) (hI:aG d) (hs:aP d) (i:Int) (name:ByteArray) (k:Int) (hnm:name.size<=maxLen) :
 Calls Tryz.prog 86 #[aE p c d room,.int .i64 i,.string name,.int .i64 k] w (eH S w (bM d room i name k) room (cH d room i name k)):=by
 have hcap:=h.cap
 have hmax:=h.max
 unfold maxLen at hmax
 have dG:=Lib.hid (fun(w1:World) (hk:aa af w w1)=>qB (room:=room) (h.ai hk) hI.zero i)
 have je:=Lib.hid (fun(w1:World) (hk:aa af w w1)=>rA (room:=room) (h.ai hk) hI.zero k)
 have dJ:=Lib.hid (fun(w1:World) (hk:aa af w w1)=>DA (room:=room) (h.ai hk) hI.zero (by have:=hI.two;omega) hs k)
 have ep:=Lib.hid (fun(w1:World) (hk:aa af w w1)=>rD (room:=room) (h.ai hk) hI.zero (by have:=hI.two;omega) hI hs)
 have Hh:=Lib.hid (fun(w1:World) (hk:aa af w w1)=>h.gO hk)
 have B:=iH (w:=w) (aa.refl af ((w.alloc (.cells #[.slice p d.length c,.int .i64 room] 37)).alloc (.cells #[.slice none 0 0,.int .i64 0] 37)))
 unfold bM
 by_cases c0:aO d i=0
 case neg =>
  have e:cH d room i name k=aO d i:=if_pos c0
  rw[e,if_neg c0]
  clear h hS hI hs e je dJ ep
  generalize aO d i=er at *
  unfold aE at *
  go_enter Tryz.func86,Tryz.ntmps86
  go_wp2_with(go_at_call 119;refine(dG.out _ B.keeps).mono ?_;rintro e w1 ⟨rfl,hk1⟩;(try clear A0);(try clear A1);(try clear C0);(try clear C1);(try clear zA);(try clear zC);(try clear l0);(try clear l1);(try clear R0);(try clear R1);(try clear R2);(try clear R3);(try clear R4);(try clear hgl);(try clear Q0);replace B:=B.on hk1;clear hk1;have A0:=B.A0;have A1:=B.A1;have C0:=B.C0;have C1:=B.C1;have zA:=B.zA;have zC:=B.zC;have l0:w.heap.size<w1.heap.size:=Nat.lt_of_lt_of_le (by simp) B.size;have l1:w.heap.size+1<w1.heap.size:=B.size)
  (try simp only[Exit.inBlock,Exit.then])
  refine bodyPost_ret (v:=.tuple #[.agg #[.slice p d.length c,.int .i64 room],.int .i64 er]) ?_ rfl ?_
  ·rw[results_cell_tmp rfl]
   go_simp
  ·exact dP (Hh.out _ B.keeps) B.keeps _ _
 case pos =>
 obtain⟨hi,hi2⟩:=fD c0
 have iZ:∀(P:Int->Prop),P (if (nd d k).kind=0 then 12 else if (nd d k).kind=2∧0<links d k then 22 else if 32768<=links d k then 24
  else if bw (nd d i).ah name≠0 then bw (nd d i).ah name else if room-used d<name.size then 20 else 0)->P (cH d room i name k):=fun P hP=>by
  unfold cH;rw[if_neg (by simpa using c0)];exact hP
 rw[c0]at dG
 by_cases hk:has d k
 case neg =>
  have e:cH d room i name k=12:=iZ (fun x=>x=12) (if_pos (j8 hk))
  rw[e,if_neg (by decide)]
  rw[decide_eq_false hk]at je
  clear h hS hI hs e iZ dJ ep hi hi2 hk c0
  unfold aE at *
  go_enter Tryz.func86,Tryz.ntmps86
  go_wp2_with(first|(go_at_call 119;refine(dG.out _ B.keeps).mono ?_;rintro e w1 ⟨rfl,hk1⟩;(try clear A0);(try clear A1);(try clear C0);(try clear C1);(try clear zA);(try clear zC);(try clear l0);(try clear l1);(try clear R0);(try clear R1);(try clear R2);(try clear R3);(try clear R4);(try clear hgl);(try clear Q0);replace B:=B.on hk1;clear hk1;have A0:=B.A0;have A1:=B.A1;have C0:=B.C0;have C1:=B.C1;have zA:=B.zA;have zC:=B.zC;have l0:w.heap.size<w1.heap.size:=Nat.lt_of_lt_of_le (by simp) B.size;have l1:w.heap.size+1<w1.heap.size:=B.size)|(go_at_call 30;refine(je.out _ B.keeps).mono ?_;rintro e w1 ⟨rfl,hk1⟩;(try clear A0);(try clear A1);(try clear C0);(try clear C1);(try clear zA);(try clear zC);(try clear l0);(try clear l1);(try clear R0);(try clear R1);(try clear R2);(try clear R3);(try clear R4);(try clear hgl);(try clear Q0);replace B:=B.on hk1;clear hk1;have A0:=B.A0;have A1:=B.A1;have C0:=B.C0;have C1:=B.C1;have zA:=B.zA;have zC:=B.zC;have l0:w.heap.size<w1.heap.size:=Nat.lt_of_lt_of_le (by simp) B.size;have l1:w.heap.size+1<w1.heap.size:=B.size))
  (try simp only[Exit.inBlock,Exit.then])
  refine bodyPost_ret (v:=.tuple #[.agg #[.slice p d.length c,.int .i64 room],.int .i64 12]) ?_ rfl ?_
  ·rw[results_cell_tmp rfl]
   go_simp
  ·exact dP (Hh.out _ B.keeps) B.keeps _ _
 case pos =>
 rw[decide_eq_true hk]at je
 have bS:¬(nd d k).kind=0:=hk
 have ja:∀(P:Int->Prop),P (if (nd d k).kind=2∧0<links d k then 22 else if 32768<=links d k then 24
  else if bw (nd d i).ah name≠0 then bw (nd d i).ah name else if room-used d<name.size then 20 else 0)->P (cH d room i name k):=fun P hP=>iZ P (by rw[if_neg bS];exact hP)
 have hk1:=hk
 obtain⟨o,rfl,ho⟩:=eP hk1
 have hi1:=hi
 obtain⟨t,rfl,htl⟩:=eP hi1
 obtain⟨g,off,q,m,rfl,cI,hrow⟩:=h.rowAt htl
 obtain⟨g',off',q',m',hp',_,hrow'⟩:=h.rowAt ho
 cases hp'
 have HC:=Lib.hid (fun(w1:World) (hk1:aa af w w1)=>(⟨(hrow.ai hk1).c0,(hrow.ai hk1).c1,(hrow.ai hk1).c2,(hrow.ai hk1).c3,(hrow.ai hk1).c4,(hrow.ai hk1).lt,(hrow'.ai hk1).c0⟩:_∧_∧_∧_∧_∧_∧_))
 by_cases d1:(nd d (o:Int)).kind=2∧0<links d (o:Int)
 ·have e:cH d room t name o=22:=ja (fun x=>x=22) (if_pos d1)
  rw[e,if_neg (by decide)]
  obtain⟨d2,d3⟩:=d1
  have Pf:(0:Int)<(links d (o:Int):Int):=by omega
  rw[d2]at HC
  clear h hS hI hs e iZ ja ep hi hi2 hk bS hk1 hi1 c0 d2 d3 hrow hrow'
  generalize(links d (o:Int):Int)=ng at *
  generalize(nd d (t:Int)).ah=en at *
  unfold aE at *
  go_enter Tryz.func86,Tryz.ntmps86
  go_wp2_with(first|(go_at_call 119;refine(dG.out _ B.keeps).mono ?_;rintro e w1 ⟨rfl,hk1⟩;(try clear A0);(try clear A1);(try clear C0);(try clear C1);(try clear zA);(try clear zC);(try clear l0);(try clear l1);(try clear R0);(try clear R1);(try clear R2);(try clear R3);(try clear R4);(try clear hgl);(try clear Q0);replace B:=B.on hk1;clear hk1;have A0:=B.A0;have A1:=B.A1;have C0:=B.C0;have C1:=B.C1;have zA:=B.zA;have zC:=B.zC;have l0:w.heap.size<w1.heap.size:=Nat.lt_of_lt_of_le (by simp) B.size;have l1:w.heap.size+1<w1.heap.size:=B.size)|(go_at_call 30;refine(je.out _ B.keeps).mono ?_;rintro e w1 ⟨rfl,hk1⟩;(try clear A0);(try clear A1);(try clear C0);(try clear C1);(try clear zA);(try clear zC);(try clear l0);(try clear l1);(try clear R0);(try clear R1);(try clear R2);(try clear R3);(try clear R4);(try clear hgl);(try clear Q0);replace B:=B.on hk1;clear hk1;have A0:=B.A0;have A1:=B.A1;have C0:=B.C0;have C1:=B.C1;have zA:=B.zA;have zC:=B.zC;have l0:w.heap.size<w1.heap.size:=Nat.lt_of_lt_of_le (by simp) B.size;have l1:w.heap.size+1<w1.heap.size:=B.size;obtain⟨R0,R1,R2,R3,R4,hgl,Q0⟩:=HC.out _ B.keeps)|(go_at_call 31;refine(dJ.out _ B.keeps).mono ?_;rintro e w1 ⟨rfl,hk1⟩;(try clear A0);(try clear A1);(try clear C0);(try clear C1);(try clear zA);(try clear zC);(try clear l0);(try clear l1);(try clear R0);(try clear R1);(try clear R2);(try clear R3);(try clear R4);(try clear hgl);(try clear Q0);replace B:=B.on hk1;clear hk1;have A0:=B.A0;have A1:=B.A1;have C0:=B.C0;have C1:=B.C1;have zA:=B.zA;have zC:=B.zC;have l0:w.heap.size<w1.heap.size:=Nat.lt_of_lt_of_le (by simp) B.size;have l1:w.heap.size+1<w1.heap.size:=B.size;obtain⟨R0,R1,R2,R3,R4,hgl,Q0⟩:=HC.out _ B.keeps))
  (try simp only[Exit.inBlock,Exit.then])
  refine bodyPost_ret (v:=.tuple #[.agg #[.slice (some ⟨g,off,none⟩) d.length c,.int .i64 room],.int .i64 22]) ?_ rfl ?_
  ·rw[results_cell_tmp rfl]
   go_simp
  ·exact dP (Hh.out _ B.keeps) B.keeps _ _
 have jb:∀(P:Int->Prop),P (if 32768<=links d (o:Int)then 24
  else if bw (nd d t).ah name≠0 then bw (nd d t).ah name else if room-used d<name.size then 20 else 0)->P (cH d room t name o):=fun P hP=>ja P (by rw[if_neg d1];exact hP)
 have oC:((nd d (o:Int)).kind≠2)∨((nd d (o:Int)).kind=2∧(links d (o:Int):Int)=0):=by
  by_cases e2:(nd d (o:Int)).kind=2
  ·exact .inr ⟨e2,by have:=Nat.eq_zero_of_not_pos (fun h=>d1 ⟨e2,h⟩);omega⟩
  ·exact .inl e2
 by_cases d2:32768<=links d (o:Int)
 ·have e:cH d room t name o=24:=jb (fun x=>x=24) (if_pos d2)
  rw[e,if_neg (by decide)]
  have wu:(32768:Int)<=(links d (o:Int):Int):=by omega
  have d3:(nd d (o:Int)).kind≠2:=oC.elim id (fun h=>by have:=h.2;omega)
  clear h hS hI hs e iZ ja jb ep hi hi2 hk bS hk1 hi1 c0 d1 oC d2 hrow hrow'
  generalize(links d (o:Int):Int)=ng at *
  generalize(nd d (t:Int)).ah=en at *
  generalize(nd d (o:Int)).kind=ko at *
  unfold aE at *
  go_enter Tryz.func86,Tryz.ntmps86
  go_wp2_with(first|(go_at_call 119;refine(dG.out _ B.keeps).mono ?_;rintro e w1 ⟨rfl,hk1⟩;(try clear A0);(try clear A1);(try clear C0);(try clear C1);(try clear zA);(try clear zC);(try clear l0);(try clear l1);(try clear R0);(try clear R1);(try clear R2);(try clear R3);(try clear R4);(try clear hgl);(try clear Q0);replace B:=B.on hk1;clear hk1;have A0:=B.A0;have A1:=B.A1;have C0:=B.C0;have C1:=B.C1;have zA:=B.zA;have zC:=B.zC;have l0:w.heap.size<w1.heap.size:=Nat.lt_of_lt_of_le (by simp) B.size;have l1:w.heap.size+1<w1.heap.size:=B.size)|(go_at_call 30;refine(je.out _ B.keeps).mono ?_;rintro e w1 ⟨rfl,hk1⟩;(try clear A0);(try clear A1);(try clear C0);(try clear C1);(try clear zA);(try clear zC);(try clear l0);(try clear l1);(try clear R0);(try clear R1);(try clear R2);(try clear R3);(try clear R4);(try clear hgl);(try clear Q0);replace B:=B.on hk1;clear hk1;have A0:=B.A0;have A1:=B.A1;have C0:=B.C0;have C1:=B.C1;have zA:=B.zA;have zC:=B.zC;have l0:w.heap.size<w1.heap.size:=Nat.lt_of_lt_of_le (by simp) B.size;have l1:w.heap.size+1<w1.heap.size:=B.size;obtain⟨R0,R1,R2,R3,R4,hgl,Q0⟩:=HC.out _ B.keeps)|(go_at_call 31;refine(dJ.out _ B.keeps).mono ?_;rintro e w1 ⟨rfl,hk1⟩;(try clear A0);(try clear A1);(try clear C0);(try clear C1);(try clear zA);(try clear zC);(try clear l0);(try clear l1);(try clear R0);(try clear R1);(try clear R2);(try clear R3);(try clear R4);(try clear hgl);(try clear Q0);replace B:=B.on hk1;clear hk1;have A0:=B.A0;have A1:=B.A1;have C0:=B.C0;have C1:=B.C1;have zA:=B.zA;have zC:=B.zC;have l0:w.heap.size<w1.heap.size:=Nat.lt_of_lt_of_le (by simp) B.size;have l1:w.heap.size+1<w1.heap.size:=B.size;obtain⟨R0,R1,R2,R3,R4,hgl,Q0⟩:=HC.out _ B.keeps))
  (try simp only[Exit.inBlock,Exit.then])
  refine bodyPost_ret (v:=.tuple #[.agg #[.slice (some ⟨g,off,none⟩) d.length c,.int .i64 room],.int .i64 24]) ?_ rfl ?_
  ·rw[results_cell_tmp rfl]
   go_simp
  ·exact dP (Hh.out _ B.keeps) B.keeps _ _
 have qq:∀(P:Int->Prop),P (if bw (nd d t).ah name≠0 then bw (nd d t).ah name else if room-used d<name.size then 20 else 0)->P (cH d room t name o):=fun P hP=>jb P (by rw[if_neg d2];exact hP)
 have wu:¬(32768<=(links d (o:Int):Int)):=by omega
 have CX:(32768<=(links d (o:Int):Int))=False:=by simp;omega
 have hel:=gx hs (t:Int)
 have hris:=(hI.node (t:Int)).rising
 have kR:=Lib.hid (fun(w2:World) (N:Nat) (hk2:aa af w w2) (hN:w.heap.size+2<=N) (hsz:N<w2.heap.size)=>xj (fQ S w N) w2 q m (nd d (t:Int)).ah name (o:Int)
  (hrow.sl.cN hk2 (fun _ _ _ h=>h) (fun g hg hl=>⟨⟨hg,by omega,by omega⟩,by omega⟩)) hris (by omega) (fun g hg=>⟨⟨hS g (by omega),by omega,by omega⟩,by omega⟩) hnm)
 by_cases d3:bw (nd d (t:Int)).ah name=0
 case neg =>
  have e:cH d room t name o=bw (nd d t).ah name:=qq (fun x=>x=bw (nd d t).ah name) (if_pos d3)
  rw[e,if_neg d3]
  clear h hS hI hs e iZ ja jb qq ep hi hi2 hk bS hk1 hi1 c0 d1 d2 hrow hrow' hris
  generalize bw (nd d (t:Int)).ah name=pe at *
  generalize gh (nd d (t:Int)).ah name (o:Int)=pt at *
  generalize(links d (o:Int):Int)=ng at *
  generalize(nd d (t:Int)).ah=en at *
  unfold aE at *
  rcases oC with d4|⟨d4,d5⟩
  case' inl=>generalize(nd d (o:Int)).kind=ko at *
  case' inr=>rw[d4]at HC;subst d5
  all_goals
   go_enter Tryz.func86,Tryz.ntmps86
   go_wp2_with(first|(go_at_call 119;refine(dG.out _ B.keeps).mono ?_;rintro e w1 ⟨rfl,hk1⟩;(try clear A0);(try clear A1);(try clear C0);(try clear C1);(try clear zA);(try clear zC);(try clear l0);(try clear l1);(try clear R0);(try clear R1);(try clear R2);(try clear R3);(try clear R4);(try clear hgl);(try clear Q0);replace B:=B.on hk1;clear hk1;have A0:=B.A0;have A1:=B.A1;have C0:=B.C0;have C1:=B.C1;have zA:=B.zA;have zC:=B.zC;have l0:w.heap.size<w1.heap.size:=Nat.lt_of_lt_of_le (by simp) B.size;have l1:w.heap.size+1<w1.heap.size:=B.size)|(go_at_call 30;refine(je.out _ B.keeps).mono ?_;rintro e w1 ⟨rfl,hk1⟩;(try clear A0);(try clear A1);(try clear C0);(try clear C1);(try clear zA);(try clear zC);(try clear l0);(try clear l1);(try clear R0);(try clear R1);(try clear R2);(try clear R3);(try clear R4);(try clear hgl);(try clear Q0);replace B:=B.on hk1;clear hk1;have A0:=B.A0;have A1:=B.A1;have C0:=B.C0;have C1:=B.C1;have zA:=B.zA;have zC:=B.zC;have l0:w.heap.size<w1.heap.size:=Nat.lt_of_lt_of_le (by simp) B.size;have l1:w.heap.size+1<w1.heap.size:=B.size;obtain⟨R0,R1,R2,R3,R4,hgl,Q0⟩:=HC.out _ B.keeps)|(go_at_call 31;refine(dJ.out _ B.keeps).mono ?_;rintro e w1 ⟨rfl,hk1⟩;(try clear A0);(try clear A1);(try clear C0);(try clear C1);(try clear zA);(try clear zC);(try clear l0);(try clear l1);(try clear R0);(try clear R1);(try clear R2);(try clear R3);(try clear R4);(try clear hgl);(try clear Q0);replace B:=B.on hk1;clear hk1;have A0:=B.A0;have A1:=B.A1;have C0:=B.C0;have C1:=B.C1;have zA:=B.zA;have zC:=B.zC;have l0:w.heap.size<w1.heap.size:=Nat.lt_of_lt_of_le (by simp) B.size;have l1:w.heap.size+1<w1.heap.size:=B.size;obtain⟨R0,R1,R2,R3,R4,hgl,Q0⟩:=HC.out _ B.keeps)|(go_at_call 120;go_loud(refine(kR.out _ w1.heap.size (B.keeps.alloc _) B.size (by simp)).mono ?_);rintro e w2 ⟨v2,rfl,hsl,hk2⟩;have B:=(B.on ((aa.refl af _).alloc _)).on hk2;have A0:=B.A0;have A1:=B.A1;have C0:=B.C0;have C1:=B.C1;have zA:=B.zA;have zC:=B.zC))
   (try simp only[Exit.inBlock,Exit.then])
   refine bodyPost_ret (v:=.tuple #[.agg #[.slice (some ⟨g,off,none⟩) d.length c,.int .i64 room],.int .i64 pe]) ?_ rfl ?_
   ·rw[results_cell_tmp rfl]
    go_simp
   ·exact dP (Hh.out _ B.keeps) B.keeps _ _
 case pos =>
 have s9:∀(P:Int->Prop),P (if room-used d<name.size then 20 else 0)->P (cH d room t name o):=fun P hP=>qq P (by rw[if_neg (by simpa using d3)];exact hP)
 rw[d3]at kR
 rw[show gh (nd d (t:Int)).ah name (o:Int)=bY (nd d (t:Int)).ah name (o:Int)from if_pos d3]at kR
 have bZ:=lg hI hs
 have hwr:wrap64 ((used d:Int)+(name.size:Int))=(used d:Int)+(name.size:Int):=IntWalk.wrap64_in _ (by have:=(mA.1 d3).1;simp[fJ]at this;omega)
 have hput:=fun(w2:World) (q2:Option Addr) (m2:Nat) (hk2:aa af w w2) (hsz:w.heap.size+2<=w2.heap.size) (hx:bt aK (jh S w) w2 q2 m2 (bY (nd d (t:Int)).ah name (o:Int)))=>sE (S:=jh S w) (room:=room) (h.gO hk2) (sF hS hsz) t htl (by have:=jm d;unfold aP at hs;omega) ((nd d (t:Int)).dZ (bY (nd d (t:Int)).ah name (o:Int))) q2 m2 hx
 have hlen:(bN d t name o).length=d.length:=j4 _ _ _
 have nB:aX d (t:Int) ((nd d (t:Int)).dZ (bY (nd d (t:Int)).ah name (o:Int)))=bN d t name o:=rfl
 have hx0:((nd d (t:Int)).dZ (bY (nd d (t:Int)).ah name (o:Int))).kind=(nd d (t:Int)).kind:=rfl
 have hx1:((nd d (t:Int)).dZ (bY (nd d (t:Int)).ah name (o:Int))).mode=(nd d (t:Int)).mode:=rfl
 have hx2:((nd d (t:Int)).dZ (bY (nd d (t:Int)).ah name (o:Int))).holds=(nd d (t:Int)).holds:=rfl
 have ny:((nd d (t:Int)).dZ (bY (nd d (t:Int)).ah name (o:Int))).data=(nd d (t:Int)).data:=rfl
 have gW:((nd d (t:Int)).dZ (bY (nd d (t:Int)).ah name (o:Int))).ah=bY (nd d (t:Int)).ah name (o:Int):=rfl
 rw[nB]at hput
 simp only[hx0,hx1,hx2,ny,gW]at hput
 have HP:=Lib.hid hput
 have HL:=Lib.hid hlen
 have hroom:=Tl (s9 (fun x=>x=(if room-used d<name.size then 20 else 0)) rfl)
 unfold aE at *
 clear h hS hI hs iZ ja jb qq s9 hi hi2 hk bS hk1 hi1 c0 d1 d2 hrow hrow' hris hput hlen nB hx0 hx1 hx2 ny gW bZ d3
 generalize(used d:Int)=us at *
 generalize bN d t name o=dd at *
 generalize bY (nd d (t:Int)).ah name (o:Int)=ne at *
 generalize(links d (o:Int):Int)=ng at *
 generalize(nd d (t:Int)).ah=en at *
 have hwi:IntKind.i64.wrap (us+(name.size:Int))=us+(name.size:Int):=by rw[<- hwr];exact xu _
 rcases hroom with⟨hr,he⟩|⟨hr,he⟩
 ·rw[he,if_neg (by decide)]
  clear he HP HL
  rcases oC with d4|⟨d4,d5⟩
  case' inl=>generalize(nd d (o:Int)).kind=ko at *
  case' inr=>rw[d4]at HC;subst d5
  all_goals
   go_enter Tryz.func86,Tryz.ntmps86
   go_upto_region 14 with(first|(go_at_call 119;refine(dG.out _ B.keeps).mono ?_;rintro e w1 ⟨rfl,hk1⟩;(try clear A0);(try clear A1);(try clear C0);(try clear C1);(try clear zA);(try clear zC);(try clear l0);(try clear l1);(try clear R0);(try clear R1);(try clear R2);(try clear R3);(try clear R4);(try clear hgl);(try clear Q0);replace B:=B.on hk1;clear hk1;have A0:=B.A0;have A1:=B.A1;have C0:=B.C0;have C1:=B.C1;have zA:=B.zA;have zC:=B.zC;have l0:w.heap.size<w1.heap.size:=Nat.lt_of_lt_of_le (by simp) B.size;have l1:w.heap.size+1<w1.heap.size:=B.size)|(go_at_call 30;refine(je.out _ B.keeps).mono ?_;rintro e w1 ⟨rfl,hk1⟩;(try clear A0);(try clear A1);(try clear C0);(try clear C1);(try clear zA);(try clear zC);(try clear l0);(try clear l1);(try clear R0);(try clear R1);(try clear R2);(try clear R3);(try clear R4);(try clear hgl);(try clear Q0);replace B:=B.on hk1;clear hk1;have A0:=B.A0;have A1:=B.A1;have C0:=B.C0;have C1:=B.C1;have zA:=B.zA;have zC:=B.zC;have l0:w.heap.size<w1.heap.size:=Nat.lt_of_lt_of_le (by simp) B.size;have l1:w.heap.size+1<w1.heap.size:=B.size;obtain⟨R0,R1,R2,R3,R4,hgl,Q0⟩:=HC.out _ B.keeps)|(go_at_call 31;refine(dJ.out _ B.keeps).mono ?_;rintro e w1 ⟨rfl,hk1⟩;(try clear A0);(try clear A1);(try clear C0);(try clear C1);(try clear zA);(try clear zC);(try clear l0);(try clear l1);(try clear R0);(try clear R1);(try clear R2);(try clear R3);(try clear R4);(try clear hgl);(try clear Q0);replace B:=B.on hk1;clear hk1;have A0:=B.A0;have A1:=B.A1;have C0:=B.C0;have C1:=B.C1;have zA:=B.zA;have zC:=B.zC;have l0:w.heap.size<w1.heap.size:=Nat.lt_of_lt_of_le (by simp) B.size;have l1:w.heap.size+1<w1.heap.size:=B.size;obtain⟨R0,R1,R2,R3,R4,hgl,Q0⟩:=HC.out _ B.keeps)|(go_at_call 120;go_loud(refine(kR.out _ w1.heap.size (B.keeps.alloc _) B.size (by simp)).mono ?_);rintro e w2 ⟨v2,rfl,hsl,hk2⟩;obtain⟨q2,m2,rfl,hsl⟩:=hsl;have NB:=pH hk2;have Bs:=B.size;replace B:=(B.on ((aa.refl af _).alloc _)).on hk2;(try clear A0);(try clear A1);(try clear C0);(try clear C1);(try clear zA);(try clear zC);(try clear l0);(try clear l1);(try clear R0);(try clear R1);(try clear R2);(try clear R3);(try clear R4);(try clear hgl);(try clear Q0);have A0:=B.A0;have A1:=B.A1;have C0:=B.C0;have C1:=B.C1;have zA:=B.zA;have zC:=B.zC))
   clear dG je dJ kR HC hk2 hel wu CX d4
   go_cut [69]from 62 to 69 (fun x wx=>x=.bool true∧aa af w2 wx)
   case first =>
    go_region_with(go_at_call 26;refine(ep.out _ ?_).mono ?_;(first|exact B.keeps|exact B.keeps.drew);rintro e w6 ⟨rfl,cF⟩;(try clear A0);(try clear A1);(try clear C0);(try clear C1);(try clear zA);(try clear zC);(try clear l0);(try clear l1);(try clear R0);(try clear R1);(try clear R2);(try clear R3);(try clear R4);(try clear hgl);(try clear Q0);have aR:aa af w2 w6:=(by first|exact cF|exact((aa.refl af _).drew).trans cF);have B6:=B.on aR;have A0:=B6.A0;have A1:=B6.A1)
    all_goals(go_wp2_with fail;go_meet;exact⟨by simp[hwi,hr],by first|exact aR|exact aR.drew⟩)
   case rest =>
    obtain⟨rfl,aR⟩:=hcut
    have B6:=B.on aR
    have N6:=NB.on aR
    have ve:=hsl.ai aR
    have C0:=B6.C0
    have C1:=B6.C1
    have zC:=B6.zC
    have A0:=B6.A0
    have A1:=B6.A1
    clear aR hsl B NB
    go_wp2_with fail
    (try simp only[Exit.inBlock,Exit.then])
    refine bodyPost_ret (v:=.tuple #[.agg #[.slice (some ⟨g,off,none⟩) d.length c,.int .i64 room],.int .i64 20]) ?_ rfl ?_
    ·rw[results_cell_tmp rfl]
     go_simp
    ·exact dP (Hh.out _ B6.keeps) B6.keeps _ _
 ·rw[he,if_pos rfl]
  clear he
  rcases oC with d4|⟨d4,d5⟩
  case' inl=>generalize(nd d (o:Int)).kind=ko at *
  case' inr=>rw[d4]at HC;subst d5
  all_goals
   go_enter Tryz.func86,Tryz.ntmps86
   go_upto_region 14 with(first|(go_at_call 119;refine(dG.out _ B.keeps).mono ?_;rintro e w1 ⟨rfl,hk1⟩;(try clear A0);(try clear A1);(try clear C0);(try clear C1);(try clear zA);(try clear zC);(try clear l0);(try clear l1);(try clear R0);(try clear R1);(try clear R2);(try clear R3);(try clear R4);(try clear hgl);(try clear Q0);replace B:=B.on hk1;clear hk1;have A0:=B.A0;have A1:=B.A1;have C0:=B.C0;have C1:=B.C1;have zA:=B.zA;have zC:=B.zC;have l0:w.heap.size<w1.heap.size:=Nat.lt_of_lt_of_le (by simp) B.size;have l1:w.heap.size+1<w1.heap.size:=B.size)|(go_at_call 30;refine(je.out _ B.keeps).mono ?_;rintro e w1 ⟨rfl,hk1⟩;(try clear A0);(try clear A1);(try clear C0);(try clear C1);(try clear zA);(try clear zC);(try clear l0);(try clear l1);(try clear R0);(try clear R1);(try clear R2);(try clear R3);(try clear R4);(try clear hgl);(try clear Q0);replace B:=B.on hk1;clear hk1;have A0:=B.A0;have A1:=B.A1;have C0:=B.C0;have C1:=B.C1;have zA:=B.zA;have zC:=B.zC;have l0:w.heap.size<w1.heap.size:=Nat.lt_of_lt_of_le (by simp) B.size;have l1:w.heap.size+1<w1.heap.size:=B.size;obtain⟨R0,R1,R2,R3,R4,hgl,Q0⟩:=HC.out _ B.keeps)|(go_at_call 31;refine(dJ.out _ B.keeps).mono ?_;rintro e w1 ⟨rfl,hk1⟩;(try clear A0);(try clear A1);(try clear C0);(try clear C1);(try clear zA);(try clear zC);(try clear l0);(try clear l1);(try clear R0);(try clear R1);(try clear R2);(try clear R3);(try clear R4);(try clear hgl);(try clear Q0);replace B:=B.on hk1;clear hk1;have A0:=B.A0;have A1:=B.A1;have C0:=B.C0;have C1:=B.C1;have zA:=B.zA;have zC:=B.zC;have l0:w.heap.size<w1.heap.size:=Nat.lt_of_lt_of_le (by simp) B.size;have l1:w.heap.size+1<w1.heap.size:=B.size;obtain⟨R0,R1,R2,R3,R4,hgl,Q0⟩:=HC.out _ B.keeps)|(go_at_call 120;go_loud(refine(kR.out _ w1.heap.size (B.keeps.alloc _) B.size (by simp)).mono ?_);rintro e w2 ⟨v2,rfl,hsl,hk2⟩;obtain⟨q2,m2,rfl,hsl⟩:=hsl;have NB:=pH hk2;have Bs:=B.size;replace B:=(B.on ((aa.refl af _).alloc _)).on hk2;(try clear A0);(try clear A1);(try clear C0);(try clear C1);(try clear zA);(try clear zC);(try clear l0);(try clear l1);(try clear R0);(try clear R1);(try clear R2);(try clear R3);(try clear R4);(try clear hgl);(try clear Q0);have A0:=B.A0;have A1:=B.A1;have C0:=B.C0;have C1:=B.C1;have zA:=B.zA;have zC:=B.zC))
   clear dG je dJ kR HC hk2 hel wu CX d4
   go_cut [69]from 62 to 69 (fun x wx=>x=.bool false∧aa af w2 wx)
   case first =>
    go_region_with(go_at_call 26;refine(ep.out _ ?_).mono ?_;(first|exact B.keeps|exact B.keeps.drew);rintro e w6 ⟨rfl,cF⟩;(try clear A0);(try clear A1);(try clear C0);(try clear C1);(try clear zA);(try clear zC);(try clear l0);(try clear l1);(try clear R0);(try clear R1);(try clear R2);(try clear R3);(try clear R4);(try clear hgl);(try clear Q0);have aR:aa af w2 w6:=(by first|exact cF|exact((aa.refl af _).drew).trans cF);have B6:=B.on aR;have A0:=B6.A0;have A1:=B6.A1)
    all_goals(go_wp2_with fail;go_meet;exact⟨by simp[hwi,hr],by first|exact aR|exact aR.drew⟩)
   case rest =>
    obtain⟨rfl,aR⟩:=hcut
    have B6:=B.on aR
    have N6:=NB.on aR
    have ve:=hsl.ai aR
    have C0:=B6.C0
    have C1:=B6.C1
    have zC:=B6.zC
    have A0:=B6.A0
    have A1:=B6.A1
    clear aR hsl B NB
    have zA:=B6.zA
    have N0:=N6.N0
    have N1:=N6.N1
    have N2:=N6.N2
    have N3:=N6.N3
    have N4:=N6.N4
    have zN:=N6.zN
    have nA:¬w.heap.size=w1.heap.size:=by omega
    have rE:¬w1.heap.size=w.heap.size:=by omega
    go_wp2_with(go_at_call 121;go_loud(refine(HP.out _ q2 m2 (B6.set Bs _ _).keeps (B6.set Bs _ _).size (ve.cN (cB _ ⟨w1.heap.size,4,none⟩ _) (fun b hb _ e=>hb.2 e) (fun b hb _=>hb.1))).mono ?_);rintro e w8 ⟨v',rfl,eU,fP⟩;obtain⟨p3,c3,hv,eU⟩:=eU;have B8:=(B6.set Bs 4 (.slice q2 ne.length m2)).on fP;unfold aE at hv;rw[HL.out]at hv;subst hv;clear A0 A1 C0 C1 zC zA N0 N1 N2 N3 N4 zN;have D0:=B8.C0;have D1:=B8.C1;have zD:=B8.zC)
    (try simp only[Exit.inBlock,Exit.then])
    refine bodyPost_ret (v:=.tuple #[.agg #[.slice p3 d.length c3,.int .i64 room],.int .i64 0]) ?_ rfl ?_
    ·rw[results_cell_tmp rfl]
     go_simp
    ·have hz:=dP (room:=room) (err:=0) eU B8.keeps (.slice p3 d.length c3) (.int .i64 room)
     unfold aE at hz
     rw[HL.out]at hz
     exact hz
end
end Go.Proofs.YtnanhmfpikddkaaGreatDoor
