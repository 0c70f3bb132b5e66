/-
  Contracts of the reference for layer 4: Write.
-/
import Derived.Test.YtnanhmfpikddkaaGreatDoorG07
import Derived.Test.YtnanhmfpikddkaaGreatDoorG18
import Derived.StillTailTactics

set_option linter.unusedSimpArgs false
set_option linter.unusedVariables false
namespace Go.Proofs.YtnanhmfpikddkaaGreatDoor
open Go.RowKit
set_option maxRecDepth 100000
set_option maxHeartbeats 2000000
theorem LA {X L:Nat} (hX:X+L<=4194304):wrap64 ((X:Int)+(L:Int))=(X:Int)+(L:Int)∧¬((4194304:Int)<(X:Int))∧¬((4194304:Int)<(X:Int)+(L:Int)):=⟨IntWalk.wrap64_in _ (by omega),by omega,by omega⟩
theorem TH {x:Int} {L:Nat} (h0:¬x<0) (h1:¬4194304<x) (hL:L<=4294967296) (h:4194304-x<L):wrap64 (x+(L:Int))=x+(L:Int)∧4194304<x+(L:Int):=⟨IntWalk.wrap64_in _ (by omega),by omega⟩
theorem ER {u n X L:Nat} (bZ:(u:Int)<=9007199254740992) (hX:X+L<=4194304) (hn:n<=4194304) (h:n<X+L):(n:Int)<(X:Int)+(L:Int)∧max n (X+L)=X+L ∧
 wrap64 ((u:Int)+((X:Int)+(L:Int)))=(u:Int)+((X:Int)+(L:Int))∧wrap64 ((u:Int)+((X:Int)+(L:Int))-(n:Int))=(u:Int)+((X:Int)+(L:Int))-(n:Int) :=
 ⟨by omega,by omega,IntWalk.wrap64_in _ (by omega),IntWalk.wrap64_in _ (by omega)⟩
theorem ES {u n X L:Nat} (bZ:(u:Int)<=9007199254740992) (hn:n<=4194304) (h:¬n<X+L):¬((n:Int)<(X:Int)+(L:Int))∧max n (X+L)=n ∧
 wrap64 ((u:Int)+(n:Int))=(u:Int)+(n:Int)∧wrap64 (u:Int)=(u:Int) :=
 ⟨by omega,by omega,IntWalk.wrap64_in _ (by omega),IntWalk.wrap64_in _ (by omega)⟩
section
variable{S:Nat->Prop} {w:World} {p:Option Addr} {c:Nat} {d:ag} {room:Int}
theorem TI (h:aI S w p c d) (hI:aG d) (i x:Int) (s:ByteArray) (hsz:s.size<=4294967296) (he:dM d i≠0∨x<0∨s.size=0∨4194304<x∨4194304-x<s.size) :
 Calls Tryz.prog 137 #[aE p c d room,.int .i64 i,.int .i64 x,.string s] w (eH S w d room (iK d room i x s)):=by
 have aW:=Lib.hid (fun(w1:World) (hk:aa af w w1)=>AL (room:=room) (h.ai hk) hI i)
 have Hh:=Lib.hid (fun(w1:World) (hk:aa af w w1)=>h.gO hk)
 have B:=iH (w:=w) (aa.refl af ((w.alloc (.cells #[.slice p d.length c,.int .i64 room] 37)).alloc (.cells #[.slice none 0 0,.int .i64 0] 37)))
 clear h hI
 unfold aE at *
 unfold iK
 by_cases c0:dM d i=0
 case neg =>
  rw[if_pos c0]
  clear he
  generalize dM d i=er at *
  go_enter Tryz.func137,Tryz.ntmps137
  go_wp2_with(go_at_call 157;refine(aW.out _ B.keeps).mono ?_;rintro e w1 ⟨rfl,hk1⟩;(try clear A0);(try clear A1);(try clear C0);(try clear C1);(try clear zA);(try clear zC);(try clear l0);(try clear l1);(try clear R0);(try clear R1);(try clear R2);(try clear R3);(try clear R4);(try clear hgl);(try clear Q0);(try clear T4);replace B:=B.on hk1;clear hk1;have A0:=B.A0;have A1:=B.A1;have C0:=B.C0;have C1:=B.C1;have zA:=B.zA;have zC:=B.zC;have l0:w.heap.size<w1.heap.size:=Nat.lt_of_lt_of_le (by simp) B.size;have l1:w.heap.size+1<w1.heap.size:=B.size)
  (try simp only[Exit.inBlock,Exit.then])
  refine bodyPost_ret (v:=.tuple #[.agg #[.slice p d.length c,.int .i64 room],.int .i64 er]) ?_ rfl ?_
  ·rw[results_cell_tmp rfl]
   go_simp
  ·exact dP (Hh.out _ B.keeps) B.keeps _ _
 case pos =>
 rw[if_neg (by simpa using c0)]
 rw[c0]at aW
 replace he:=he.resolve_left (by simpa using c0)
 clear c0
 by_cases c1:x<0
 ·rw[if_pos c1]
  clear he
  go_enter Tryz.func137,Tryz.ntmps137
  go_wp2_with(go_at_call 157;refine(aW.out _ B.keeps).mono ?_;rintro e w1 ⟨rfl,hk1⟩;(try clear A0);(try clear A1);(try clear C0);(try clear C1);(try clear zA);(try clear zC);(try clear l0);(try clear l1);(try clear R0);(try clear R1);(try clear R2);(try clear R3);(try clear R4);(try clear hgl);(try clear Q0);(try clear T4);replace B:=B.on hk1;clear hk1;have A0:=B.A0;have A1:=B.A1;have C0:=B.C0;have C1:=B.C1;have zA:=B.zA;have zC:=B.zC;have l0:w.heap.size<w1.heap.size:=Nat.lt_of_lt_of_le (by simp) B.size;have l1:w.heap.size+1<w1.heap.size:=B.size)
  (try simp only[Exit.inBlock,Exit.then])
  refine bodyPost_ret (v:=.tuple #[.agg #[.slice p d.length c,.int .i64 room],.int .i64 10]) ?_ rfl ?_
  ·rw[results_cell_tmp rfl]
   go_simp
  ·exact dP (Hh.out _ B.keeps) B.keeps _ _
 rw[if_neg c1]
 replace he:=he.resolve_left c1
 by_cases c2:s.size=0
 ·rw[if_pos c2]
  have hs:s=⟨#[]⟩:=ByteArray.ext (Array.eq_empty_of_size_eq_zero c2)
  subst hs
  clear he
  go_enter Tryz.func137,Tryz.ntmps137
  go_wp2_with(go_at_call 157;refine(aW.out _ B.keeps).mono ?_;rintro e w1 ⟨rfl,hk1⟩;(try clear A0);(try clear A1);(try clear C0);(try clear C1);(try clear zA);(try clear zC);(try clear l0);(try clear l1);(try clear R0);(try clear R1);(try clear R2);(try clear R3);(try clear R4);(try clear hgl);(try clear Q0);(try clear T4);replace B:=B.on hk1;clear hk1;have A0:=B.A0;have A1:=B.A1;have C0:=B.C0;have C1:=B.C1;have zA:=B.zA;have zC:=B.zC;have l0:w.heap.size<w1.heap.size:=Nat.lt_of_lt_of_le (by simp) B.size;have l1:w.heap.size+1<w1.heap.size:=B.size)
  (try simp only[Exit.inBlock,Exit.then])
  refine bodyPost_ret (v:=.tuple #[.agg #[.slice p d.length c,.int .i64 room],.int .i64 0]) ?_ rfl ?_
  ·rw[results_cell_tmp rfl]
   go_simp
  ·exact dP (Hh.out _ B.keeps) B.keeps _ _
 rw[if_neg c2]
 replace he:=he.resolve_left c2
 have hne:(s.toList==[])=false:=beq_false_of_ne (fun e=>c2 ((toList_nil s).1 e))
 by_cases c3:4194304<x
 ·rw[if_pos c3]
  clear he
  go_enter Tryz.func137,Tryz.ntmps137
  go_wp2_with(go_at_call 157;refine(aW.out _ B.keeps).mono ?_;rintro e w1 ⟨rfl,hk1⟩;(try clear A0);(try clear A1);(try clear C0);(try clear C1);(try clear zA);(try clear zC);(try clear l0);(try clear l1);(try clear R0);(try clear R1);(try clear R2);(try clear R3);(try clear R4);(try clear hgl);(try clear Q0);(try clear T4);replace B:=B.on hk1;clear hk1;have A0:=B.A0;have A1:=B.A1;have C0:=B.C0;have C1:=B.C1;have zA:=B.zA;have zC:=B.zC;have l0:w.heap.size<w1.heap.size:=Nat.lt_of_lt_of_le (by simp) B.size;have l1:w.heap.size+1<w1.heap.size:=B.size)
  (try simp only[Exit.inBlock,Exit.then])
  refine bodyPost_ret (v:=.tuple #[.agg #[.slice p d.length c,.int .i64 room],.int .i64 18]) ?_ rfl ?_
  ·rw[results_cell_tmp rfl]
   go_simp
  ·exact dP (Hh.out _ B.keeps) B.keeps _ _
 rw[if_neg c3]
 replace he:=he.resolve_left c3
 rw[if_pos he]
 obtain⟨hwx,he'⟩:=TH c1 c3 hsz he
 clear he
 go_enter Tryz.func137,Tryz.ntmps137
 go_wp2_with(go_at_call 157;refine(aW.out _ B.keeps).mono ?_;rintro e w1 ⟨rfl,hk1⟩;(try clear A0);(try clear A1);(try clear C0);(try clear C1);(try clear zA);(try clear zC);(try clear l0);(try clear l1);(try clear R0);(try clear R1);(try clear R2);(try clear R3);(try clear R4);(try clear hgl);(try clear Q0);(try clear T4);replace B:=B.on hk1;clear hk1;have A0:=B.A0;have A1:=B.A1;have C0:=B.C0;have C1:=B.C1;have zA:=B.zA;have zC:=B.zC;have l0:w.heap.size<w1.heap.size:=Nat.lt_of_lt_of_le (by simp) B.size;have l1:w.heap.size+1<w1.heap.size:=B.size)
 (try simp only[Exit.inBlock,Exit.then])
 refine bodyPost_ret (v:=.tuple #[.agg #[.slice p d.length c,.int .i64 room],.int .i64 18]) ?_ rfl ?_
 ·rw[results_cell_tmp rfl]
  go_simp
 ·exact dP (Hh.out _ B.keeps) B.keeps _ _
theorem TJ (h:aI S w p c d) (hS:∀g,w.heap.size<=g->S g) (hI:aG d) (hs:aP d) (i:Int) (X:Nat) (s:ByteArray) (c0:dM d i=0) (c2:s.size≠0) (hX:X+s.size<=4194304) (gP:room<used d+qp d i X s-(nd d i).data.size) :
 Calls Tryz.prog 137 #[aE p c d room,.int .i64 i,.int .i64 X,.string s] w (eH S w d room 20):=by
 have aW:=Lib.hid (fun(w1:World) (hk:aa af w w1)=>AL (room:=room) (h.ai hk) hI i)
 have ep:=Lib.hid (fun(w1:World) (hk:aa af w w1)=>rD (room:=room) (h.ai hk) hI.zero (Nat.le_of_lt hI.two) hI hs)
 have Hh:=Lib.hid (fun(w1:World) (hk:aa af w w1)=>h.gO hk)
 have B:=iH (w:=w) (aa.refl af ((w.alloc (.cells #[.slice p d.length c,.int .i64 room] 37)).alloc (.cells #[.slice none 0 0,.int .i64 0] 37)))
 rw[c0]at aW
 obtain⟨hi,hi1⟩:=m8 c0
 have bZ:=lg hI hs
 have hds:=(hI.node i).data
 have hne:(s.toList==[])=false:=beq_false_of_ne (fun e=>c2 ((toList_nil s).1 e))
 obtain⟨hwx,jB,TK⟩:=LA hX
 have hdl:d.length<=4294967296:=Nat.le_trans (jm d) (Nat.le_trans hs (by decide))
 obtain⟨k,rfl,hk⟩:=eP hi
 obtain⟨g,off,q,m,rfl,cI,hrow⟩:=h.rowAt hk
 have HC:=Lib.hid (fun(w1:World) (hk1:aa af w w1)=>(⟨(hrow.ai hk1).c0,(hrow.ai hk1).c1,(hrow.ai hk1).c2,(hrow.ai hk1).c3,(hrow.ai hk1).c4,(hrow.ai hk1).lt⟩:_∧_∧_∧_∧_∧_))
 unfold qp at gP
 rw[Int.toNat_natCast]at gP
 clear h hI hs hrow c0 hi hi1 hdl
 unfold aE at *
 by_cases hE:(nd d (k:Int)).data.size<X+s.size
 case pos =>
  obtain⟨hE',gH,lp,mb⟩:=ER bZ hX hds hE
  rw[gH,Int.natCast_add]at gP
  have hr:room<(used d:Int)+((X:Int)+(s.size:Int))-((nd d (k:Int)).data.size:Int):=gP
  clear bZ hds gP gH hE hX
  generalize(used d:Int)=us at *
  generalize(nd d (k:Int)).data=D at *
  generalize(nd d (k:Int)).ah.length=en at *
  have hwi:IntKind.i64.wrap (us+((X:Int)+(s.size:Int)))=us+((X:Int)+(s.size:Int)):=by rw[<- lp];exact nD _
  have mc:IntKind.i64.wrap (us+((X:Int)+(s.size:Int))-(D.size:Int))=us+((X:Int)+(s.size:Int))-(D.size:Int):=by rw[<- mb];exact nD _
  go_enter Tryz.func137,Tryz.ntmps137
  go_upto_region 15 with(go_at_call 157;refine(aW.out _ B.keeps).mono ?_;rintro e w1 ⟨rfl,hk1⟩;(try clear A0);(try clear A1);(try clear C0);(try clear C1);(try clear zA);(try clear zC);(try clear l0);(try clear l1);(try clear R0);(try clear R1);(try clear R2);(try clear R3);(try clear R4);(try clear hgl);(try clear Q0);(try clear T4);replace B:=B.on hk1;clear hk1;have A0:=B.A0;have A1:=B.A1;have C0:=B.C0;have C1:=B.C1;have zA:=B.zA;have zC:=B.zC;have l0:w.heap.size<w1.heap.size:=Nat.lt_of_lt_of_le (by simp) B.size;have l1:w.heap.size+1<w1.heap.size:=B.size;obtain⟨R0,R1,R2,R3,R4,hgl⟩:=HC.out _ B.keeps)
  have NB:=pH (w1:=w1) (aa.refl af (w1.alloc (.cells #[.int .i64 (nd d (k:Int)).kind,.int .i64 (nd d (k:Int)).mode,.int .i64 (nd d (k:Int)).holds,.string D,.slice q en m] 57)))
  have Bs:=B.size
  replace B:=B.on ((aa.refl af w1).alloc (.cells #[.int .i64 (nd d (k:Int)).kind,.int .i64 (nd d (k:Int)).mode,.int .i64 (nd d (k:Int)).holds,.string D,.slice q en m] 57))
  (try clear A0);(try clear A1);(try clear C0);(try clear C1);(try clear zA);(try clear zC);(try clear l0);(try clear l1);(try clear R0);(try clear R1);(try clear R2);(try clear R3);(try clear R4);(try clear hgl);(try clear Q0);(try clear T4)
  generalize w1.alloc (.cells #[.int .i64 (nd d (k:Int)).kind,.int .i64 (nd d (k:Int)).mode,.int .i64 (nd d (k:Int)).holds,.string D,.slice q en m] 57)=w2 at *
  have A0:=B.A0
  have A1:=B.A1
  go_cut [65]from 57 to 65 (fun x wx=>x=.bool true∧aa af w2 wx)
  case first =>
   have kr:aa af w2 w2:=aa.refl af w2
   have bh:aa af w2 w2.drew:=kr.drew
   have Bd:=B.on bh
   go_region_held3 (fun wz=>wz.cell? ⟨w.heap.size,0,none⟩=some (.slice (some ⟨g,off,none⟩) d.length c)∧wz.cell? ⟨w.heap.size,1,none⟩=some (.int .i64 room)∧aa af w2 wz) (first|exact⟨B.A0,B.A1,kr⟩|exact⟨Bd.A0,Bd.A1,bh⟩|exact⟨B6.A0,B6.A1,aR⟩|exact⟨fq.A0,fq.A1,fC⟩)
    (first|(go_at_call 26;refine(ep.out _ (B.keeps.trans (by assumption))).mono ?_;rintro e w6 ⟨rfl,cF⟩;have aR:aa af w2 w6:=aa.trans (by assumption) cF;have B6:=B.on aR;have fC:=aR.drew;have fq:=B.on fC;have qD:=B6.A0;have qE:=B6.A1))
   all_goals(go_wp2_with fail;go_meet;exact⟨by simp[hwi,mc,hr],by first|exact aR|exact aR.drew⟩)
  case rest =>
   obtain⟨rfl,aR⟩:=hcut
   replace B:=B.on aR
   replace NB:=NB.on aR
   clear aR ep aW HC
   (try clear A0);(try clear A1);(try clear C0);(try clear C1);(try clear zA);(try clear zC);(try clear l0);(try clear l1);(try clear R0);(try clear R1);(try clear R2);(try clear R3);(try clear R4);(try clear hgl);(try clear Q0);(try clear T4)
   have A0:=B.A0
   have A1:=B.A1
   have C0:=B.C0
   have C1:=B.C1
   have zA:=B.zA
   have zC:=B.zC
   go_wp2_with fail
   (try simp only[Exit.inBlock,Exit.then])
   refine bodyPost_ret (v:=.tuple #[.agg #[.slice (some ⟨g,off,none⟩) d.length c,.int .i64 room],.int .i64 20]) ?_ rfl ?_
   ·rw[results_cell_tmp rfl]
    go_simp
   ·exact dP (Hh.out _ B.keeps) B.keeps _ _
 case neg =>
  obtain⟨hE',gH,lp,mb⟩:=ES (X:=X) (L:=s.size) bZ hds hE
  rw[gH]at gP
  have hr:room<(used d:Int):=by rw[Int.add_sub_cancel]at gP;exact gP
  clear bZ hds gP gH hE hX
  generalize(used d:Int)=us at *
  generalize(nd d (k:Int)).data=D at *
  generalize(nd d (k:Int)).ah.length=en at *
  have hwi:IntKind.i64.wrap (us+(D.size:Int))=us+(D.size:Int):=by rw[<- lp];exact nD _
  have mc:IntKind.i64.wrap (us)=us:=by rw[<- mb];exact nD _
  go_enter Tryz.func137,Tryz.ntmps137
  go_upto_region 15 with(go_at_call 157;refine(aW.out _ B.keeps).mono ?_;rintro e w1 ⟨rfl,hk1⟩;(try clear A0);(try clear A1);(try clear C0);(try clear C1);(try clear zA);(try clear zC);(try clear l0);(try clear l1);(try clear R0);(try clear R1);(try clear R2);(try clear R3);(try clear R4);(try clear hgl);(try clear Q0);(try clear T4);replace B:=B.on hk1;clear hk1;have A0:=B.A0;have A1:=B.A1;have C0:=B.C0;have C1:=B.C1;have zA:=B.zA;have zC:=B.zC;have l0:w.heap.size<w1.heap.size:=Nat.lt_of_lt_of_le (by simp) B.size;have l1:w.heap.size+1<w1.heap.size:=B.size;obtain⟨R0,R1,R2,R3,R4,hgl⟩:=HC.out _ B.keeps)
  have NB:=pH (w1:=w1) (aa.refl af (w1.alloc (.cells #[.int .i64 (nd d (k:Int)).kind,.int .i64 (nd d (k:Int)).mode,.int .i64 (nd d (k:Int)).holds,.string D,.slice q en m] 57)))
  have Bs:=B.size
  replace B:=B.on ((aa.refl af w1).alloc (.cells #[.int .i64 (nd d (k:Int)).kind,.int .i64 (nd d (k:Int)).mode,.int .i64 (nd d (k:Int)).holds,.string D,.slice q en m] 57))
  (try clear A0);(try clear A1);(try clear C0);(try clear C1);(try clear zA);(try clear zC);(try clear l0);(try clear l1);(try clear R0);(try clear R1);(try clear R2);(try clear R3);(try clear R4);(try clear hgl);(try clear Q0);(try clear T4)
  generalize w1.alloc (.cells #[.int .i64 (nd d (k:Int)).kind,.int .i64 (nd d (k:Int)).mode,.int .i64 (nd d (k:Int)).holds,.string D,.slice q en m] 57)=w2 at *
  have A0:=B.A0
  have A1:=B.A1
  go_cut [65]from 57 to 65 (fun x wx=>x=.bool true∧aa af w2 wx)
  case first =>
   have kr:aa af w2 w2:=aa.refl af w2
   have bh:aa af w2 w2.drew:=kr.drew
   have Bd:=B.on bh
   go_region_held3 (fun wz=>wz.cell? ⟨w.heap.size,0,none⟩=some (.slice (some ⟨g,off,none⟩) d.length c)∧wz.cell? ⟨w.heap.size,1,none⟩=some (.int .i64 room)∧aa af w2 wz) (first|exact⟨B.A0,B.A1,kr⟩|exact⟨Bd.A0,Bd.A1,bh⟩|exact⟨B6.A0,B6.A1,aR⟩|exact⟨fq.A0,fq.A1,fC⟩)
    (first|(go_at_call 26;refine(ep.out _ (B.keeps.trans (by assumption))).mono ?_;rintro e w6 ⟨rfl,cF⟩;have aR:aa af w2 w6:=aa.trans (by assumption) cF;have B6:=B.on aR;have fC:=aR.drew;have fq:=B.on fC;have qD:=B6.A0;have qE:=B6.A1))
   all_goals(go_wp2_with fail;go_meet;exact⟨by simp[hwi,mc,hr],by first|exact aR|exact aR.drew⟩)
  case rest =>
   obtain⟨rfl,aR⟩:=hcut
   replace B:=B.on aR
   replace NB:=NB.on aR
   clear aR ep aW HC
   (try clear A0);(try clear A1);(try clear C0);(try clear C1);(try clear zA);(try clear zC);(try clear l0);(try clear l1);(try clear R0);(try clear R1);(try clear R2);(try clear R3);(try clear R4);(try clear hgl);(try clear Q0);(try clear T4)
   have A0:=B.A0
   have A1:=B.A1
   have C0:=B.C0
   have C1:=B.C1
   have zA:=B.zA
   have zC:=B.zC
   go_wp2_with fail
   (try simp only[Exit.inBlock,Exit.then])
   refine bodyPost_ret (v:=.tuple #[.agg #[.slice (some ⟨g,off,none⟩) d.length c,.int .i64 room],.int .i64 20]) ?_ rfl ?_
   ·rw[results_cell_tmp rfl]
    go_simp
   ·exact dP (Hh.out _ B.keeps) B.keeps _ _
end
set_option maxRecDepth 100000
set_option maxHeartbeats 2000000
theorem TL {n X L:Nat}:n<X∨(X<=n∧n<X+L)∨X+L<n∨X+L=n:=by omega
theorem LB {n X L:Nat} (h:X+L<=n):¬n<X+L:=by omega
theorem TM {n X L:Nat} (h:X+L=n):X<=n∧n<=X+L:=by omega
theorem TN {n X L:Nat} (h:X+L=n):¬((X:Int)+(L:Int)<(n:Int)):=by omega
theorem TP {n X:Nat} (h:X<=n):¬((n:Int)<(X:Int)):=by omega
theorem LC {n X L:Nat} (h:((n:Int)<(X:Int)+(L:Int))):¬((X:Int)+(L:Int)<(n:Int)):=by omega
theorem TQ {n X L:Nat} (hX:X+L<=4194304) (h:n<X):IntKind.i64.wrap ((X:Int)-(n:Int))=((X-n:Nat):Int):=by rw[IntKind.wrap_i64];omega
theorem TR {n X L:Nat} (hX:X+L<=4194304) (h:n<X):(9223372036854775807<n+(cX (X-n)).size)=False:=by rw[sO];simp;omega
theorem TS {n X L:Nat} (hX:X+L<=4194304):X-n<=4294967296:=by omega
theorem TT {D:ByteArray} {X:Nat} (h:D.size<X):(D++cX (X-D.size)).size=X:=by rw[ByteArray.size_append,sO];omega
theorem LD {n X L:Nat} (h:¬((n:Int)<(X:Int)+(L:Int))):¬((n:Int)<(X:Int)):=by omega
section
variable{S:Nat->Prop} {w:World} {p:Option Addr} {c:Nat} {d:ag} {room:Int}
theorem TU (h:aI S w p c d) (hS:∀g,w.heap.size<=g->S g) {k:Nat} (hk:k<d.length) {w2:World} (hk2:aa af w w2) (hsz:w.heap.size+2<=w2.heap.size) (hl:d.length<=4294967296) {g off m X:Nat} {q:Option Addr} {s:ByteArray} (hrow:vn S w g off k (nd d (k:Int)) q m)
 (D':ByteArray) (hD:D'=over ((nd d (k:Int)).data++cX (max (nd d (k:Int)).data.size (X+s.size)-(nd d (k:Int)).data.size)) X s) :
 Calls Tryz.prog 121 #[.agg #[.slice p d.length c,.int .i64 room],.int .i64 k,.agg #[.int .i64 (nd d (k:Int)).kind,.int .i64 (nd d (k:Int)).mode,.int .i64 (nd d (k:Int)).holds,.string D',.slice q (nd d (k:Int)).ah.length m]] w2 fun e w' =>
  ∃p' c',e=.returned (.agg #[.slice p' d.length c',.int .i64 room])∧aI (jh S w) w' p' c' (aX d (k:Int) (iw (nd d (k:Int)) X s))∧aa af w2 w':=by
 subst hD
 refine(sE (S:=jh S w) (room:=room) (h.gO hk2) (sF hS hsz) k hk hl (iw (nd d (k:Int)) X s) q m (hrow.sl.cN hk2 (fun _ _ _ h=>h) (fun g hg hl=>⟨hg,by omega,by omega⟩))).mono ?_
 rintro e w' ⟨v',rfl,⟨p',c',rfl,eU⟩,hk'⟩
 exact⟨p',c',by unfold aE;rw[jl],eU,hk'⟩
theorem TV (h:aI S w p c d) (hS:∀g,w.heap.size<=g->S g) (hI:aG d) (hs:aP d) (i:Int) (X:Nat) (s:ByteArray) (c0:dM d i=0) (c2:s.size≠0) (hX:X+s.size<=4194304) (gP:¬room<used d+qp d i X s-(nd d i).data.size) :
 Calls Tryz.prog 137 #[aE p c d room,.int .i64 i,.int .i64 X,.string s] w (eH S w (aX d i (iw (nd d i) X s)) room 0):=by
 have aW:=Lib.hid (fun(w1:World) (hk:aa af w w1)=>AL (room:=room) (h.ai hk) hI i)
 have ep:=Lib.hid (fun(w1:World) (hk:aa af w w1)=>rD (room:=room) (h.ai hk) hI.zero (Nat.le_of_lt hI.two) hI hs)
 have Hh:=Lib.hid (fun(w1:World) (hk:aa af w w1)=>h.gO hk)
 have B:=iH (w:=w) (aa.refl af ((w.alloc (.cells #[.slice p d.length c,.int .i64 room] 37)).alloc (.cells #[.slice none 0 0,.int .i64 0] 37)))
 rw[c0]at aW
 obtain⟨hi,hi1⟩:=m8 c0
 have bZ:=lg hI hs
 have hds:=(hI.node i).data
 have hne:(s.toList==[])=false:=beq_false_of_ne (fun e=>c2 ((toList_nil s).1 e))
 obtain⟨hwx,jB,TK⟩:=LA hX
 have hdl:d.length<=4294967296:=Nat.le_trans (jm d) (Nat.le_trans hs (by decide))
 obtain⟨k,rfl,hk⟩:=eP hi
 obtain⟨g,off,q,m,rfl,cI,hrow⟩:=h.rowAt hk
 have HC:=Lib.hid (fun(w1:World) (hk1:aa af w w1)=>(⟨(hrow.ai hk1).c0,(hrow.ai hk1).c1,(hrow.ai hk1).c2,(hrow.ai hk1).c3,(hrow.ai hk1).c4,(hrow.ai hk1).lt⟩:_∧_∧_∧_∧_∧_))
 unfold qp at gP
 rw[Int.toNat_natCast]at gP
 have HP:=Lib.hid (fun(w2:World) (hk2:aa af w w2) (hsz:w.heap.size+2<=w2.heap.size) (D':ByteArray) (hD:D'=over ((nd d (k:Int)).data++cX (max (nd d (k:Int)).data.size (X+s.size)-(nd d (k:Int)).data.size)) X s) =>
  TU (room:=room) h hS hk hk2 hsz hdl hrow D' hD)
 have hl2:(aX d (k:Int) (iw (nd d (k:Int)) X s)).length=d.length:=jl _ _ _
 clear h hI hs hrow c0 hi hi1 Hh hdl
 unfold aE at *
 have vm:=Lib.hid hl2
 clear hl2
 generalize aX d (k:Int) (iw (nd d (k:Int)) X s)=dd at *
 have HX:=Lib.hid hX
 have Wo:(s.size:Int)<=4194304:=Int.ofNat_le.2 (Nat.le_trans (Nat.le_add_left _ _) hX)
 have Wp:((nd d (k:Int)).data.size:Int)<=4194304:=Int.ofNat_le.2 hds
 have xk:(nd d (k:Int)).data.size<X∨(X<=(nd d (k:Int)).data.size∧(nd d (k:Int)).data.size<X+s.size)∨X+s.size<(nd d (k:Int)).data.size∨X+s.size=(nd d (k:Int)).data.size:=TL
 rcases xk with hF|⟨hF,hE⟩|jb|jb
 case inr.inr.inl =>
  have HW:=Lib.hid jb
  have hE:=LB (Nat.le_of_lt jb)
  replace jb:(X:Int)+(s.size:Int)<((nd d (k:Int)).data.size:Int):=by rw[<- Int.natCast_add];exact Int.ofNat_lt.2 jb
  obtain⟨hE',gH,lp,mb⟩:=ES (X:=X) (L:=s.size) bZ hds hE
  rw[gH]at gP
  have hr:¬room<(used d:Int):=by rw[Int.add_sub_cancel]at gP;exact gP
  clear bZ hds gP gH hE hX
  have hF:=LD hE'
  generalize(used d:Int)=us at *
  generalize(nd d (k:Int)).data=D at *
  generalize(nd d (k:Int)).ah.length=en at *
  have hwi:IntKind.i64.wrap (us+(D.size:Int))=us+(D.size:Int):=by rw[<- lp];exact nD _
  have mc:IntKind.i64.wrap (us)=us:=by rw[<- mb];exact nD _
  go_enter Tryz.func137,Tryz.ntmps137
  go_upto_region 15 with(go_at_call 157;refine(aW.out _ B.keeps).mono ?_;rintro e w1 ⟨rfl,hk1⟩;(try clear A0);(try clear A1);(try clear C0);(try clear C1);(try clear zA);(try clear zC);(try clear l0);(try clear l1);(try clear R0);(try clear R1);(try clear R2);(try clear R3);(try clear R4);(try clear hgl);(try clear Q0);(try clear T4);replace B:=B.on hk1;clear hk1;have A0:=B.A0;have A1:=B.A1;have C0:=B.C0;have C1:=B.C1;have zA:=B.zA;have zC:=B.zC;have l0:w.heap.size<w1.heap.size:=Nat.lt_of_lt_of_le (by simp) B.size;have l1:w.heap.size+1<w1.heap.size:=B.size;obtain⟨R0,R1,R2,R3,R4,hgl⟩:=HC.out _ B.keeps)
  have NB:=pH (w1:=w1) (aa.refl af (w1.alloc (.cells #[.int .i64 (nd d (k:Int)).kind,.int .i64 (nd d (k:Int)).mode,.int .i64 (nd d (k:Int)).holds,.string D,.slice q en m] 57)))
  have Bs:=B.size
  replace B:=B.on ((aa.refl af w1).alloc (.cells #[.int .i64 (nd d (k:Int)).kind,.int .i64 (nd d (k:Int)).mode,.int .i64 (nd d (k:Int)).holds,.string D,.slice q en m] 57))
  (try clear A0);(try clear A1);(try clear C0);(try clear C1);(try clear zA);(try clear zC);(try clear l0);(try clear l1);(try clear R0);(try clear R1);(try clear R2);(try clear R3);(try clear R4);(try clear hgl);(try clear Q0);(try clear T4)
  generalize w1.alloc (.cells #[.int .i64 (nd d (k:Int)).kind,.int .i64 (nd d (k:Int)).mode,.int .i64 (nd d (k:Int)).holds,.string D,.slice q en m] 57)=w2 at *
  have A0:=B.A0
  have A1:=B.A1
  go_cut [65]from 57 to 65 (fun x wx=>x=.bool false∧aa af w2 wx)
  case first =>
   have kr:aa af w2 w2:=aa.refl af w2
   have bh:aa af w2 w2.drew:=kr.drew
   have Bd:=B.on bh
   go_region_held3 (fun wz=>wz.cell? ⟨w.heap.size,0,none⟩=some (.slice (some ⟨g,off,none⟩) d.length c)∧wz.cell? ⟨w.heap.size,1,none⟩=some (.int .i64 room)∧aa af w2 wz) (first|exact⟨B.A0,B.A1,kr⟩|exact⟨Bd.A0,Bd.A1,bh⟩|exact⟨B6.A0,B6.A1,aR⟩|exact⟨fq.A0,fq.A1,fC⟩)
    (first|(go_at_call 26;refine(ep.out _ (B.keeps.trans (by assumption))).mono ?_;rintro e w6 ⟨rfl,cF⟩;have aR:aa af w2 w6:=aa.trans (by assumption) cF;have B6:=B.on aR;have fC:=aR.drew;have fq:=B.on fC;have qD:=B6.A0;have qE:=B6.A1))
   all_goals(go_wp2_with fail;go_meet;exact⟨by simp[hwi,mc,hr],by first|exact aR|exact aR.drew⟩)
  case rest =>
   obtain⟨rfl,aR⟩:=hcut
   replace B:=B.on aR
   replace NB:=NB.on aR
   clear aR ep aW HC
   (try clear A0);(try clear A1);(try clear C0);(try clear C1);(try clear zA);(try clear zC);(try clear l0);(try clear l1);(try clear R0);(try clear R1);(try clear R2);(try clear R3);(try clear R4);(try clear hgl);(try clear Q0);(try clear T4)
   have A0:=B.A0
   have A1:=B.A1
   have C0:=B.C0
   have C1:=B.C1
   have zA:=B.zA
   have zC:=B.zC
   have N0:=NB.N0
   have N1:=NB.N1
   have N2:=NB.N2
   have N3:=NB.N3
   have N4:=NB.N4
   have zN:=NB.zN
   have nA:¬w.heap.size=w1.heap.size:=by omega
   have rE:¬w1.heap.size=w.heap.size:=by omega
   go_wp2_with(first|(go_at_call 121;go_loud(refine(HP.out _ (B.set Bs 3 _).keeps (B.set Bs 3 _).size _ ((NW HW.out))).mono ?_);rintro e w8 ⟨p8,c8,rfl,pJ,fP⟩;have B8:=(B.set Bs 3 _).on fP;(try clear A0);(try clear A1);(try clear C0);(try clear C1);(try clear zA);(try clear zC);(try clear l0);(try clear l1);(try clear R0);(try clear R1);(try clear R2);(try clear R3);(try clear R4);(try clear hgl);(try clear Q0);(try clear T4);(try clear N0 N1 N2 N3 N4 zN);have C0:=B8.C0;have C1:=B8.C1;have zC:=B8.zC))
   (try simp only[Exit.inBlock,Exit.then])
   refine bodyPost_ret (v:=.tuple #[.agg #[.slice p8 d.length c8,.int .i64 room],.int .i64 0]) ?_ rfl ?_
   ·rw[results_cell_tmp rfl]
    go_simp
   ·have hz:=dP (room:=room) (err:=0) pJ B8.keeps (.slice p8 d.length c8) (.int .i64 room)
    unfold aE at hz
    rw[vm.out]at hz
    exact hz
 case inr.inr.inr =>
  have HW:=Lib.hid (TM jb)
  have hE:=LB (Nat.le_of_eq jb)
  replace jb:=TN jb
  obtain⟨hE',gH,lp,mb⟩:=ES (X:=X) (L:=s.size) bZ hds hE
  rw[gH]at gP
  have hr:¬room<(used d:Int):=by rw[Int.add_sub_cancel]at gP;exact gP
  clear bZ hds gP gH hE hX
  have hF:=LD hE'
  generalize(used d:Int)=us at *
  generalize(nd d (k:Int)).data=D at *
  generalize(nd d (k:Int)).ah.length=en at *
  have hwi:IntKind.i64.wrap (us+(D.size:Int))=us+(D.size:Int):=by rw[<- lp];exact nD _
  have mc:IntKind.i64.wrap (us)=us:=by rw[<- mb];exact nD _
  go_enter Tryz.func137,Tryz.ntmps137
  go_upto_region 15 with(go_at_call 157;refine(aW.out _ B.keeps).mono ?_;rintro e w1 ⟨rfl,hk1⟩;(try clear A0);(try clear A1);(try clear C0);(try clear C1);(try clear zA);(try clear zC);(try clear l0);(try clear l1);(try clear R0);(try clear R1);(try clear R2);(try clear R3);(try clear R4);(try clear hgl);(try clear Q0);(try clear T4);replace B:=B.on hk1;clear hk1;have A0:=B.A0;have A1:=B.A1;have C0:=B.C0;have C1:=B.C1;have zA:=B.zA;have zC:=B.zC;have l0:w.heap.size<w1.heap.size:=Nat.lt_of_lt_of_le (by simp) B.size;have l1:w.heap.size+1<w1.heap.size:=B.size;obtain⟨R0,R1,R2,R3,R4,hgl⟩:=HC.out _ B.keeps)
  have NB:=pH (w1:=w1) (aa.refl af (w1.alloc (.cells #[.int .i64 (nd d (k:Int)).kind,.int .i64 (nd d (k:Int)).mode,.int .i64 (nd d (k:Int)).holds,.string D,.slice q en m] 57)))
  have Bs:=B.size
  replace B:=B.on ((aa.refl af w1).alloc (.cells #[.int .i64 (nd d (k:Int)).kind,.int .i64 (nd d (k:Int)).mode,.int .i64 (nd d (k:Int)).holds,.string D,.slice q en m] 57))
  (try clear A0);(try clear A1);(try clear C0);(try clear C1);(try clear zA);(try clear zC);(try clear l0);(try clear l1);(try clear R0);(try clear R1);(try clear R2);(try clear R3);(try clear R4);(try clear hgl);(try clear Q0);(try clear T4)
  generalize w1.alloc (.cells #[.int .i64 (nd d (k:Int)).kind,.int .i64 (nd d (k:Int)).mode,.int .i64 (nd d (k:Int)).holds,.string D,.slice q en m] 57)=w2 at *
  have A0:=B.A0
  have A1:=B.A1
  go_cut [65]from 57 to 65 (fun x wx=>x=.bool false∧aa af w2 wx)
  case first =>
   have kr:aa af w2 w2:=aa.refl af w2
   have bh:aa af w2 w2.drew:=kr.drew
   have Bd:=B.on bh
   go_region_held3 (fun wz=>wz.cell? ⟨w.heap.size,0,none⟩=some (.slice (some ⟨g,off,none⟩) d.length c)∧wz.cell? ⟨w.heap.size,1,none⟩=some (.int .i64 room)∧aa af w2 wz) (first|exact⟨B.A0,B.A1,kr⟩|exact⟨Bd.A0,Bd.A1,bh⟩|exact⟨B6.A0,B6.A1,aR⟩|exact⟨fq.A0,fq.A1,fC⟩)
    (first|(go_at_call 26;refine(ep.out _ (B.keeps.trans (by assumption))).mono ?_;rintro e w6 ⟨rfl,cF⟩;have aR:aa af w2 w6:=aa.trans (by assumption) cF;have B6:=B.on aR;have fC:=aR.drew;have fq:=B.on fC;have qD:=B6.A0;have qE:=B6.A1))
   all_goals(go_wp2_with fail;go_meet;exact⟨by simp[hwi,mc,hr],by first|exact aR|exact aR.drew⟩)
  case rest =>
   obtain⟨rfl,aR⟩:=hcut
   replace B:=B.on aR
   replace NB:=NB.on aR
   clear aR ep aW HC
   (try clear A0);(try clear A1);(try clear C0);(try clear C1);(try clear zA);(try clear zC);(try clear l0);(try clear l1);(try clear R0);(try clear R1);(try clear R2);(try clear R3);(try clear R4);(try clear hgl);(try clear Q0);(try clear T4)
   have A0:=B.A0
   have A1:=B.A1
   have C0:=B.C0
   have C1:=B.C1
   have zA:=B.zA
   have zC:=B.zC
   have N0:=NB.N0
   have N1:=NB.N1
   have N2:=NB.N2
   have N3:=NB.N3
   have N4:=NB.N4
   have zN:=NB.zN
   have nA:¬w.heap.size=w1.heap.size:=by omega
   have rE:¬w1.heap.size=w.heap.size:=by omega
   go_wp2_with(first|(go_at_call 121;go_loud(refine(HP.out _ (B.set Bs 3 _).keeps (B.set Bs 3 _).size _ ((GW HW.out.1 HW.out.2))).mono ?_);rintro e w8 ⟨p8,c8,rfl,pJ,fP⟩;have B8:=(B.set Bs 3 _).on fP;(try clear A0);(try clear A1);(try clear C0);(try clear C1);(try clear zA);(try clear zC);(try clear l0);(try clear l1);(try clear R0);(try clear R1);(try clear R2);(try clear R3);(try clear R4);(try clear hgl);(try clear Q0);(try clear T4);(try clear N0 N1 N2 N3 N4 zN);have C0:=B8.C0;have C1:=B8.C1;have zC:=B8.zC))
   (try simp only[Exit.inBlock,Exit.then])
   refine bodyPost_ret (v:=.tuple #[.agg #[.slice p8 d.length c8,.int .i64 room],.int .i64 0]) ?_ rfl ?_
   ·rw[results_cell_tmp rfl]
    go_simp
   ·have hz:=dP (room:=room) (err:=0) pJ B8.keeps (.slice p8 d.length c8) (.int .i64 room)
    unfold aE at hz
    rw[vm.out]at hz
    exact hz
 case inl =>
  have hE:=Nat.lt_of_lt_of_le hF (Nat.le_add_right X s.size)
  obtain⟨hE',gH,lp,mb⟩:=ER bZ hX hds hE
  rw[gH,Int.natCast_add]at gP
  have hr:¬room<(used d:Int)+((X:Int)+(s.size:Int))-((nd d (k:Int)).data.size:Int):=gP
  clear bZ hds gP gH hE hX
  have HF:=Lib.hid hF
  have hR:=LC hE'
  have hsub:=TQ HX.out hF
  have hgs:=TT hF
  have hnz:=TR HX.out hF
  have hno:=fun wx=>TW wx (X-(nd d (k:Int)).data.size) (TS HX.out)
  rw[<- hsub]at hno
  clear hsub
  have LF:=Lib.hid (fun(wx:World)=>(hno wx).mono (R':=fun e w'=>e=.returned (.string (cX (X-(nd d (k:Int)).data.size)))∧w'=wx) (fun e w' h=>⟨h.1,h.2.symm⟩))
  clear hno
  replace hF:=Int.ofNat_lt.2 hF
  generalize(used d:Int)=us at *
  generalize(nd d (k:Int)).data=D at *
  generalize(nd d (k:Int)).ah.length=en at *
  have hwi:IntKind.i64.wrap (us+((X:Int)+(s.size:Int)))=us+((X:Int)+(s.size:Int)):=by rw[<- lp];exact nD _
  have mc:IntKind.i64.wrap (us+((X:Int)+(s.size:Int))-(D.size:Int))=us+((X:Int)+(s.size:Int))-(D.size:Int):=by rw[<- mb];exact nD _
  go_enter Tryz.func137,Tryz.ntmps137
  go_upto_region 15 with(go_at_call 157;refine(aW.out _ B.keeps).mono ?_;rintro e w1 ⟨rfl,hk1⟩;(try clear A0);(try clear A1);(try clear C0);(try clear C1);(try clear zA);(try clear zC);(try clear l0);(try clear l1);(try clear R0);(try clear R1);(try clear R2);(try clear R3);(try clear R4);(try clear hgl);(try clear Q0);(try clear T4);replace B:=B.on hk1;clear hk1;have A0:=B.A0;have A1:=B.A1;have C0:=B.C0;have C1:=B.C1;have zA:=B.zA;have zC:=B.zC;have l0:w.heap.size<w1.heap.size:=Nat.lt_of_lt_of_le (by simp) B.size;have l1:w.heap.size+1<w1.heap.size:=B.size;obtain⟨R0,R1,R2,R3,R4,hgl⟩:=HC.out _ B.keeps)
  have NB:=pH (w1:=w1) (aa.refl af (w1.alloc (.cells #[.int .i64 (nd d (k:Int)).kind,.int .i64 (nd d (k:Int)).mode,.int .i64 (nd d (k:Int)).holds,.string D,.slice q en m] 57)))
  have Bs:=B.size
  replace B:=B.on ((aa.refl af w1).alloc (.cells #[.int .i64 (nd d (k:Int)).kind,.int .i64 (nd d (k:Int)).mode,.int .i64 (nd d (k:Int)).holds,.string D,.slice q en m] 57))
  (try clear A0);(try clear A1);(try clear C0);(try clear C1);(try clear zA);(try clear zC);(try clear l0);(try clear l1);(try clear R0);(try clear R1);(try clear R2);(try clear R3);(try clear R4);(try clear hgl);(try clear Q0);(try clear T4)
  generalize w1.alloc (.cells #[.int .i64 (nd d (k:Int)).kind,.int .i64 (nd d (k:Int)).mode,.int .i64 (nd d (k:Int)).holds,.string D,.slice q en m] 57)=w2 at *
  have A0:=B.A0
  have A1:=B.A1
  go_cut [65]from 57 to 65 (fun x wx=>x=.bool false∧aa af w2 wx)
  case first =>
   have kr:aa af w2 w2:=aa.refl af w2
   have bh:aa af w2 w2.drew:=kr.drew
   have Bd:=B.on bh
   go_region_held3 (fun wz=>wz.cell? ⟨w.heap.size,0,none⟩=some (.slice (some ⟨g,off,none⟩) d.length c)∧wz.cell? ⟨w.heap.size,1,none⟩=some (.int .i64 room)∧aa af w2 wz) (first|exact⟨B.A0,B.A1,kr⟩|exact⟨Bd.A0,Bd.A1,bh⟩|exact⟨B6.A0,B6.A1,aR⟩|exact⟨fq.A0,fq.A1,fC⟩)
    (first|(go_at_call 26;refine(ep.out _ (B.keeps.trans (by assumption))).mono ?_;rintro e w6 ⟨rfl,cF⟩;have aR:aa af w2 w6:=aa.trans (by assumption) cF;have B6:=B.on aR;have fC:=aR.drew;have fq:=B.on fC;have qD:=B6.A0;have qE:=B6.A1))
   all_goals(go_wp2_with fail;go_meet;exact⟨by simp[hwi,mc,hr],by first|exact aR|exact aR.drew⟩)
  case rest =>
   obtain⟨rfl,aR⟩:=hcut
   replace B:=B.on aR
   replace NB:=NB.on aR
   clear aR ep aW HC
   (try clear A0);(try clear A1);(try clear C0);(try clear C1);(try clear zA);(try clear zC);(try clear l0);(try clear l1);(try clear R0);(try clear R1);(try clear R2);(try clear R3);(try clear R4);(try clear hgl);(try clear Q0);(try clear T4)
   have A0:=B.A0
   have A1:=B.A1
   have C0:=B.C0
   have C1:=B.C1
   have zA:=B.zA
   have zC:=B.zC
   have N0:=NB.N0
   have N1:=NB.N1
   have N2:=NB.N2
   have N3:=NB.N3
   have N4:=NB.N4
   have zN:=NB.zN
   have nA:¬w.heap.size=w1.heap.size:=by omega
   have rE:¬w1.heap.size=w.heap.size:=by omega
   go_upto_region 18 with(fail)
   go_still_tail 8,(by kernel_rfl)
   still_call (LF.out _)
   repeat still_step
   refine wpStill_nil ?_
   change wpList _ _ _ _ _ wc.drew
   replace B:=B.on (aa.refl af wc).drew
   replace NB:=NB.on (aa.refl af wc).drew
   clear N0 N1 N2 N3 N4 zN
   (try clear A0);(try clear A1);(try clear C0);(try clear C1);(try clear zA);(try clear zC);(try clear l0);(try clear l1);(try clear R0);(try clear R1);(try clear R2);(try clear R3);(try clear R4);(try clear hgl);(try clear Q0);(try clear T4)
   clear LF
   generalize wc.drew=wd at *
   have A0:=B.A0
   have A1:=B.A1
   have C0:=B.C0
   have C1:=B.C1
   have zA:=B.zA
   have zC:=B.zC
   have N0:=NB.N0
   have N1:=NB.N1
   have N2:=NB.N2
   have N3:=NB.N3
   have N4:=NB.N4
   have zN:=NB.zN
   go_wp2_with(first|(go_at_call 121;go_loud(refine(HP.out _ ((B.set Bs 3 _).set Bs 3 _).keeps ((B.set Bs 3 _).set Bs 3 _).size _ ((NX HF.out))).mono ?_);rintro e w8 ⟨p8,c8,rfl,pJ,fP⟩;have B8:=((B.set Bs 3 _).set Bs 3 _).on fP;(try clear A0);(try clear A1);(try clear C0);(try clear C1);(try clear zA);(try clear zC);(try clear l0);(try clear l1);(try clear R0);(try clear R1);(try clear R2);(try clear R3);(try clear R4);(try clear hgl);(try clear Q0);(try clear T4);(try clear N0 N1 N2 N3 N4 zN);have C0:=B8.C0;have C1:=B8.C1;have zC:=B8.zC))
   (try simp only[Exit.inBlock,Exit.then])
   refine bodyPost_ret (v:=.tuple #[.agg #[.slice p8 d.length c8,.int .i64 room],.int .i64 0]) ?_ rfl ?_
   ·rw[results_cell_tmp rfl]
    go_simp
   ·have hz:=dP (room:=room) (err:=0) pJ B8.keeps (.slice p8 d.length c8) (.int .i64 room)
    unfold aE at hz
    rw[vm.out]at hz
    exact hz
 case inr.inl =>
  have HW:=Lib.hid (⟨hF,Nat.le_of_lt hE⟩:X<=(nd d (k:Int)).data.size∧(nd d (k:Int)).data.size<=X+s.size)
  obtain⟨hE',gH,lp,mb⟩:=ER bZ hX hds hE
  rw[gH,Int.natCast_add]at gP
  have hr:¬room<(used d:Int)+((X:Int)+(s.size:Int))-((nd d (k:Int)).data.size:Int):=gP
  clear bZ hds gP gH hE hX
  have hR:=LC hE'
  replace hF:=TP hF
  generalize(used d:Int)=us at *
  generalize(nd d (k:Int)).data=D at *
  generalize(nd d (k:Int)).ah.length=en at *
  have hwi:IntKind.i64.wrap (us+((X:Int)+(s.size:Int)))=us+((X:Int)+(s.size:Int)):=by rw[<- lp];exact nD _
  have mc:IntKind.i64.wrap (us+((X:Int)+(s.size:Int))-(D.size:Int))=us+((X:Int)+(s.size:Int))-(D.size:Int):=by rw[<- mb];exact nD _
  go_enter Tryz.func137,Tryz.ntmps137
  go_upto_region 15 with(go_at_call 157;refine(aW.out _ B.keeps).mono ?_;rintro e w1 ⟨rfl,hk1⟩;(try clear A0);(try clear A1);(try clear C0);(try clear C1);(try clear zA);(try clear zC);(try clear l0);(try clear l1);(try clear R0);(try clear R1);(try clear R2);(try clear R3);(try clear R4);(try clear hgl);(try clear Q0);(try clear T4);replace B:=B.on hk1;clear hk1;have A0:=B.A0;have A1:=B.A1;have C0:=B.C0;have C1:=B.C1;have zA:=B.zA;have zC:=B.zC;have l0:w.heap.size<w1.heap.size:=Nat.lt_of_lt_of_le (by simp) B.size;have l1:w.heap.size+1<w1.heap.size:=B.size;obtain⟨R0,R1,R2,R3,R4,hgl⟩:=HC.out _ B.keeps)
  have NB:=pH (w1:=w1) (aa.refl af (w1.alloc (.cells #[.int .i64 (nd d (k:Int)).kind,.int .i64 (nd d (k:Int)).mode,.int .i64 (nd d (k:Int)).holds,.string D,.slice q en m] 57)))
  have Bs:=B.size
  replace B:=B.on ((aa.refl af w1).alloc (.cells #[.int .i64 (nd d (k:Int)).kind,.int .i64 (nd d (k:Int)).mode,.int .i64 (nd d (k:Int)).holds,.string D,.slice q en m] 57))
  (try clear A0);(try clear A1);(try clear C0);(try clear C1);(try clear zA);(try clear zC);(try clear l0);(try clear l1);(try clear R0);(try clear R1);(try clear R2);(try clear R3);(try clear R4);(try clear hgl);(try clear Q0);(try clear T4)
  generalize w1.alloc (.cells #[.int .i64 (nd d (k:Int)).kind,.int .i64 (nd d (k:Int)).mode,.int .i64 (nd d (k:Int)).holds,.string D,.slice q en m] 57)=w2 at *
  have A0:=B.A0
  have A1:=B.A1
  go_cut [65]from 57 to 65 (fun x wx=>x=.bool false∧aa af w2 wx)
  case first =>
   have kr:aa af w2 w2:=aa.refl af w2
   have bh:aa af w2 w2.drew:=kr.drew
   have Bd:=B.on bh
   go_region_held3 (fun wz=>wz.cell? ⟨w.heap.size,0,none⟩=some (.slice (some ⟨g,off,none⟩) d.length c)∧wz.cell? ⟨w.heap.size,1,none⟩=some (.int .i64 room)∧aa af w2 wz) (first|exact⟨B.A0,B.A1,kr⟩|exact⟨Bd.A0,Bd.A1,bh⟩|exact⟨B6.A0,B6.A1,aR⟩|exact⟨fq.A0,fq.A1,fC⟩)
    (first|(go_at_call 26;refine(ep.out _ (B.keeps.trans (by assumption))).mono ?_;rintro e w6 ⟨rfl,cF⟩;have aR:aa af w2 w6:=aa.trans (by assumption) cF;have B6:=B.on aR;have fC:=aR.drew;have fq:=B.on fC;have qD:=B6.A0;have qE:=B6.A1))
   all_goals(go_wp2_with fail;go_meet;exact⟨by simp[hwi,mc,hr],by first|exact aR|exact aR.drew⟩)
  case rest =>
   obtain⟨rfl,aR⟩:=hcut
   replace B:=B.on aR
   replace NB:=NB.on aR
   clear aR ep aW HC
   (try clear A0);(try clear A1);(try clear C0);(try clear C1);(try clear zA);(try clear zC);(try clear l0);(try clear l1);(try clear R0);(try clear R1);(try clear R2);(try clear R3);(try clear R4);(try clear hgl);(try clear Q0);(try clear T4)
   have A0:=B.A0
   have A1:=B.A1
   have C0:=B.C0
   have C1:=B.C1
   have zA:=B.zA
   have zC:=B.zC
   have N0:=NB.N0
   have N1:=NB.N1
   have N2:=NB.N2
   have N3:=NB.N3
   have N4:=NB.N4
   have zN:=NB.zN
   have nA:¬w.heap.size=w1.heap.size:=by omega
   have rE:¬w1.heap.size=w.heap.size:=by omega
   go_wp2_with(first|(go_at_call 121;go_loud(refine(HP.out _ (B.set Bs 3 _).keeps (B.set Bs 3 _).size _ ((GW HW.out.1 HW.out.2))).mono ?_);rintro e w8 ⟨p8,c8,rfl,pJ,fP⟩;have B8:=(B.set Bs 3 _).on fP;(try clear A0);(try clear A1);(try clear C0);(try clear C1);(try clear zA);(try clear zC);(try clear l0);(try clear l1);(try clear R0);(try clear R1);(try clear R2);(try clear R3);(try clear R4);(try clear hgl);(try clear Q0);(try clear T4);(try clear N0 N1 N2 N3 N4 zN);have C0:=B8.C0;have C1:=B8.C1;have zC:=B8.zC))
   (try simp only[Exit.inBlock,Exit.then])
   refine bodyPost_ret (v:=.tuple #[.agg #[.slice p8 d.length c8,.int .i64 room],.int .i64 0]) ?_ rfl ?_
   ·rw[results_cell_tmp rfl]
    go_simp
   ·have hz:=dP (room:=room) (err:=0) pJ B8.keeps (.slice p8 d.length c8) (.int .i64 room)
    unfold aE at hz
    rw[vm.out]at hz
    exact hz
end
set_option maxRecDepth 100000
set_option maxHeartbeats 1000000
section
variable{S:Nat->Prop} {w:World} {p:Option Addr} {c:Nat} {d:ag} {room:Int}
theorem LG {a u m:Int}:(a-u<m)↔(a<u+m):=by omega
theorem TX (h:aI S w p c d) (hS:∀g,w.heap.size<=g->S g) (hI:aG d) (hs:aP d) (i x:Int) (s:ByteArray) (hsz:s.size<=4294967296) :
 Calls Tryz.prog 137 #[aE p c d room,.int .i64 i,.int .i64 x,.string s] w (eH S w (iy d room i x s) room (iK d room i x s)):=by
 by_cases he:dM d i≠0∨x<0∨s.size=0∨4194304<x∨4194304-x<s.size
 ·have hw:iy d room i x s=d:=by
   unfold iy
   rw[if_neg]
   rintro⟨h1,h2⟩
   unfold iK at h1
   by_cases a0:dM d i=0
   ·rw[if_neg (by simpa using a0)]at h1
    by_cases a1:x<0
    ·rw[if_pos a1]at h1;cases h1
    rw[if_neg a1,if_neg h2]at h1
    by_cases a3:4194304<x
    ·rw[if_pos a3]at h1;cases h1
    rw[if_neg a3]at h1
    by_cases a4:4194304-x<s.size
    ·rw[if_pos a4]at h1;cases h1
    exact he.elim (fun h=>h a0) (fun h=>h.elim a1 (fun h=>h.elim h2 (fun h=>h.elim a3 a4)))
   ·rw[if_pos a0]at h1;exact a0 h1
  rw[hw]
  exact TI h hI i x s hsz he
 ·have c0:dM d i=0:=Classical.byContradiction (fun h=>he (.inl h))
  have c1:¬x<0:=fun h=>he (.inr (.inl h))
  have c2:s.size≠0:=fun h=>he (.inr (.inr (.inl h)))
  have c3:¬4194304<x:=fun h=>he (.inr (.inr (.inr (.inl h))))
  have c4:¬4194304-x<s.size:=fun h=>he (.inr (.inr (.inr (.inr h))))
  clear he
  obtain⟨X,rfl⟩:∃X:Nat,x=(X:Int):=⟨x.toNat,(Int.toNat_of_nonneg (Int.not_lt.1 c1)).symm⟩
  have hX:X+s.size<=4194304:=by clear c0 h hS hI hs;omega
  have hE:iK d room i X s=if room-used d<qp d i X s-(nd d i).data.size then 20 else 0:=by
   unfold iK
   rw[if_neg (by simpa using c0),if_neg c1,if_neg c2,if_neg c3,if_neg c4]
  by_cases hr:room-used d<qp d i X s-(nd d i).data.size
  ·rw[if_pos hr]at hE
   have hw:iy d room i X s=d:=by unfold iy;rw[if_neg (fun h=>by rw[hE]at h;cases h.1)]
   rw[hw,hE]
   exact TJ h hS hI hs i X s c0 c2 hX (by rw[Int.add_sub_assoc];exact LG.1 hr)
  ·rw[if_neg hr]at hE
   have hw:iy d room i X s=aX d i (iw (nd d i) X s):=by unfold iy;rw[if_pos ⟨hE,c2⟩,Int.toNat_natCast]
   rw[hw,hE]
   exact TV h hS hI hs i X s c0 c2 hX (by rw[Int.add_sub_assoc];exact fun h=>hr (LG.2 h))
end
end Go.Proofs.YtnanhmfpikddkaaGreatDoor
