/-
  Contracts of package walk: into,step.
-/
import Derived.Test.YtnanhmfpikddkaaGreatDoorG03
import Derived.Test.YtnanhmfpikddkaaGreatDoorG01
import Derived.Test.YtnanhmfpikddkaaGreatDoorG02
import Derived.Test.YtnanhmfpikddkaaGreatDoorG04
import Derived.Deep.RegionHeld3

set_option linter.unusedSimpArgs false
set_option linter.unusedVariables false
set_option maxRecDepth 100000
set_option maxHeartbeats 2000000
namespace Go.Proofs.YtnanhmfpikddkaaGreatDoor
open Go Go.RowKit
section
variable{R:RD} {w0 w w':World} {a g:Nat} {d:ag} {room us:Int} {lk up:Int->Int}
theorem Fu (h:aS R w a d room us lk up) (i:Int) (er:Int) (he:er=if has d i then 0 else 12) :
 Calls Tryz.prog 28 #[.pointer (some ⟨a,0,none⟩),.int .i64 i] w fun e w' =>
  ∃m l hh z:Int,(has d i->m=(nd d i).mode)∧e=.returned (.tuple #[.agg #[.int .i64 (nd d i).kind,.int .i64 m,.int .i64 l,.int .i64 hh,.int .i64 z],.int .i64 er])∧aa af w w':=by
 subst he
 refine(Iq h i).mono ?_
 rintro e w' ⟨rfl,hk⟩
 by_cases hi:has d i
 ·refine⟨(nd d i).mode,lk i,(nd d i).holds,sizeOf4 (nd d i),fun _=>rfl,?_,hk⟩
  rw[if_pos hi]
  rfl
 ·refine⟨0,0,0,0,fun h=>absurd h hi,?_,hk⟩
  rw[if_neg hi,j8 hi]
  rfl
structure di (w:World) (g a:Nat) (at':Int) (n:Nat):Prop where
 lt:g<w.heap.size
 c0:w.cell? ⟨g,0,none⟩=some (.pointer (some ⟨a,0,none⟩))
 c1:w.cell? ⟨g,1,none⟩=some (.int .i64 at')
 c2:w.cell? ⟨g,2,none⟩=some (.int .i64 n)
 fz:∀j,w.frozen? ⟨g,j,none⟩=false
theorem di.keep {F:Nat->Prop} {at':Int} {n:Nat} (h:di w g a at' n) (k:aa F w w') (hF:¬F g):di w' g a at' n :=
 ⟨Nat.lt_of_lt_of_le h.lt k.size,(k.cell (p:=⟨g,0,none⟩) h.lt hF).trans h.c0,(k.cell (p:=⟨g,1,none⟩) h.lt hF).trans h.c1,(k.cell (p:=⟨g,2,none⟩) h.lt hF).trans h.c2,fun j=>(k.frozen (p:=⟨g,j,none⟩) h.lt hF).trans (h.fz j)⟩
theorem di.on {at':Int} {n:Nat} (h:di w g a at' n) (k:aa af w w'):di w' g a at' n:=h.keep k (fun h=>h)
theorem Vy:∀n:Fin 4096,(bits BinOp.and IntKind.i64 (n.val:Int) 64==0)=decide ((n.val:Int) / 64 % 2=0):=by decide +kernel
theorem I8 (m:Int) (h0:0<=m) (h1:m<=4095):(bits BinOp.and IntKind.i64 m 64==0)=decide (m / 64 % 2=0):=by
 have:=Vy ⟨m.toNat,by omega⟩
 simp only[Int.toNat_of_nonneg h0]at this
 exact this
theorem o9 {w w1:World} {cs:Array Value} {T:TypeId} (k:aa af (w.alloc (.cells cs T)).drew w1) (j:Nat) (v:Value) (h:cs[j]?=some v):w1.cell? ⟨w.heap.size,j,none⟩=some v :=
 boxed ((aa.refl af _).drew.trans k) j v h
theorem Dm {w w1:World} {cs:Array Value} {T:TypeId} (k:aa af (w.alloc (.cells cs T)).drew w1) (j:Nat):w1.frozen? ⟨w.heap.size,j,none⟩=false :=
 nW ((aa.refl af _).drew.trans k) j
theorem Mg (h:aS R w0 a d room us lk up) (k:aa af w0 w) {at':Int} {n:Nat} (hw:di w g a at' n) (hI:aG d) :
 Calls Tryz.prog 75 #[.pointer (some ⟨g,0,none⟩)] w fun e w'=>e=.returned (.int .i64 (bI d at'))∧aa af w w':=by
 obtain⟨er,her⟩:∃er:Int,er=if has d at' then 0 else 12:=⟨_,rfl⟩
 have cw:=Lib.hid (fun(w1:World) (hk:aa af w w1)=>Fu (h.ai (k.trans hk)) at' er her)
 have Mh:=Lib.hid her
 clear her
 have c0:=hw.c0
 have c1:=hw.c1
 go_enter Tryz.func75,Tryz.ntmps75
 go_upto_region 1 with fail
 go_cut [3,4]from 3 to 16 (fun x y wx=>∃(G:Nat) (m l hh z:Int),(has d at'->m=(nd d at').mode)∧x=.pointer (some ⟨G,0,none⟩)∧y=.int .i64 er∧wx.cell? ⟨G,0,none⟩=some (.int .i64 (nd d at').kind)∧wx.cell? ⟨G,1,none⟩=some (.int .i64 m)∧aa af w wx)
 case first =>
  have kr:=aa.refl af w
  have bh:=kr.drew
  have d0:=(hw.on bh).c0
  have d1:=(hw.on bh).c1
  go_region_held3 (fun wz=>wz.cell? ⟨g,0,none⟩=some (.pointer (some ⟨a,0,none⟩))∧wz.cell? ⟨g,1,none⟩=some (.int .i64 at')∧aa af w wz) (refine⟨?_,?_,?_⟩<;>first|with_reducible assumption|(with_reducible refine(hw.on ?_).c0;exact kG)|(with_reducible refine(hw.on ?_).c1;exact kG)|(exact kG))
   (first|(go_at_call 28;refine(cw.out _ kG).mono ?_;rintro e w1 ⟨m,l,hh,z,hm,rfl,hk1⟩;have bV:aa af w w1:=aa.trans kG hk1;have zs:=bV.size;have z0:=(hw.on bV).c0;have z1:=(hw.on bV).c1;(try(have b0:=o9 hk1 0 _ rfl;have b1:=o9 hk1 1 _ rfl;have b2:=o9 hk1 2 _ rfl;have b3:=o9 hk1 3 _ rfl;have b4:=o9 hk1 4 _ rfl;have f0:=Dm hk1))))
  all_goals(go_wp2_with fail;go_meet;refine⟨_,m,l,hh,z,hm,rfl,rfl,?_,?_,?_⟩)
  all_goals first
   | (with_reducible exact boxed (aa.refl af _) 0 _ rfl)
   | (with_reducible exact boxed (aa.refl af _) 1 _ rfl)
   | (exact kG)
   | (go_simp;done)
   | skip
 case rest =>
  obtain⟨G,m,l,hh,z,hm,rfl,rfl,i0,i1,hk1⟩:=hcut
  clear c0 c1 cw
  have her:=Mh.out
  clear Mh
  have HI:=Lib.hid (show bI d at'=if er≠0 then er else if (nd d at').kind≠2 then 14 else if (bits BinOp.and IntKind.i64 m 64==0)=true then 19 else 0 by
   unfold bI aO
   by_cases hi:has d at'
   ·have hk:¬(nd d at').kind=0:=hi
    rw[if_pos hi]at her
    rw[hm hi,I8 _ (hI.node at').mV (hI.node at').mW,her]
    by_cases h2:(nd d at').kind=2
    ·simp[h2]
    ·simp[h2,hk]
   ·rw[if_neg hi]at her
    rw[her,j8 hi]
    simp)
  clear her
  go_wp2_with fail
  all_goals
   go_ret
   refine⟨cR ?_,hk1⟩
   rw[HI.out]
   simp_all
end
end Go.Proofs.YtnanhmfpikddkaaGreatDoor
namespace Go.Proofs.YtnanhmfpikddkaaGreatDoor
open Go.RowKit
section
variable{d:ag} {f t k:Int} {name other:ByteArray}
def yV (d:ag) (f:Int) (name:ByteArray) (t:Int) (other:ByteArray) (k:Int):List aD :=
 if bu (nd d t).ah other then eW (nd (aZ d f name) t).ah other k else bY (nd (aZ d f name) t).ah other k
theorem NR {i j:Int} (hi:has d i) (hj:has d j) (hne:i≠j) (l m:List aD):dz (dz d i l) j m=dz (dz d j m) i l:=by
 have h1:=bF hi
 have h2:=bF hj
 unfold dz
 rw[gu h1.1 h1.2,gu h2.1 h2.2,if_neg (fun e=>hne e.symm),if_neg hne]
 unfold aX
 rw[if_pos h1.1,if_pos h2.1,if_pos h1.1]
 rw[if_pos h2.1]
 exact List.set_comm _ _ (by omega)
theorem cE.ref (M:cE d f name t other k):dz (aZ d f name) t (yV d f name t other k)=bL d f name t other k:=by
 unfold bL yV
 by_cases e:f=t
 ·subst e
  have hne:name≠other:=fun h=>M.ne ⟨rfl,h⟩
  have h1:(nd (aZ d f name) f).ah=bQ (nd d f).ah name:=by unfold aZ;rw[mF M.hf,if_pos rfl]
  rw[h1]
  unfold aZ eM
  rw[yN M.hf,mF M.hf,if_pos rfl,yN M.hf]
  congr 1
  unfold gI
  cases hh:bu (nd d f).ah other with
  | true=>simp only[if_true];rw[NS M.rt hne]
  | false=>simp only[Bool.false_eq_true,if_false];rw[NT M.rt hh hne]
 ·have h1:(nd (aZ d f name) t).ah=(nd d t).ah:=by unfold aZ;rw[mF M.hf,if_neg (fun h=>e h.symm)]
  have h2:(nd (eM d t other k) f).ah=(nd d f).ah:=by unfold eM;rw[mF M.ht,if_neg e]
  rw[h1]
  unfold aZ
  rw[h2]
  unfold eM gI
  exact NR M.hf M.ht e _ _
theorem cE.free (M:cE d f name t other k) (hcl:bK d):(∀old,bk (nd d t).ah other=some old->Go.Proofs.YtnanhmfpikddkaaGreatDoor.has (bL d f name t other k) old∧∀j,fS (bL d f name t other k) j->j=old) ∧
 (bk (nd d t).ah other=none->gc (bL d f name t other k)=bL d f name t other k):=by
 have hl:=M.links
 refine⟨fun old ho=>⟨(M.has old).2 (M.inv.tgt t _ (dV ho)).1,fun j hj=>?_⟩,fun ho=>BM fun j hj=>?_⟩
 ·obtain⟨g1,g2,g3⟩:=hj
  rw[M.holds]at g3
  have h2:=hl j
  unfold nR at h2
  rw[ho]at h2
  simp only at h2
  unfold lX at h2
  by_cases e:j=old
  ·exact e
  ·rw[if_neg e]at h2
   exact absurd ⟨(M.has j).1 g1,by omega,g3⟩ (hcl j)
 ·obtain⟨g1,g2,g3⟩:=hj
  rw[M.holds]at g3
  have h2:=hl j
  unfold nR at h2
  rw[ho]at h2
  simp only at h2
  unfold zp at h2
  exact hcl j ⟨(M.has j).1 g1,by omega,g3⟩
theorem cE.small (M:cE d f name t other k) (hs:aP d):aP (bL d f name t other k):=by
 have:=M.aH
 unfold aP at *
 omega
theorem cE.GU (M:cE d f name t other k):bu (nd (aZ d f name) t).ah other=bu (nd d t).ah other:=by
 unfold aZ
 rw[mF M.hf]
 split
 ·next e =>
  subst e
  rw[Ck]
  have:decide (other=name)=false:=decide_eq_false (fun h=>M.ne ⟨rfl,h.symm⟩)
  first|(rw[this];simp)|simp[this]
 ·rfl
end
set_option maxRecDepth 100000
set_option maxHeartbeats 2000000
section
variable{S:Nat->Prop} {w:World} {p:Option Addr} {c:Nat} {d:ag} {room:Int}
theorem Ln (h:aI S w p c d) (hI:aG d) (hs:aP d) (f:Int) (name:ByteArray) (t:Int) (other:ByteArray) (he:bH d f name≠0∨aO d t≠0) :
 Calls Tryz.prog 93 #[aE p c d room,.int .i64 f,.string name,.int .i64 t,.string other] w (eH S w d room (if bH d f name≠0 then bH d f name else aO d t)):=by
 have hcap:=h.cap
 have hmax:=h.max
 unfold maxLen at hmax
 have dG:=Lib.hid (fun(w1:World) (hk:aa af w w1)=>qB (room:=room) (h.ai hk) hI.zero t)
 have dJ:=Lib.hid (fun(w1:World) (hk:aa af w w1)=>nC (room:=room) (h.ai hk) hI f name)
 have Hh:=Lib.hid (fun(w1:World) (hk:aa af w w1)=>h.gO hk)
 have B:=iH (w:=w) (aa.refl af ((w.alloc (.cells #[.slice p d.length c,.int .i64 room] 37)).alloc (.cells #[.slice none 0 0,.int .i64 0] 37)))
 by_cases c0:bH d f name=0
 case neg =>
  rw[if_pos c0]
  clear h hI hs dG he
  generalize bH d f name=er at *
  generalize aN d f name=ko at *
  unfold aE at *
  go_enter Tryz.func93,Tryz.ntmps93
  go_wp2_with(go_at_call 123;refine(dJ.out _ B.keeps).mono ?_;rintro e w1 ⟨rfl,hk1⟩;(try clear A0);(try clear A1);(try clear C0);(try clear C1);(try clear zA);(try clear zC);(try clear l0);(try clear l1);(try clear R0);(try clear R1);(try clear R2);(try clear R3);(try clear R4);(try clear hgl);(try clear Q0);(try clear T4);replace B:=B.on hk1;clear hk1;have A0:=B.A0;have A1:=B.A1;have C0:=B.C0;have C1:=B.C1;have zA:=B.zA;have zC:=B.zC;have l0:w.heap.size<w1.heap.size:=Nat.lt_of_lt_of_le (by simp) B.size;have l1:w.heap.size+1<w1.heap.size:=B.size)
  (try simp only[Exit.inBlock,Exit.then])
  refine bodyPost_ret (v:=.tuple #[.agg #[.slice p d.length c,.int .i64 room],.int .i64 er]) ?_ rfl ?_
  ·rw[results_cell_tmp rfl]
   go_simp
  ·exact dP (Hh.out _ B.keeps) B.keeps _ _
 case pos =>
  rw[if_neg (by simpa using c0)]
  replace he:=he.resolve_left (by simpa using c0)
  rw[c0]at dJ
  clear h hI hs
  generalize aO d t=er at *
  generalize aN d f name=ko at *
  unfold aE at *
  go_enter Tryz.func93,Tryz.ntmps93
  go_wp2_with(first|(go_at_call 123;refine(dJ.out _ B.keeps).mono ?_;rintro e w1 ⟨rfl,hk1⟩;(try clear A0);(try clear A1);(try clear C0);(try clear C1);(try clear zA);(try clear zC);(try clear l0);(try clear l1);(try clear R0);(try clear R1);(try clear R2);(try clear R3);(try clear R4);(try clear hgl);(try clear Q0);(try clear T4);replace B:=B.on hk1;clear hk1;have A0:=B.A0;have A1:=B.A1;have C0:=B.C0;have C1:=B.C1;have zA:=B.zA;have zC:=B.zC;have l0:w.heap.size<w1.heap.size:=Nat.lt_of_lt_of_le (by simp) B.size;have l1:w.heap.size+1<w1.heap.size:=B.size)|(go_at_call 119;refine(dG.out _ B.keeps).mono ?_;rintro e w1 ⟨rfl,hk1⟩;(try clear A0);(try clear A1);(try clear C0);(try clear C1);(try clear zA);(try clear zC);(try clear l0);(try clear l1);(try clear R0);(try clear R1);(try clear R2);(try clear R3);(try clear R4);(try clear hgl);(try clear Q0);(try clear T4);replace B:=B.on hk1;clear hk1;have A0:=B.A0;have A1:=B.A1;have C0:=B.C0;have C1:=B.C1;have zA:=B.zA;have zC:=B.zC;have l0:w.heap.size<w1.heap.size:=Nat.lt_of_lt_of_le (by simp) B.size;have l1:w.heap.size+1<w1.heap.size:=B.size))
  (try simp only[Exit.inBlock,Exit.then])
  refine bodyPost_ret (v:=.tuple #[.agg #[.slice p d.length c,.int .i64 room],.int .i64 er]) ?_ rfl ?_
  ·rw[results_cell_tmp rfl]
   go_simp
  ·exact dP (Hh.out _ B.keeps) B.keeps _ _
theorem vf (h:aI S w p c d) {f t k:Int} (hf:has d f) (ht:has d t) (hk:has d k) :
 ∃(F T K:Nat) (g off:Nat) (q q':Option Addr) (m m':Nat),f=(F:Int)∧t=(T:Int)∧k=(K:Int)∧F<d.length∧T<d.length∧K<d.length∧p=some ⟨g,off,none⟩∧S g ∧
 bt aK S w q m (nd d (F:Int)).ah∧bt aK S w q' m' (nd d (T:Int)).ah∧g<w.heap.size ∧
 (∀w1,aa af w w1->(w1.cell? ⟨g,off+F*5,none⟩=some (.int .i64 (nd d F).kind)∧w1.cell? ⟨g,off+F*5+1,none⟩=some (.int .i64 (nd d F).mode)∧w1.cell? ⟨g,off+F*5+2,none⟩=some (.int .i64 (nd d F).holds) ∧
   w1.cell? ⟨g,off+F*5+3,none⟩=some (.string (nd d F).data)∧w1.cell? ⟨g,off+F*5+4,none⟩=some (.slice q (nd d F).ah.length m)∧g<w1.heap.size∧w1.cell? ⟨g,off+K*5,none⟩=some (.int .i64 (nd d K).kind) ∧
   w1.cell? ⟨g,off+T*5+4,none⟩=some (.slice q' (nd d T).ah.length m'))):=by
 obtain⟨F,rfl,hF⟩:=eP hf
 obtain⟨T,rfl,hT⟩:=eP ht
 obtain⟨K,rfl,hK⟩:=eP hk
 obtain⟨g,off,q,m,rfl,cI,hrow⟩:=h.rowAt hF
 obtain⟨g',off',q',m',hp',_,hrow'⟩:=h.rowAt hT
 cases hp'
 obtain⟨g'',Wl,q'',Wm,Tm,_,Tn⟩:=h.rowAt hK
 cases Tm
 refine⟨F,T,K,g,off,q,q',m,m',rfl,rfl,rfl,hF,hT,hK,rfl,cI,hrow.sl,hrow'.sl,hrow.lt,fun w1 hk1=>?_⟩
 exact⟨(hrow.ai hk1).c0,(hrow.ai hk1).c1,(hrow.ai hk1).c2,(hrow.ai hk1).c3,(hrow.ai hk1).c4,(hrow.ai hk1).lt,(Tn.ai hk1).c0,(hrow'.ai hk1).c4⟩
theorem vg (h:aI S w p c d) (hI:aG d) (hs:aP d) (i top:Int) (hi:(nd d i).kind=2) (ht:top≠1) (b:Bool) (hb:b=true↔cU d top i) :
 Calls Tryz.prog 130 #[aE p c d room,.int .i64 i,.int .i64 top] w fun e w'=>e=.returned (.bool b)∧aa af w w':=by
 refine(Tp h hI hs i top hi ht).mono ?_
 rintro e w' ⟨b',rfl,h1,h2⟩
 have:b'=b:=by rw[Bool.eq_iff_iff,h1,hb]
 rw[this]
 exact⟨rfl,h2⟩
theorem Tq (h:aI S w p c d) (hI:aG d) (hs:aP d) (f:Int) (name:ByteArray) (t:Int) (other:ByteArray) (k:Int) (c0:bH d f name=0) (hkk:aN d f name=k) (c1:aO d t=0) (hk2:(nd d k).kind=2) (ha:cU d k t) :
 Calls Tryz.prog 93 #[aE p c d room,.int .i64 f,.string name,.int .i64 t,.string other] w (eH S w d room 23):=by
 have hcap:=h.cap
 have hmax:=h.max
 unfold maxLen at hmax
 obtain⟨f0,hget⟩:=mI c0
 rw[hkk]at hget
 obtain⟨hf,dS⟩:=fD f0
 obtain⟨ht,cy⟩:=fD c1
 have hk:=(hI.tgt f _ (dV hget)).1
 have hk1:=(hI.tgt f _ (dV hget)).2
 have dG:=Lib.hid (fun(w1:World) (hk:aa af w w1)=>qB (room:=room) (h.ai hk) hI.zero t)
 have dJ:=Lib.hid (fun(w1:World) (hk:aa af w w1)=>nC (room:=room) (h.ai hk) hI f name)
 have gE:=Lib.hid (fun(w1:World) (fK:aa af w w1)=>vg (room:=room) (h.ai fK) hI hs t k cy hk1 true ⟨fun _=>ha,fun _=>rfl⟩)
 rw[c0,hkk]at dJ
 rw[c1]at dG
 have Hh:=Lib.hid (fun(w1:World) (hk:aa af w w1)=>h.gO hk)
 have B:=iH (w:=w) (aa.refl af ((w.alloc (.cells #[.slice p d.length c,.int .i64 room] 37)).alloc (.cells #[.slice none 0 0,.int .i64 0] 37)))
 obtain⟨F,T,K,g,off,q,q',m,m',rfl,rfl,rfl,hF,hT,hK,rfl,cI,hsl,jT,hg0,hc⟩:=vf h hf ht hk
 have HC:=Lib.hid hc
 rw[hk2]at HC
 clear h hI hs hc hsl jT hget f0 c0 c1 hkk ha hk2 hf ht hk hk1 dS cy
 generalize(nd d (F:Int)).ah=eF at *
 generalize(nd d (T:Int)).ah=eT at *
 unfold aE at *
 go_enter Tryz.func93,Tryz.ntmps93
 go_wp2_with(first|(go_at_call 123;refine(dJ.out _ B.keeps).mono ?_;rintro e w1 ⟨rfl,hk1⟩;(try clear A0);(try clear A1);(try clear C0);(try clear C1);(try clear zA);(try clear zC);(try clear l0);(try clear l1);(try clear R0);(try clear R1);(try clear R2);(try clear R3);(try clear R4);(try clear hgl);(try clear Q0);(try clear T4);replace B:=B.on hk1;clear hk1;have A0:=B.A0;have A1:=B.A1;have C0:=B.C0;have C1:=B.C1;have zA:=B.zA;have zC:=B.zC;have l0:w.heap.size<w1.heap.size:=Nat.lt_of_lt_of_le (by simp) B.size;have l1:w.heap.size+1<w1.heap.size:=B.size;obtain⟨R0,R1,R2,R3,R4,hgl,Q0,T4⟩:=HC.out _ B.keeps)|(go_at_call 119;refine(dG.out _ B.keeps).mono ?_;rintro e w1 ⟨rfl,hk1⟩;(try clear A0);(try clear A1);(try clear C0);(try clear C1);(try clear zA);(try clear zC);(try clear l0);(try clear l1);(try clear R0);(try clear R1);(try clear R2);(try clear R3);(try clear R4);(try clear hgl);(try clear Q0);(try clear T4);replace B:=B.on hk1;clear hk1;have A0:=B.A0;have A1:=B.A1;have C0:=B.C0;have C1:=B.C1;have zA:=B.zA;have zC:=B.zC;have l0:w.heap.size<w1.heap.size:=Nat.lt_of_lt_of_le (by simp) B.size;have l1:w.heap.size+1<w1.heap.size:=B.size;obtain⟨R0,R1,R2,R3,R4,hgl,Q0,T4⟩:=HC.out _ B.keeps)|(go_at_call 130;refine(gE.out _ B.keeps).mono ?_;rintro e w1 ⟨rfl,hk1⟩;(try clear A0);(try clear A1);(try clear C0);(try clear C1);(try clear zA);(try clear zC);(try clear l0);(try clear l1);(try clear R0);(try clear R1);(try clear R2);(try clear R3);(try clear R4);(try clear hgl);(try clear Q0);(try clear T4);replace B:=B.on hk1;clear hk1;have A0:=B.A0;have A1:=B.A1;have C0:=B.C0;have C1:=B.C1;have zA:=B.zA;have zC:=B.zC;have l0:w.heap.size<w1.heap.size:=Nat.lt_of_lt_of_le (by simp) B.size;have l1:w.heap.size+1<w1.heap.size:=B.size;obtain⟨R0,R1,R2,R3,R4,hgl,Q0,T4⟩:=HC.out _ B.keeps))
 (try simp only[Exit.inBlock,Exit.then])
 refine bodyPost_ret (v:=.tuple #[.agg #[.slice (some ⟨g,off,none⟩) d.length c,.int .i64 room],.int .i64 23]) ?_ rfl ?_
 ·rw[results_cell_tmp rfl]
  go_simp
 ·exact dP (Hh.out _ B.keeps) B.keeps _ _
theorem Lp (h:aI S w p c d) (hI:aG d) (hs:aP d) (f:Int) (name:ByteArray) (t:Int) (other:ByteArray) (k old:Int) (c0:bH d f name=0) (hkk:aN d f name=k) (c1:aO d t=0) (fE:(nd d k).kind=2->¬cU d k t)
 (hold:bk (nd d t).ah other=some old) (ED:old=k∨mZ d k old≠0) :
 Calls Tryz.prog 93 #[aE p c d room,.int .i64 f,.string name,.int .i64 t,.string other] w (eH S w d room (if old=k then 0 else mZ d k old)):=by
 have hcap:=h.cap
 have hmax:=h.max
 unfold maxLen at hmax
 obtain⟨f0,hget⟩:=mI c0
 rw[hkk]at hget
 obtain⟨hf,dS⟩:=fD f0
 obtain⟨ht,cy⟩:=fD c1
 have hk:=(hI.tgt f _ (dV hget)).1
 have hk1:=(hI.tgt f _ (dV hget)).2
 have ho:=(hI.tgt t _ (dV hold)).1
 have dG:=Lib.hid (fun(w1:World) (hk:aa af w w1)=>qB (room:=room) (h.ai hk) hI.zero t)
 have dJ:=Lib.hid (fun(w1:World) (hk:aa af w w1)=>nC (room:=room) (h.ai hk) hI f name)
 have fR:=Lib.hid (fun(w1:World) (hk:aa af w w1)=>nC (room:=room) (h.ai hk) hI t other)
 have xw:=Lib.hid (fun(w1:World) (fK:aa af w w1)=>Lr (room:=room) (h.ai fK) k old hk ho)
 have gE:=Lib.hid (fun(h2:(nd d k).kind=2) (w1:World) (fK:aa af w w1)=>vg (room:=room) (h.ai fK) hI hs t k cy hk1 false ⟨(fun h=>by cases h),fun h=>absurd h (fE h2)⟩)
 have e1:bH d t other=0:=by unfold bH;rw[if_neg (by simpa using c1),hold];rfl
 have e2:aN d t other=old:=by unfold aN;rw[if_neg (by simpa using c1),hold];rfl
 rw[c0,hkk]at dJ
 rw[c1]at dG
 rw[e1,e2]at fR
 have Hh:=Lib.hid (fun(w1:World) (hk:aa af w w1)=>h.gO hk)
 have B:=iH (w:=w) (aa.refl af ((w.alloc (.cells #[.slice p d.length c,.int .i64 room] 37)).alloc (.cells #[.slice none 0 0,.int .i64 0] 37)))
 have hne:k=old∨k≠old:=Classical.em _
 obtain⟨F,T,K,g,off,q,q',m,m',rfl,rfl,rfl,hF,hT,hK,rfl,cI,hsl,jT,hg0,hc⟩:=vf h hf ht hk
 have HC:=Lib.hid hc
 have aM:((nd d (K:Int)).kind=2)∨((nd d (K:Int)).kind≠2):=Classical.em _
 clear h hI hs hc hsl jT hget f0 c0 c1 hkk fE hf ht hk hk1 dS cy hold ho e1 e2
 generalize(nd d (F:Int)).ah=eF at *
 generalize(nd d (T:Int)).ah=eT at *
 generalize mZ d K old=ge at *
 unfold aE at *
 rcases aM with aM|aM
 case' inl=>rw[aM]at HC;replace gE:=Lib.hid (gE.out aM);clear aM
 case' inr=>clear gE;generalize(nd d (K:Int)).kind=ko at *
 all_goals
  by_cases c3:old=(K:Int)
  ·subst c3
   rw[if_pos rfl]
   clear xw ED hne
   go_enter Tryz.func93,Tryz.ntmps93
   go_wp2_with(first|(go_at_call 123;have HX:=dJ;clear dJ;refine(HX.out _ B.keeps).mono ?_;clear HX;rintro e w1 ⟨rfl,hk1⟩;(try clear A0);(try clear A1);(try clear C0);(try clear C1);(try clear zA);(try clear zC);(try clear l0);(try clear l1);(try clear R0);(try clear R1);(try clear R2);(try clear R3);(try clear R4);(try clear hgl);(try clear Q0);(try clear T4);replace B:=B.on hk1;clear hk1;have A0:=B.A0;have A1:=B.A1;have C0:=B.C0;have C1:=B.C1;have zA:=B.zA;have zC:=B.zC;have l0:w.heap.size<w1.heap.size:=Nat.lt_of_lt_of_le (by simp) B.size;have l1:w.heap.size+1<w1.heap.size:=B.size;obtain⟨R0,R1,R2,R3,R4,hgl,Q0,T4⟩:=HC.out _ B.keeps)|(go_at_call 123;have HX:=fR;clear fR;refine(HX.out _ B.keeps).mono ?_;clear HX;rintro e w1 ⟨rfl,hk1⟩;(try clear A0);(try clear A1);(try clear C0);(try clear C1);(try clear zA);(try clear zC);(try clear l0);(try clear l1);(try clear R0);(try clear R1);(try clear R2);(try clear R3);(try clear R4);(try clear hgl);(try clear Q0);(try clear T4);replace B:=B.on hk1;clear hk1;have A0:=B.A0;have A1:=B.A1;have C0:=B.C0;have C1:=B.C1;have zA:=B.zA;have zC:=B.zC;have l0:w.heap.size<w1.heap.size:=Nat.lt_of_lt_of_le (by simp) B.size;have l1:w.heap.size+1<w1.heap.size:=B.size;obtain⟨R0,R1,R2,R3,R4,hgl,Q0,T4⟩:=HC.out _ B.keeps)|(go_at_call 119;refine(dG.out _ B.keeps).mono ?_;rintro e w1 ⟨rfl,hk1⟩;(try clear A0);(try clear A1);(try clear C0);(try clear C1);(try clear zA);(try clear zC);(try clear l0);(try clear l1);(try clear R0);(try clear R1);(try clear R2);(try clear R3);(try clear R4);(try clear hgl);(try clear Q0);(try clear T4);replace B:=B.on hk1;clear hk1;have A0:=B.A0;have A1:=B.A1;have C0:=B.C0;have C1:=B.C1;have zA:=B.zA;have zC:=B.zC;have l0:w.heap.size<w1.heap.size:=Nat.lt_of_lt_of_le (by simp) B.size;have l1:w.heap.size+1<w1.heap.size:=B.size;obtain⟨R0,R1,R2,R3,R4,hgl,Q0,T4⟩:=HC.out _ B.keeps)|(go_at_call 130;refine(gE.out _ B.keeps).mono ?_;rintro e w1 ⟨rfl,hk1⟩;(try clear A0);(try clear A1);(try clear C0);(try clear C1);(try clear zA);(try clear zC);(try clear l0);(try clear l1);(try clear R0);(try clear R1);(try clear R2);(try clear R3);(try clear R4);(try clear hgl);(try clear Q0);(try clear T4);replace B:=B.on hk1;clear hk1;have A0:=B.A0;have A1:=B.A1;have C0:=B.C0;have C1:=B.C1;have zA:=B.zA;have zC:=B.zC;have l0:w.heap.size<w1.heap.size:=Nat.lt_of_lt_of_le (by simp) B.size;have l1:w.heap.size+1<w1.heap.size:=B.size;obtain⟨R0,R1,R2,R3,R4,hgl,Q0,T4⟩:=HC.out _ B.keeps))
   (try simp only[Exit.inBlock,Exit.then])
   refine bodyPost_ret (v:=.tuple #[.agg #[.slice (some ⟨g,off,none⟩) d.length c,.int .i64 room],.int .i64 0]) ?_ rfl ?_
   ·rw[results_cell_tmp rfl]
    go_simp
   ·exact dP (Hh.out _ B.keeps) B.keeps _ _
  ·rw[if_neg c3]
   replace ED:=ED.resolve_left c3
   have oY:(old==(K:Int))=false:=by simpa using c3
   clear hne c3
   go_enter Tryz.func93,Tryz.ntmps93
   go_wp2_with(first|(go_at_call 123;have HX:=dJ;clear dJ;refine(HX.out _ B.keeps).mono ?_;clear HX;rintro e w1 ⟨rfl,hk1⟩;(try clear A0);(try clear A1);(try clear C0);(try clear C1);(try clear zA);(try clear zC);(try clear l0);(try clear l1);(try clear R0);(try clear R1);(try clear R2);(try clear R3);(try clear R4);(try clear hgl);(try clear Q0);(try clear T4);replace B:=B.on hk1;clear hk1;have A0:=B.A0;have A1:=B.A1;have C0:=B.C0;have C1:=B.C1;have zA:=B.zA;have zC:=B.zC;have l0:w.heap.size<w1.heap.size:=Nat.lt_of_lt_of_le (by simp) B.size;have l1:w.heap.size+1<w1.heap.size:=B.size;obtain⟨R0,R1,R2,R3,R4,hgl,Q0,T4⟩:=HC.out _ B.keeps)|(go_at_call 123;have HX:=fR;clear fR;refine(HX.out _ B.keeps).mono ?_;clear HX;rintro e w1 ⟨rfl,hk1⟩;(try clear A0);(try clear A1);(try clear C0);(try clear C1);(try clear zA);(try clear zC);(try clear l0);(try clear l1);(try clear R0);(try clear R1);(try clear R2);(try clear R3);(try clear R4);(try clear hgl);(try clear Q0);(try clear T4);replace B:=B.on hk1;clear hk1;have A0:=B.A0;have A1:=B.A1;have C0:=B.C0;have C1:=B.C1;have zA:=B.zA;have zC:=B.zC;have l0:w.heap.size<w1.heap.size:=Nat.lt_of_lt_of_le (by simp) B.size;have l1:w.heap.size+1<w1.heap.size:=B.size;obtain⟨R0,R1,R2,R3,R4,hgl,Q0,T4⟩:=HC.out _ B.keeps)|(go_at_call 119;refine(dG.out _ B.keeps).mono ?_;rintro e w1 ⟨rfl,hk1⟩;(try clear A0);(try clear A1);(try clear C0);(try clear C1);(try clear zA);(try clear zC);(try clear l0);(try clear l1);(try clear R0);(try clear R1);(try clear R2);(try clear R3);(try clear R4);(try clear hgl);(try clear Q0);(try clear T4);replace B:=B.on hk1;clear hk1;have A0:=B.A0;have A1:=B.A1;have C0:=B.C0;have C1:=B.C1;have zA:=B.zA;have zC:=B.zC;have l0:w.heap.size<w1.heap.size:=Nat.lt_of_lt_of_le (by simp) B.size;have l1:w.heap.size+1<w1.heap.size:=B.size;obtain⟨R0,R1,R2,R3,R4,hgl,Q0,T4⟩:=HC.out _ B.keeps)|(go_at_call 130;refine(gE.out _ B.keeps).mono ?_;rintro e w1 ⟨rfl,hk1⟩;(try clear A0);(try clear A1);(try clear C0);(try clear C1);(try clear zA);(try clear zC);(try clear l0);(try clear l1);(try clear R0);(try clear R1);(try clear R2);(try clear R3);(try clear R4);(try clear hgl);(try clear Q0);(try clear T4);replace B:=B.on hk1;clear hk1;have A0:=B.A0;have A1:=B.A1;have C0:=B.C0;have C1:=B.C1;have zA:=B.zA;have zC:=B.zC;have l0:w.heap.size<w1.heap.size:=Nat.lt_of_lt_of_le (by simp) B.size;have l1:w.heap.size+1<w1.heap.size:=B.size;obtain⟨R0,R1,R2,R3,R4,hgl,Q0,T4⟩:=HC.out _ B.keeps)|(go_at_call 131;refine(xw.out _ B.keeps).mono ?_;rintro e w1 ⟨rfl,hk1⟩;(try clear A0);(try clear A1);(try clear C0);(try clear C1);(try clear zA);(try clear zC);(try clear l0);(try clear l1);(try clear R0);(try clear R1);(try clear R2);(try clear R3);(try clear R4);(try clear hgl);(try clear Q0);(try clear T4);replace B:=B.on hk1;clear hk1;have A0:=B.A0;have A1:=B.A1;have C0:=B.C0;have C1:=B.C1;have zA:=B.zA;have zC:=B.zC;have l0:w.heap.size<w1.heap.size:=Nat.lt_of_lt_of_le (by simp) B.size;have l1:w.heap.size+1<w1.heap.size:=B.size;obtain⟨R0,R1,R2,R3,R4,hgl,Q0,T4⟩:=HC.out _ B.keeps))
   (try simp only[Exit.inBlock,Exit.then])
   refine bodyPost_ret (v:=.tuple #[.agg #[.slice (some ⟨g,off,none⟩) d.length c,.int .i64 room],.int .i64 ge]) ?_ rfl ?_
   ·rw[results_cell_tmp rfl]
    go_simp
   ·exact dP (Hh.out _ B.keeps) B.keeps _ _
end
end Go.Proofs.YtnanhmfpikddkaaGreatDoor
