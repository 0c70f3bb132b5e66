/-
  Layer 6: contracts of files: Stat. (Printed by genfiles.py.)
-/
import Derived.Test.YtnanhmfpikddkaaGreatDoorG16
import Derived.Deep.RegionHeld3
import Derived.BigRegion
import Derived.Test.YtnanhmfpikddkaaGreatDoorG11
import Derived.Test.YtnanhmfpikddkaaGreatDoorG24

set_option linter.unusedSimpArgs false
set_option linter.unusedVariables false
set_option maxRecDepth 100000
set_option maxHeartbeats 4000000
namespace Go.Proofs.YtnanhmfpikddkaaGreatDoor
open Go Go.RowKit
section
variable{N:Nat->Prop} {w w':World} {F a:Nat} {d d':ag} {room calls fail:Int}
theorem IV {fn:Func} {p u t:Tmp} {ty:TypeId} (h:fn.results=#[.tmp u,.cell p ty,.tmp t]) (tmps:Array Value) (P:Program) (w:World) :
 (results fn tmps).run P w =
   ((asAddr (tmps.getD p undef)).run P w).andThen fun a w₁=>((loadVar ty a).run P w₁).andThen fun v w₂=>.ok (.tuple #[tmps.getD u undef,v,tmps.getD t undef]) w₂:=by
 simp only[results,h]
 simp[Sem.run_bind,Result.andThen]
def mL (d:ag) (X:aJ × Int):Value:=if X.2≠0 then o6 else infoAt d X.1.node
def kK (d:ag) (X:aJ × Int):Int:=if X.2≠0 then X.2 else if has d X.1.node then 0 else 12
theorem uI (h:aY N w F a d room calls fail) (at' mask:Int) (s:ByteArray) (follow:Bool) (hsz:s.size<=4294967280) :
 Calls Tryz.prog 9 #[.pointer (some ⟨F,0,none⟩),.agg #[.int .i64 at',.int .i64 mask],.string s,.bool follow] w fun e w' =>
  e=.returned (.tuple #[.int .i64 (aL d at' s follow).1.node,mL d (aL d at' s follow),.int .i64 (kK d (aL d at' s follow))])∧aa af w w':=by
 have ks:aa af w (w.alloc (.cells #[.int .i64 at',.int .i64 mask] 34)):=(aa.refl _ _).alloc _
 have kz:aa af w ((w.alloc (.cells #[.int .i64 at',.int .i64 mask] 34)).alloc (.cells #[.int .i64 0,.int .i64 0,.int .i64 0,.int .i64 0,.int .i64 0] 29)):=ks.alloc _
 have aC:=Lib.hid (h.on kz)
 have HW:=Lib.hid (Bx.new (w:=w) ((aa.refl af (w.alloc (.cells #[.int .i64 at',.int .i64 mask] 34))).alloc (.cells #[.int .i64 0,.int .i64 0,.int .i64 0,.int .i64 0,.int .i64 0] 29)))
 have HR:=Lib.hid (Bx.new (aa.refl af ((w.alloc (.cells #[.int .i64 at',.int .i64 mask] 34)).alloc (.cells #[.int .i64 0,.int .i64 0,.int .i64 0,.int .i64 0,.int .i64 0] 29))))
 rw[show(w.alloc (.cells #[.int .i64 at',.int .i64 mask] 34)).heap.size=w.heap.size+1 by simp]at HR
 have HK:=Lib.hid kz
 obtain⟨O,hO⟩:∃O,aL d at' s follow=O:=⟨_,rfl⟩
 have aj:=Lib.hid (show O=aL d at' s follow from hO.symm)
 rw[hO]
 have hT:=fun e0:O.2=0=>(IC (by rw[hO];exact e0)).2
 have PR:=fun e0:O.2=0=>(IC (by rw[hO];exact e0)).1
 have ru:Hid (O.2≠0->O.1=.no):=fun e0=>by
  rw[<- hO]at e0 ⊢
  unfold aL iL at *
  split
  ·rfl
  ·next h1 =>
   rw[if_neg h1]at e0
   split
   ·rfl
   ·next h2=>rw[if_neg h2]at e0;exact absurd e0 h1
 clear hO h ks kz hT PR
 go_enter Tryz.func9,Tryz.ntmps9
 go_upto_region 1 with fail
 generalize((w.alloc (.cells #[.int .i64 at',.int .i64 mask] 34)).alloc (.cells #[.int .i64 0,.int .i64 0,.int .i64 0,.int .i64 0,.int .i64 0] 29))=wc at *
 obtain⟨X,hX⟩:∃X,aL d at' s follow=X:=⟨_,rfl⟩
 have aW:=Lib.hid (fun(w1:World) (hk:aa af wc w1)=>(aC.out.on hk).wC at' s follow hsz)
 rw[hX]at aW aj
 obtain⟨⟨pn,pd,pm⟩,pe⟩:=X
 unfold aF at aW
 simp only at aW aj
 have rq:=Lib.hid hX
 clear hX
 have f0:=aC.out.c0
 have b0:=HW.out.cell 0 _ rfl
 go_upto_region 1 with fail
 go_cut [11,12]from 11 to 25 (fun x y wx=>∃G:Nat,wc.heap.size<=G∧x=.pointer (some ⟨G,0,none⟩)∧y=.int .i64 pe∧Bx wx G [.int .i64 pn,.int .i64 pd,.string pm]∧aa af wc wx)
 case first =>
  have kr:=aa.refl af wc
  have bh:=kr.drew
  have d0:=(aC.out.on bh).c0
  have d1:=(HW.out.on bh).cell 0 _ rfl
  go_region_held3 (fun wz=>wz.cell? ⟨F,0,none⟩=some (.pointer (some ⟨a,0,none⟩))∧wz.cell? ⟨w.heap.size,0,none⟩=some (.int .i64 at')∧aa af wc wz) (refine⟨?_,?_,?_⟩<;>first|with_reducible assumption|(with_reducible refine(aC.out.on ?_).c0;exact kA)|(with_reducible refine(HW.out.on ?_).cell 0 _ rfl;exact kA)|(exact kA))
   (first|(go_at_call 27;refine(aW.out _ kA).mono ?_;rintro e w2 ⟨rfl,hk2⟩;have bV:aa af wc w2:=aa.trans kA hk2;have zs:=bV.size;have z0:=(aC.out.on bV).c0;have z1:=(HW.out.on bV).cell 0 _ rfl;(try(have yb:=Bx.bW hk2;have y0:=yb.cell 0 _ rfl;have y1:=yb.cell 1 _ rfl;have y2:=yb.cell 2 _ rfl;have yf:=yb.fz))))
  all_goals(go_wp2_with fail;go_meet;refine⟨_,?_,rfl,rfl,?_,?_⟩)
  all_goals first
   | exact Nat.le_refl _
   | exact zs
   | (with_reducible exact Bx.new (aa.refl af _))
   | (exact((yb.put 0 _).put 1 _).put 2 _)
   | (exact kA)
   | skip
 case rest =>
  obtain⟨bn,hG,rfl,rfl,HP,hk1⟩:=hcut
  replace HP:=Lib.hid HP
  have PS:¬bn=w.heap.size+1:=by have:=HR.out.lt;omega
  clear f0 b0 aW hG
  replace aC:=Lib.hid (aC.out.on hk1)
  replace HK:=Lib.hid (HK.out.trans hk1.bC)
  replace HW:=Lib.hid (HW.out.on hk1)
  replace HR:=Lib.hid (HR.out.on hk1)
  have HO:=aj.out
  subst HO
  clear aj
  have kk:=HK.out
  by_cases hz:pe≠0
  ·have hb:(pe != 0)=true:=by simpa using hz
   have hno:=ru.out hz
   have HV:=Lib.hid (show mL d (⟨pn,pd,pm⟩,pe)=o6 by unfold mL;rw[if_pos hz])
   have PT:=Lib.hid (show kK d (⟨pn,pd,pm⟩,pe)=pe by unfold kK;rw[if_pos hz])
   have PU:=Lib.hid (show pn=0 by have:=congrArg aJ.node hno;exact this)
   have r0:=HR.out.cell 0 _ rfl
   have r1:=HR.out.cell 1 _ rfl
   have r2:=HR.out.cell 2 _ rfl
   have r3:=HR.out.cell 3 _ rfl
   have r4:=HR.out.cell 4 _ rfl
   have rf:=HR.out.fz
   have rl:=HR.out.lt
   clear hz hno
   go_wp2_with fail
   (try simp only[Exit.inBlock,Exit.then])
   refine bodyPost_ret (v:=.tuple #[.int .i64 0,o6,.int .i64 pe]) ?_ rfl ?_
   ·rw[IV rfl];unfold o6;go_simp
   ·refine⟨by rw[HV.out,PT.out,PU.out],?_⟩
    repeat exact kA
  have hb:(pe != 0)=false:=by simpa using hz
  replace ru:Hid (pe=0):=Classical.not_not.1 hz
  clear hz
  have aj:Hid ((nd d pn).kind=(nd d pn).kind):=rfl
  obtain⟨ik,im,il,ih,iz,hik,jN,_,hie⟩:=aC.out.tell pn
  obtain⟨ie,kL⟩:∃ie,(if has d pn then 0 else 12:Int)=ie:=⟨_,rfl⟩
  have cw:=Lib.hid (fun(w1:World) (hk:aa af wc w1)=>(aC.out.on hk).info pn)
  rw[hie,kL]at cw
  rw[<- hik]at aj
  have wG:=Lib.hid hik
  have zP:=Lib.hid jN
  have zQ:=Lib.hid hie
  have zR:=Lib.hid kL
  clear hie kL hik jN
  have f0:=aC.out.c0
  have b0:=HP.out.cell 0 _ rfl
  go_upto_region 4 with fail
  go_cut [13,12]from 12 to 39 (fun x y wx=>∃G:Nat,wc.heap.size<=G∧x=.pointer (some ⟨G,0,none⟩)∧y=.int .i64 ie∧Bx wx G [.int .i64 ik,.int .i64 im,.int .i64 il,.int .i64 ih,.int .i64 iz]∧aa af wc wx)
  case first =>
   have kr:=aa.refl af wc
   have bh:=kr.drew
   have d0:=(aC.out.on bh).c0
   have d1:=(HP.out.on bh).cell 0 _ rfl
   go_region_held3 (fun wz=>wz.cell? ⟨F,0,none⟩=some (.pointer (some ⟨a,0,none⟩))∧wz.cell? ⟨bn,0,none⟩=some (.int .i64 pn)∧aa af wc wz) (refine⟨?_,?_,?_⟩<;>first|with_reducible assumption|(with_reducible refine(aC.out.on ?_).c0;exact kA)|(with_reducible refine(HP.out.on ?_).cell 0 _ rfl;exact kA)|(exact kA))
    (first|(go_at_call 28;refine(cw.out _ kA).mono ?_;rintro e w2 ⟨rfl,hk2⟩;have bV:aa af wc w2:=aa.trans kA hk2;have zs:=bV.size;have z0:=(aC.out.on bV).c0;have z1:=(HP.out.on bV).cell 0 _ rfl;(try(have yb:=Bx.bW hk2;have y0:=yb.cell 0 _ rfl;have y1:=yb.cell 1 _ rfl;have y2:=yb.cell 2 _ rfl;have y3:=yb.cell 3 _ rfl;have y4:=yb.cell 4 _ rfl;have yf:=yb.fz))))
   all_goals(go_wp2_with fail;go_meet;refine⟨_,?_,rfl,rfl,?_,?_⟩)
   all_goals first
    | exact Nat.le_refl _
    | exact zs
    | (with_reducible exact Bx.new (aa.refl af _))
    | (exact((((yb.put 0 _).put 1 _).put 2 _).put 3 _).put 4 _)
    | (exact kA)
    | skip
  case rest =>
   obtain⟨Dj,hG,rfl,rfl,HI,hk1⟩:=hcut
   replace HI:=Lib.hid HI
   clear f0 b0 cw hG
   replace aC:=Lib.hid (aC.out.on hk1)
   replace HK:=Lib.hid (HK.out.trans hk1.bC)
   replace HW:=Lib.hid (HW.out.on hk1)
   replace HR:=Lib.hid (HR.out.on hk1)
   replace HP:=Lib.hid (HP.out.on hk1)
   clear hk1
   have i0:=HI.out.cell 0 _ rfl
   have i1:=HI.out.cell 1 _ rfl
   have i2:=HI.out.cell 2 _ rfl
   have i3:=HI.out.cell 3 _ rfl
   have i4:=HI.out.cell 4 _ rfl
   have p0:=HP.out.cell 0 _ rfl
   have V4:=HP.out.lt
   have V5:=HI.out.lt
   have r0:=HR.out.cell 0 _ rfl
   have r1:=HR.out.cell 1 _ rfl
   have r2:=HR.out.cell 2 _ rfl
   have r3:=HR.out.cell 3 _ rfl
   have r4:=HR.out.cell 4 _ rfl
   have rf:=HR.out.fz
   have rl:=HR.out.lt
   have kk:=HK.out
   go_upto_region 5 with fail
   go_region
   all_goals
    go_wp2_with fail
    (try simp only[Exit.inBlock,Exit.then])
    refine bodyPost_ret (v:=.tuple #[.int .i64 pn,.agg #[.int .i64 ik,.int .i64 im,.int .i64 il,.int .i64 ih,.int .i64 iz],.int .i64 ie]) ?_ rfl ?_
    ·rw[IV rfl];go_simp
    ·refine⟨by rw[show mL d (⟨pn,pd,pm⟩,pe)=infoAt d pn by unfold mL;rw[if_neg (by rw[ru.out];simp)],zQ.out,show kK d (⟨pn,pd,pm⟩,pe)=ie by unfold kK;rw[if_neg (by rw[ru.out];simp)];exact zR.out],?_⟩
     repeat exact kA
end
section
variable{N:Nat->Prop} {w w':World} {F a:Nat} {d d':ag} {room calls fail:Int}
def sj (d:ag) (X:aJ × Int):Int :=
 if kK d X≠0 then kK d X else if (nd d X.1.node).kind≠2 then 14 else if (bits BinOp.and IntKind.i64 (nd d X.1.node).mode 256==0)=true then 19 else 0
theorem aY.list (h:aY N w F a d room calls fail) (i:Int) (hn:(nd d i).ah.length<4294967295) :
 Calls Tryz.prog 33 #[.pointer (some ⟨a,0,none⟩),.int .i64 i] w fun e w'=>∃v,e=.returned (.tuple #[v,.int .i64 (aO d i)])∧Own aK 59 (fun g=>w.heap.size<=g) w' v (if aO d i=0 then(nd d i).ah else[])∧aa af w w' :=
 h.pd.tells fun _ _ _ hR _ _=>Cv hR i hn
theorem PV {d:ag} {X:aJ × Int} (h:kK d X=0):mL d X=infoAt d X.1.node∧has d X.1.node:=by
 unfold kK at h
 unfold mL
 by_cases h0:X.2≠0
 ·rw[if_pos h0]at h;exact absurd h h0
 ·rw[if_neg h0]at h ⊢
  by_cases h1:has d X.1.node
  ·exact⟨rfl,h1⟩
  ·rw[if_neg h1]at h;cases h
theorem zS (h:aY N w F a d room calls fail) (X:aJ × Int):∃k m l hh z:Int,mL d X=.agg #[.int .i64 k,.int .i64 m,.int .i64 l,.int .i64 hh,.int .i64 z]∧(kK d X=0->k=(nd d X.1.node).kind∧m=(nd d X.1.node).mode):=by
 by_cases h0:X.2≠0
 ·refine⟨0,0,0,0,0,by unfold mL o6;rw[if_pos h0],fun h1=>?_⟩
  unfold kK at h1
  rw[if_pos h0]at h1
  exact absurd h1 h0
 ·obtain⟨k,m,l,hh,z,h1,h2,_,h4⟩:=h.tell X.1.node
  refine⟨k,m,l,hh,z,by unfold mL;rw[if_neg h0];exact h4,fun he=>⟨h1,h2 (PV he).2⟩⟩
theorem PW (h:aY N w F a d room calls fail) (at' mask:Int) (s:ByteArray) (hsz:s.size<=4294967280) (hn:∀i,(nd d i).ah.length<4294967295) :
 Calls Tryz.prog 15 #[.pointer (some ⟨F,0,none⟩),.agg #[.int .i64 at',.int .i64 mask],.string s] w fun e w' =>
  ∃v,e=.returned (.tuple #[v,.int .i64 (sj d (aL d at' s true))])∧Own aK 59 (fun g=>w.heap.size<=g) w' v (if sj d (aL d at' s true)=0 then(nd d (aL d at' s true).1.node).ah else[])∧aa af w w':=by
 have HS:=Lib.hid (fun wx (k:aa af w wx)=>uI (h.on k) at' mask s true hsz)
 obtain⟨X,hX⟩:∃X,aL d at' s true=X:=⟨_,rfl⟩
 rw[hX]at HS ⊢
 clear hX
 obtain⟨ik,im,il,ih,iz,hsv,hkm⟩:=zS h X
 rw[hsv]at HS
 obtain⟨se,hse⟩:∃se,kK d X=se:=⟨_,rfl⟩
 rw[hse]at HS hkm
 obtain⟨le,hle⟩:∃le,sj d X=le:=⟨_,rfl⟩
 rw[hle]
 unfold sj at hle
 rw[hse]at hle
 obtain⟨pn,PX⟩:∃pn,X.1.node=pn:=⟨_,rfl⟩
 rw[PX]at HS hkm hle ⊢
 have HF:=Lib.hid h
 have HL:=Lib.hid (fun wx (k:aa af w wx)=>(h.on k).list pn (hn pn))
 have f0:=h.c0
 have fH:=Lib.hid ((aa.refl af w).alloc (.cells #[.int .i64 at',.int .i64 mask] 34))
 clear h hsv hn
 by_cases h1:se≠0
 ·rw[if_pos h1]at hle
  subst hle
  rw[if_neg h1]
  have hb:(se != 0)=true:=by simpa using h1
  clear h1 hkm hse
  go_enter Tryz.func15,Tryz.ntmps15
  go_wp2_with(go_at_call 9;go_loud(refine(HS.out _ fH.out).mono ?_);rintro e w4 ⟨rfl,bB⟩)
  go_ret2
  exact⟨_,rfl,Own.nil _ _ _ _,(fH.out.trans bB).alloc _⟩
 have h1':se=0:=Classical.not_not.1 h1
 rw[if_neg h1]at hle
 subst h1'
 obtain⟨rfl,rfl⟩:=hkm rfl
 have hb:((0:Int) != 0)=false:=rfl
 clear hkm hse h1
 by_cases h2:(nd d pn).kind≠2
 ·rw[if_pos h2]at hle
  subst hle
  rw[if_neg (by decide)]
  have hb2:((nd d pn).kind != 2)=true:=by simpa using h2
  generalize(nd d pn).kind=kd at *
  generalize(nd d pn).mode=md at *
  clear h2 HL
  go_enter Tryz.func15,Tryz.ntmps15
  go_wp2_with(go_at_call 9;go_loud(refine(HS.out _ fH.out).mono ?_);rintro e w4 ⟨rfl,bB⟩)
  go_ret2
  exact⟨_,rfl,Own.nil _ _ _ _,(fH.out.trans bB).alloc _⟩
 rw[if_neg h2]at hle
 have h2':(nd d pn).kind=2:=Classical.not_not.1 h2
 have hfe:aO d pn=0:=by unfold aO;rw[if_neg (by omega),if_pos h2']
 have hb2:((nd d pn).kind != 2)=false:=by rw[h2'];rfl
 cases oY:(bits BinOp.and IntKind.i64 (nd d pn).mode 256==0)with
 | true =>
   rw[oY,if_pos rfl]at hle
   subst hle
   rw[if_neg (by decide)]
   generalize(nd d pn).kind=kd at *
   generalize(nd d pn).mode=md at *
   clear h2 h2' HL hfe
   go_enter Tryz.func15,Tryz.ntmps15
   go_wp2_with(go_at_call 9;go_loud(refine(HS.out _ fH.out).mono ?_);rintro e w4 ⟨rfl,bB⟩)
   go_ret2
   exact⟨_,rfl,Own.nil _ _ _ _,(fH.out.trans bB).alloc _⟩
 | false =>
   rw[oY,if_neg (by decide)]at hle
   subst hle
   rw[if_pos rfl]
   rw[hfe,if_pos rfl]at HL
   generalize(nd d pn).kind=kd at *
   generalize(nd d pn).mode=md at *
   generalize(nd d pn).ah=es at *
   clear h2 h2' hfe
   go_enter Tryz.func15,Tryz.ntmps15
   go_upto_region 8 with(go_at_call 9;go_loud(refine(HS.out _ fH.out).mono ?_);rintro e w4 ⟨rfl,bB⟩)
   have kM:=Lib.hid ((fH.out.trans bB).alloc (.cells #[.int .i64 kd,.int .i64 md,.int .i64 il,.int .i64 ih,.int .i64 iz] 29))
   have f5:=(HF.out.on kM.out).c0
   clear bB
   go_wp2_with(go_at_call 33;go_loud(refine(HL.out _ kM.out).mono ?_);rintro e w6 ⟨v,rfl,ho,cF⟩)
   go_ret2
   exact⟨_,rfl,ho.mono (fun g hg h=>Nat.le_trans kM.out.size h),kM.out.trans cF⟩
end
end Go.Proofs.YtnanhmfpikddkaaGreatDoor
namespace Go.Proofs.YtnanhmfpikddkaaGreatDoor
open Go
theorem Sw:∀f:Fin 32,(bg (f.val:Int) 12==(bg (f.val:Int) 4||bg (f.val:Int) 8)&&(bg (f.val:Int) 10==(bg (f.val:Int) 2||bg (f.val:Int) 8)))=true:=by decide +kernel
theorem El {f:Int} (h0:0<=f) (h1:f<=31):bg f 12=(bg f 4||bg f 8)∧bg f 10=(bg f 2||bg f 8):=by
 obtain⟨k,rfl⟩:∃k:Nat,f=k:=⟨f.toNat,by omega⟩
 have h:=Sw ⟨k,by omega⟩
 rw[Bool.and_eq_true,beq_iff_eq,beq_iff_eq]at h
 exact h
section
variable{d:ag} {room:Int}
theorem Em (hI:aG d) (hcl:bK d) (i:Int):aG (dD d i)∧bK (dD d i):=by
 unfold dD
 split
 ·next he =>
  have hf:=m8 he
  have hi:=hf.1
  exact⟨hI.aX hi ((hI.node i).dN hi (by rw[hf.2];decide) (by decide)) rfl rfl,Io hcl hi hi rfl (fun e=>e)⟩
 ·exact⟨hI,hcl⟩
theorem Sx (i j:Int):has (dD d i) j↔has d j:=by
 unfold dD
 split
 ·next he =>
  have hi:=(m8 he).1
  exact mC (n:=(nd d i).dN ⟨#[]⟩) hi hi j
 ·exact Iff.rfl
theorem Az {i:Int} (hI:aG d) (hcl:bK d):jS d i 1=rS d i∧(if jS d i 1=0 then gc (oL d i 1)else d)=eJ d i:=by
 have e1:jS d i 1=rS d i:=by
  unfold jS rS
  by_cases hi:has d i
  ·rw[if_pos hi,if_pos ⟨hi,.inl (by decide)⟩]
  ·rw[if_neg hi,if_neg (fun h=>hi h.1)]
 refine⟨e1,?_⟩
 rw[e1]
 unfold rS eJ
 by_cases hi:has d i
 ·rw[if_pos hi,if_pos hi,if_pos rfl];exact Nq hI hcl hi
 ·rw[if_neg hi,if_neg hi,if_neg (by decide)]
theorem AA (d:ag) (i:Int):(eJ d i).length=d.length:=by
 unfold eJ kW
 split
 ·exact jl _ _ _
 ·rfl
theorem KI (d:ag) (i:Int):(dD d i).length=d.length:=by
 unfold dD jY
 split
 ·exact jl _ _ _
 ·rfl
theorem AB (hI:aG d) {at':Int} {s:ByteArray} {follow:Bool} (h:(aQ d at' s follow).2=0) (hn:(aQ d at' s follow).1.node≠0):has d (aQ d at' s follow).1.node :=
 (En hI (KJ hI) 41 at' s 0 h).resolve_left hn
theorem pZ (hI:aG d) {i:Int} (h2:(nd d i).kind≠2) (h3:(nd d i).kind≠3) (hi:has d i):(nd d i).kind=1:=by
 have h:=hI.node i
 have a:=h.um
 have b:=h.pZ
 unfold has at hi
 omega
theorem Eo {i flags e:Int} (he:e≠0) (h:oD d i flags=e):fM d i flags=(d,0,e):=by
 unfold fM
 rw[h]
 exact if_pos he
theorem Ep {i flags:Int} (h:(nd d i).kind=2):fM d i flags=(d,0,15):=Eo (by decide) (by unfold oD;exact if_pos h)
theorem Er {i flags:Int} (h:(nd d i).kind=3):fM d i flags=(d,0,17):=Eo (by decide) (by
 unfold oD
 rw[if_neg (show ¬(nd d i).kind=2 by rw[h];decide)]
 exact if_pos (by rw[h];decide))
theorem Es {i flags:Int} (h:(nd d i).kind=1) (hm:(bg flags 1=true∧(nd d i).mode / 256 % 2=0)∨(bg flags 10=true∧(nd d i).mode / 128 % 2=0)):fM d i flags=(d,0,19):=Eo (by decide) (by
 unfold oD
 rw[if_neg (show ¬(nd d i).kind=2 by rw[h];decide),if_neg (show ¬(nd d i).kind≠1 by rw[h];simp)]
 exact if_pos hm)
theorem Et {i flags:Int} (hi:has d i) (h:(nd d i).kind=1) (hm:¬((bg flags 1=true∧(nd d i).mode / 256 % 2=0)∨(bg flags 10=true∧(nd d i).mode / 128 % 2=0))) :
 fM d i flags=(eJ (if bg flags 8=true then dD d i else d) i,i,0):=by
 have hh:has (if bg flags 8=true then dD d i else d) i:=by
  split
  ·exact(Sx i i).2 hi
  ·exact hi
 have e:rS (if bg flags 8=true then dD d i else d) i=0:=if_pos hh
 have ht:oD d i flags=0:=by
  unfold oD
  rw[if_neg (show ¬(nd d i).kind=2 by rw[h];decide),if_neg (show ¬(nd d i).kind≠1 by rw[h];simp)]
  exact if_neg hm
 unfold fM
 rw[ht,e]
 exact if_neg (by simp)
end
end Go.Proofs.YtnanhmfpikddkaaGreatDoor
