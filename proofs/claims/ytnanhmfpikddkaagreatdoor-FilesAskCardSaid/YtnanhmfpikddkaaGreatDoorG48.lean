/-
  Layer 5,plain: the path of a directory from the root. No program in sight.
-/
import Derived.Test.YtnanhmfpikddkaaGreatDoorG08
import Derived.Test.YtnanhmfpikddkaaGreatDoorG04
import Derived.Test.YtnanhmfpikddkaaGreatDoorG09
import Derived.Test.YtnanhmfpikddkaaGreatDoorG05
import Derived.Test.YtnanhmfpikddkaaGreatDoorG42
import Derived.Test.YtnanhmfpikddkaaGreatDoorG11
import Derived.Deep.RegionHeld3
import Derived.Test.YtnanhmfpikddkaaGreatDoorG22
import Derived.Test.YtnanhmfpikddkaaGreatDoorG47
import Derived.Test.YtnanhmfpikddkaaGreatDoorG40
import Derived.Deep.QuietTactic
import Derived.BigQuiet

set_option linter.unusedSimpArgs false
set_option linter.unusedVariables false
set_option maxRecDepth 100000
namespace Go.Proofs.YtnanhmfpikddkaaGreatDoor
def lB (s:ByteArray):ByteArray:=if s=⟨#[]⟩then⟨#[]⟩else dL++s
inductive WP (d:ag):Int->ByteArray->ByteArray->Prop
 | root (s:ByteArray):WP d 1 s (dL++s)
 | step {i u:Int} {s W:ByteArray} {e:aD}:(nd d i).kind=2->e∈(nd d u).ah->e.2=i->WP d u (e.1++lB s) W->WP d i s W
section
variable{d:ag} {up:Int->Int}
theorem WP.ex (hI:aG d) (hl:∀i,has d i->i≠1->0<cnt d i) (i:Int) (hi:(nd d i).kind=2):∀s,∃W,WP d i s W:=by
 have:=hI.oT i
 induction this with
 | intro i _ ih =>
   intro s
   by_cases h1:i=1
   ·subst h1;exact⟨_,.root s⟩
   ·have:=hl i (by unfold has;rw[hi];decide) h1
    obtain⟨j,e,he,h2⟩:=mD.1 this
    have hp:cY d j i:=⟨hi,e,he,h2⟩
    obtain⟨W,hW⟩:=ih j hp (hp.dir hI) (e.1++lB s)
    exact⟨W,.step hi he h2 hW⟩
theorem WP.at_root (hI:aG d) {s W:ByteArray} (h:WP d 1 s W):W=dL++s:=by
 cases h with
 | root=>rfl
 | step h1 h2 h3 _=>exact absurd h3 (hI.tgt _ _ h2).2
theorem WP.above (hI:aG d) {i:Int} {s W:ByteArray} (h:WP d i s W) (h1:i≠1):(nd d i).kind=2∧∃u e,cY d u i∧e∈(nd d u).ah∧e.2=i∧(∀x∈(nd d u).ah,x.2=i->x=e)∧WP d u (e.1++lB s) W:=by
 cases h with
 | root=>exact absurd rfl h1
 | step hk he h2 hW=>exact⟨hk,_,_,⟨hk,_,he,h2⟩,he,h2,fun x hx n9=>(hI.Cf hk hx n9 he h2).2,hW⟩
end
end Go.Proofs.YtnanhmfpikddkaaGreatDoor
set_option maxHeartbeats 4000000
namespace Go.Proofs.YtnanhmfpikddkaaGreatDoor
open Go Go.RowKit
section
variable{R:RD} {w0 w w':World} {a g:Nat} {d:ag} {room us:Int} {lk up:Int->Int}
theorem Qj (h:aS R w a d room us lk up) (id:Int) (hf:aO d id≠0) (h1:id≠1) :
 Calls Tryz.prog 64 #[.pointer (some ⟨a,0,none⟩),.int .i64 id] w fun e w'=>e=.returned (.tuple #[.string ⟨#[]⟩,.int .i64 (aO d id)])∧aa af w w':=by
 have HU:=Lib.hid (Cw h id)
 rw[if_neg hf]at HU
 have hb:(id==1)=false:=by simpa using h1
 have hne:(aO d id != 0)=true:=by simpa using hf
 generalize aO d id=fe at *
 go_enter Tryz.func64,Tryz.ntmps64
 go_wp2
 go_step3
 go_wp2
 go_step3
 go_wp2_with(first|(go_at_call 106;go_loud(refine HU.out.mono ?_);rintro e w2 ⟨rfl,zw⟩;subst zw))
 (try simp only[Exit.noGoto_ret])
 go_ret2
 exact⟨rfl,aa.refl _ _⟩
structure x9 (d:ag) (W:ByteArray) (w w':World) (id:Int) (s:ByteArray):Prop where
 keeps:aa af w w'
 kind:(nd d id).kind=2
 size:s.size+256*j5 d id<=256*d.length
 way:WP d id s W
def vE (d:ag) (W:ByteArray) (w:World) (a:Nat) (a':Act) (w':World):Prop :=
 ∃(fz:Nat->Value) (id:Int) (s:ByteArray),a'={ tmps:=List.toArray (.pointer (some ⟨a,0,none⟩)::.int .i64 id::fz 2::fz 3::fz 4::fz 5::.string s::fz 7::fz 8::fz 9::fz 10::fz 11::fz 12::fz 13::fz 14::fz 15::fz 16::fz 17::fz 18::fz 19::fz 20::fz 21::fz 22::fz 23::fz 24::fz 25::fz 26::fz 27::fz 28::fz 29::fz 30::fz 31::fz 32::fz 33::fz 34::fz 35::fz 36::fz 37::fz 38::fz 39::fz 40::fz 41::fz 42::fz 43::fz 44::fz 45::fz 46::fz 47::fz 48::fz 49::fz 50::fz 51::fz 52::fz 53::[]),defers:=[] }∧x9 d W w w' id s
theorem vE.mk {W:ByteArray} {a':Act} {id:Int} {s:ByteArray} (h:(fun fz:Nat->Value=>a'={ tmps:=List.toArray (.pointer (some ⟨a,0,none⟩)::.int .i64 id::fz 2::fz 3::fz 4::fz 5::.string s::fz 7::fz 8::fz 9::fz 10::fz 11::fz 12::fz 13::fz 14::fz 15::fz 16::fz 17::fz 18::fz 19::fz 20::fz 21::fz 22::fz 23::fz 24::fz 25::fz 26::fz 27::fz 28::fz 29::fz 30::fz 31::fz 32::fz 33::fz 34::fz 35::fz 36::fz 37::fz 38::fz 39::fz 40::fz 41::fz 42::fz 43::fz 44::fz 45::fz 46::fz 47::fz 48::fz 49::fz 50::fz 51::fz 52::fz 53::[]),defers:=[] }) (fun i=>a'.tmps.toList.getD i undef))
 (J:x9 d W w w' id s):vE d W w a a' w':=⟨fun i=>a'.tmps.toList.getD i undef,id,s,h,J⟩
theorem Qi (h:aS R w a d room us lk up) (hI:aG d) (hu:BN d lk up) (hs:aP d) (mo:Int) (W:ByteArray) (bS:(nd d mo).kind=2) (hW:WP d mo ⟨#[]⟩ W) :
 Calls Tryz.prog 64 #[.pointer (some ⟨a,0,none⟩),.int .i64 mo] w fun e w'=>e=.returned (.tuple #[.string W,.int .i64 0])∧aa af w w':=by
 have hlen:=jm d
 have hs':=hs
 unfold aP at hs'
 go_enter Tryz.func64,Tryz.ntmps64
 go_wp2
 refine Bn 0 (vE d W w a) (fun a' _=>j5 d (intOf (a'.tmps.getD 1 undef))) rfl ?_ ?_
 ·intro HJ
  have vZ:=Lib.hid HJ
  clear HJ
  go_wp2
  go_step3
  go_step
  go_step
  refine vZ.out _ _ ?_
  exact vE.mk (id:=mo) (s:=⟨#[]⟩) rfl ⟨aa.refl _ _,bS,by have:=yS d mo;show 0+_<=_;omega,hW⟩
 ·rintro a' w1 ⟨fz,id,s,rfl,J⟩
  have hk:=J.keeps
  have hsz:=J.size
  by_cases h1:id=1
  ·subst h1
   have HQ:=Lib.hid (J.way.at_root hI)
   go_wp2_with fail
   (try simp only[Exit.jump,Exit.inBlock,Exit.then])
   go_ret2
   exact⟨by rw[HQ.out];rfl,hk⟩
  ·have hb:(id==1)=false:=by simpa using h1
   obtain⟨aM,u,e,hp,he,q8,vA,xU⟩:=J.way.above hI h1
   have hhi:has d id:=by unfold has;rw[aM];decide
   have hfe:aO d id=0:=by unfold aO;rw[if_neg hhi,if_pos aM]
   have sN:=hp.dir hI
   have xV:has d u:=by unfold has;rw[sN];decide
   have oZ:aO d u=0:=by unfold aO;rw[if_neg xV,if_pos sN]
   have xW:up id=u:=(hu id hhi).1 u hp
   have HU:=Lib.hid (Cw (h.ai hk) id)
   rw[hfe,if_pos rfl,xW]at HU
   have HL:=Lib.hid (fun wx (kx:aa af w1 wx)=>Cv (h.ai (hk.trans kx)) u (gx hs u))
   rw[oZ]at HL
   simp only[if_true]at HL
   have hal:=yT hI hp
   have h2:e.1.size<=255:=by have:=(hI.node u).names e he;simp[fJ]at this;omega
   have hsb:s.size<=549755813888:=by omega
   have hse:(e.1++lB s).size<=s.size+256:=by
    rw[ByteArray.size_append]
    unfold lB
    split
    ·show _+0<=_;omega
    ·rw[ByteArray.size_append];show _+(1+_)<=_;omega
   have HJ:Hid (x9 d W w w1 u (e.1++lB s)):=⟨hk,sN,by omega,xU⟩
   obtain⟨es,hes⟩:∃es,(nd d u).ah=es:=⟨_,rfl⟩
   rw[hes]at HL he vA
   have r7:es.length<4294967295:=by rw[<- hes];exact gx hs u
   have HH:=Lib.hid (And.intro he (And.intro q8 vA))
   have HA:=Lib.hid hal
   have HC:=Lib.hid hk
   clear hp he q8 vA xU hhi hfe sN xV oZ xW hes J hal aM
   go_upto_region 10 with(first|(go_at_call 106;go_loud(refine HU.out.mono ?_);rintro ex w2 ⟨rfl,zw⟩;subst zw)|(go_at_call 33;go_loud(refine(HL.out _ (aa.refl _ _)).mono ?_);rintro ex w2 ⟨v,rfl,hown,hk2⟩;obtain⟨p1,c1,rfl,hsl⟩:=hown.sl))
   have hcap:=hsl.cap
   have hmax:=hsl.max
   unfold maxLen at hmax
   go_wp2_with fail
   go_loopw [1,6,36] (fun v1 v6 i wr=>v1=.int .i64 id∧v6=.string s∧∃k:Nat,k<=es.length∧i=.int .i64 k∧(∀j x,j<k->es[j]?=some x->¬x.2=id)∧aa af w2 wr) (fun _ _ i _=>es.length-(intOf i).toNat)
   case atStart=>exact⟨rfl,rfl,0,Nat.zero_le _,rfl,fun j x hj=>by omega,aa.refl _ _⟩
   case round =>
    obtain⟨rfl,rfl,k,hk,rfl,hno,Fz⟩:=hrel
    have Hno:=Lib.hid hno
    clear hno
    by_cases hlt:k<es.length
    ·obtain⟨x,hx⟩:∃x,es[k]?=some x:=⟨_,List.getElem?_eq_getElem hlt⟩
     obtain⟨gb,off,rfl,hS,hg,c0,c1'⟩:=(hsl.ai Fz).iW hx
     have Hx:=Lib.hid hx
     clear hx
     have kx:Hid (aa af w (wr.alloc (.cells #[.string x.1,.int .i64 x.2] 59))):=Lib.hid (((HC.out.trans hk2).trans Fz).alloc _)
     by_cases n9:x.2=id
     ·have hbx:(x.2==id)=true:=by simpa using n9
      have Ft:x=e:=HH.out.2.2 x (List.mem_of_getElem? Hx.out) n9
      subst Ft
      have pG:=HJ.out
      by_cases hs0:s=⟨#[]⟩
      ·subst hs0
       have FA:Hid (x9 d W w (wr.alloc (.cells #[.string x.1,.int .i64 x.2] 59)) u (x.1++⟨#[]⟩)):=Lib.hid ⟨kx.out,pG.kind,pG.size,pG.way⟩
       clear pG HJ
       go_wp2_with fail
       (try go_step3)
       (try simp only[Exit.jump,Exit.inBlock,Exit.then])
       refine⟨rfl,vE.mk (id:=u) (s:=x.1++⟨#[]⟩) rfl (by have hj:=FA.out;rw[n9]at hj;exact hj),?_⟩
       simpa[intOf]using HA.out
      ·have hne:=nr hs0
       have jT:lB s=dL++s:=by unfold lB;rw[if_neg hs0]
       rw[jT]at pG
       have FA:Hid (x9 d W w (wr.alloc (.cells #[.string x.1,.int .i64 x.2] 59)) u (x.1++(dL++s))):=Lib.hid ⟨kx.out,pG.kind,pG.size,pG.way⟩
       clear pG HJ jT hs0
       go_wp2_with fail
       (try go_step3)
       (try simp only[Exit.jump,Exit.inBlock,Exit.then])
       refine⟨rfl,vE.mk (id:=u) (s:=x.1++(dL++s)) rfl (by have hj:=FA.out;rw[n9]at hj;exact hj),?_⟩
       simpa[intOf]using HA.out
     ·have hbx:(x.2==id)=false:=by simpa using n9
      go_wp2_with fail
      go_roundw
      case rel =>
       refine⟨rfl,rfl,k+1,by omega,by go_num,fun j y hj hy=>?_,Fz.alloc _⟩
       by_cases ej:j=k
       ·subst ej;rw[Hx.out]at hy;cases hy;exact n9
       ·exact Hno.out j y (by omega) hy
      case measure=>simp[intOf];omega
    ·exfalso
     obtain⟨j,hj⟩:=List.mem_iff_getElem?.1 HH.out.1
     exact Hno.out j e (by have:=(List.getElem?_eq_some_iff.1 hj).1;omega) hj HH.out.2.1
end
section
variable{N:Nat->Prop} {w w':World} {F a:Nat} {d d':ag} {room calls fail:Int}
theorem Qh (h:NH d) (hI:aG d) (hcl:bK d) (i:Int) (hi:(nd d i).kind=2):∀s,∃W,WP d i s W:=by
 have:=hI.oT i
 induction this with
 | intro i _ ih =>
   intro s
   by_cases h1:i=1
   ·subst h1;exact⟨_,.root s⟩
   ·have hc:0<cnt d i:=Nat.pos_of_ne_zero fun hc=>hcl i ⟨by unfold has;rw[hi];decide,by unfold links;rw[if_neg h1,hc],h i hi⟩
    obtain⟨j,e,he,h2⟩:=mD.1 hc
    have hp:cY d j i:=⟨hi,e,he,h2⟩
    obtain⟨W,hW⟩:=ih j hp (hp.dir hI) (e.1++lB s)
    exact⟨W,.step hi he h2 hW⟩
theorem aY.whole (h:aY N w F a d room calls fail) (i:Int) (W:ByteArray) (hk:(nd d i).kind=2) (hW:WP d i ⟨#[]⟩ W) :
 Calls Tryz.prog 64 #[.pointer (some ⟨a,0,none⟩),.int .i64 i] w fun e w'=>e=.returned (.tuple #[.string W,.int .i64 0])∧aa af w w':=by
 obtain⟨R,⟨⟨lk,up,hC⟩,_,_,_⟩,_⟩:=h.pd.ex
 exact Qi hC.rep hC.inv hC.mT hC.small i W hk hW
theorem aY.nowhere (h:aY N w F a d room calls fail) (i:Int) (hf:aO d i≠0) (h1:i≠1) :
 Calls Tryz.prog 64 #[.pointer (some ⟨a,0,none⟩),.int .i64 i] w fun e w'=>e=.returned (.tuple #[.string ⟨#[]⟩,.int .i64 (aO d i)])∧aa af w w':=by
 obtain⟨R,⟨⟨lk,up,hC⟩,_,_,_⟩,_⟩:=h.pd.ex
 exact Qj hC.rep i hf h1
theorem I9 (h:aY N w F a d room calls fail) (at' mask:Int) (s:ByteArray) (ee:Int)
 (hc:∀wx,aa af w wx->Calls Tryz.prog 64 #[.pointer (some ⟨a,0,none⟩),.int .i64 at'] wx fun e w'=>e=.returned (.tuple #[.string s,.int .i64 ee])∧aa af wx w') :
 Calls Tryz.prog 34 #[.pointer (some ⟨F,0,none⟩),.agg #[.int .i64 at',.int .i64 mask]] w fun e w'=>e=.returned (.tuple #[.string s,.int .i64 ee])∧aa af w w':=by
 have HC:=Lib.hid hc
 have HF:=Lib.hid h
 clear hc h
 go_enter Tryz.func34,Tryz.ntmps34
 go_upto_region 1 with fail
 have HB:=Lib.hid (Bk.new (aa.refl af (w.alloc (.cells #[.int .i64 at',.int .i64 mask] 34))))
 have HK:=Lib.hid ((aa.refl af w).alloc (.cells #[.int .i64 at',.int .i64 mask] 34))
 generalize w.alloc (.cells #[.int .i64 at',.int .i64 mask] 34)=w1 at *
 generalize w.heap.size=B at *
 have d0:=(HF.out.on HK.out.drew).c0
 have d1:=(HB.out.on (aa.refl af w1).drew).cell 0 _ rfl
 go_region_held3 (fun wz=>wz.cell? ⟨F,0,none⟩=some (.pointer (some ⟨a,0,none⟩))∧wz.cell? ⟨B,0,none⟩=some (.int .i64 at')) (refine⟨?_,?_⟩<;>with_reducible assumption)
  (first|(go_at_call 64;refine(HC.out _ HK.out.drew).mono ?_;rintro e w4 ⟨rfl,bB⟩;have z0:=(HF.out.on (HK.out.drew.trans bB)).c0;have z1:=((HB.out.on (aa.refl af w1).drew).on bB).cell 0 _ rfl))
 all_goals
  go_wp2_with fail
  go_ret2
  exact⟨rfl,HK.out.drew.trans bB⟩
end
section
variable{S:Nat->Prop} {w:World} {p:Option Addr} {c:Nat} {d:ag} {room:Int}
theorem RQ (h:aI S w p c d) (hI:aG d) (hs:aP d) {up:Int->Int} (cA:∀i u,aO d i=0->kY d i u->up i=u) (hpar:∀u i,cY d u i->up i=u) (mo:Int) (W:ByteArray) (bS:(nd d mo).kind=2) (hW:WP d mo ⟨#[]⟩ W) :
 Calls Tryz.prog 35 #[aE p c d room,.int .i64 mo] w fun e w'=>e=.returned (.tuple #[.string W,.bool true])∧aa af w w':=by
 have hcap:=h.cap
 have hmax:=h.max
 unfold maxLen at hmax
 have hlen:=jm d
 have hs':=hs
 unfold aP at hs'
 have k1:aa af w (w.alloc (.cells #[.slice p d.length c,.int .i64 room] 37)):=(aa.refl _ _).alloc _
 have HK:=Lib.hid k1
 have qH:=Lib.hid cA
 have Vv:=Lib.hid hpar
 have ht:=hI.two
 clear k1 cA hpar
 have HZ:Hid (0+j5 d mo<=d.length∧(nd d mo).kind=2∧WP d mo ⟨#[]⟩ W∧(⟨#[]⟩:ByteArray).size+256*j5 d mo<=256*d.length):=Lib.hid ⟨by have:=yS d mo;omega,bS,hW,by have:=yS d mo;show 0+_<=_;omega⟩
 clear bS hW
 unfold aE
 go_enter Tryz.func35,Tryz.ntmps35
 go_wp2
 go_loopw [1,6,7] (fun v1 v6 v7 wr=>∃(n:Nat) (id:Int) (s:ByteArray),v7=.int .i64 n∧v1=.int .i64 id∧v6=.string s∧(n+j5 d id<=d.length∧(nd d id).kind=2∧WP d id s W∧s.size+256*j5 d id<=256*d.length)∧aa af (w.alloc (.cells #[.slice p d.length c,.int .i64 room] 37)) wr) (fun _ _ v7 _=>d.length+1-(intOf v7).toNat)
 case atStart=>exact⟨0,mo,⟨#[]⟩,rfl,rfl,rfl,HZ.out,aa.refl _ _⟩
 case round =>
  obtain⟨n,id,s,rfl,rfl,rfl,⟨hn,aM,Bh,hsz⟩,hk⟩:=hrel
  clear HZ
  have b0:wr.cell? ⟨w.heap.size,0,none⟩=some (.slice p d.length c):=boxed hk 0 _ rfl
  have b1:wr.cell? ⟨w.heap.size,1,none⟩=some (.int .i64 room):=boxed hk 1 _ rfl
  have bl:w.heap.size<wr.heap.size:=Nat.lt_of_lt_of_le (by simp) hk.size
  have WG:(n:Int)<=(d.length:Int):=by omega
  by_cases h1:id=1
  ·subst h1
   have HQ:=Lib.hid (Bh.at_root hI)
   have hsb:s.size<=549755813888:=by omega
   clear Bh
   go_wp2_with fail
   go_ret2
   exact⟨by rw[HQ.out];rfl,HK.out.trans hk⟩
  ·have hb:(id==1)=false:=by simpa using h1
   obtain⟨_,u,e,hp,he,q8,vA,xU⟩:=Bh.above hI h1
   have hhi:has d id:=by unfold has;rw[aM];decide
   have hfe:aO d id=0:=by unfold aO;rw[if_neg hhi,if_pos aM]
   have sN:=hp.dir hI
   have xV:has d u:=by unfold has;rw[sN];decide
   have xW:=Vv.out u id hp
   obtain⟨ku,rfl,Vw⟩:=eP xV
   obtain⟨g,off,q,m,rfl,hS,qJ⟩:=h.rowAt Vw
   have HU:=Lib.hid (EV (room:=room) (h.ai (HK.out.trans hk)) hI.zero (by omega) hs id)
   have hue:=fun u' (hu:kY d id u')=>(qH.out id u' hfe hu).symm.trans xW
   have Vx:=Lib.hid hue
   have hal:=yT hI hp
   have h2:e.1.size<=255:=by have:=(hI.node ku).names e he;simp[fJ]at this;omega
   have hsb:s.size<=549755813888:=by omega
   have hse:(e.1++lB s).size<=s.size+256:=by
    rw[ByteArray.size_append]
    unfold lB
    split
    ·show _+0<=_;omega
    ·rw[ByteArray.size_append];show _+(1+_)<=_;omega
   have HN:Hid (n+1+j5 d (ku:Int)<=d.length∧(nd d (ku:Int)).kind=2∧WP d (ku:Int) (e.1++lB s) W∧(e.1++lB s).size+256*j5 d (ku:Int)<=256*d.length):=Lib.hid ⟨by omega,sN,xU,by omega⟩
   have hel:=gx hs (ku:Int)
   have HH:=Lib.hid (And.intro he (And.intro q8 vA))
   clear hue hp he q8 vA xU hhi hfe sN xV xW hal aM Bh
   unfold aE at HU
   go_upto_region 10 with(first|(go_at_call 65;go_loud(refine HU.out.mono ?_);rintro ex w2 ⟨u',rfl,Fh,hk2⟩;have hu':=Vx.out u' Fh;subst hu'))
   have aV:=hk.trans hk2
   have d0:w2.cell? ⟨w.heap.size,0,none⟩=some (.slice (some ⟨g,off,none⟩) d.length c):=boxed aV 0 _ rfl
   have dl:w.heap.size<w2.heap.size:=Nat.lt_of_lt_of_le bl hk2.size
   have hrow:=qJ.ai (HK.out.trans aV)
   have WH:=hrow.c4
   have Fq:=hrow.lt
   have hsl:=hrow.sl
   have hcl:=hsl.cap
   have hml:=hsl.max
   unfold maxLen at hml
   clear b0 b1 bl HU hk hk2
   generalize(nd d (ku:Int)).ah=es at *
   go_wp2_with fail
   go_loop [6,9,10] (fun v6 v9 v10=>∃j:Nat,v10=.int .i64 j∧j<=es.length∧((v9=.bool false∧v6=.string s∧∀i x,i<j->es[i]?=some x->¬x.2=id)∨(v9=.bool true∧v6=.string (e.1++lB s)))) (fun _ _ v10=>es.length-(intOf v10).toNat)
   case atStart=>exact⟨0,rfl,Nat.zero_le _,.inl ⟨rfl,rfl,fun i x hi=>by omega⟩⟩
   case round =>
    obtain⟨j,rfl,hj,hc⟩:=hrel
    by_cases hlt:j<es.length
    ·obtain⟨x,hx⟩:∃x,es[j]?=some x:=⟨_,List.getElem?_eq_getElem hlt⟩
     obtain⟨g2,off2,rfl,WI,gR,c0,c1⟩:=hsl.iW hx
     have Hx:=Lib.hid hx
     clear hx
     rcases hc with⟨rfl,rfl,hno⟩|⟨rfl,rfl⟩
     ·have Hno:=Lib.hid hno
      clear hno
      by_cases n9:x.2=id
      ·have hbx:(x.2==id)=true:=by simpa using n9
       have Ft:x=e:=HH.out.2.2 x (List.mem_of_getElem? Hx.out) n9
       subst Ft
       by_cases hs0:s=⟨#[]⟩
       ·have hsl0:lB s=s:=by rw[hs0];rfl
        rw[hsl0]at HN
        subst hs0
        go_wp2_with fail
        go_round
        case rel=>exact⟨j+1,by go_num,by omega,.inr ⟨rfl,rfl⟩⟩
        case measure=>simp[intOf];omega
       ·have hne:=nr hs0
        have jT:lB s=dL++s:=by unfold lB;rw[if_neg hs0]
        clear hs0
        go_wp2_with fail
        go_round
        case rel=>exact⟨j+1,by go_num,by omega,.inr ⟨rfl,by rw[jT]⟩⟩
        case measure=>simp[intOf];omega
      ·have hbx:(x.2==id)=false:=by simpa using n9
       go_wp2_with fail
       go_round
       case rel =>
        refine⟨j+1,by go_num,by omega,.inl ⟨rfl,rfl,fun i y hi hy=>?_⟩⟩
        by_cases ej:i=j
        ·subst ej;rw[Hx.out]at hy;cases hy;exact n9
        ·exact Hno.out i y (by omega) hy
       case measure=>simp[intOf];omega
     ·rcases hbx:(x.2==id)with _|_
      all_goals
       go_wp2_with fail
       go_round
       case rel=>exact⟨j+1,by go_num,by omega,.inr ⟨rfl,rfl⟩⟩
       case measure=>simp[intOf];omega
    ·rcases hc with⟨rfl,rfl,hno⟩|⟨rfl,rfl⟩
     ·exfalso
      obtain⟨i,hi⟩:=List.mem_iff_getElem?.1 HH.out.1
      exact hno i e (by have:=(List.getElem?_eq_some_iff.1 hi).1;omega) hi HH.out.2.1
     ·obtain rfl:j=es.length:=by omega
      go_wp2_with fail
      go_roundw
      case rel=>exact⟨n+1,ku,_,by go_num,rfl,rfl,HN.out,aV⟩
      case measure=>simp[intOf];omega
end
set_option maxHeartbeats 8000000
section
variable{B:Nat->Prop} {w:World} {B0 F a:Nat} {d:ag} {room calls fail at' mask:Int} {p:Option Addr} {c k:Nat}
theorem RP (h:NH d) (hI:aG d) (hcl:bK d) (u i:Int) (hp:cY d u i):iA d i=u:=by
 obtain⟨hk,e,he,h2⟩:=hp
 have h1:i≠1:=by rw[<- h2];exact(hI.tgt u e he).2
 exact De hI h1 ⟨hk,e,he,h2⟩ (fun a b=>hI.uq a b)
theorem Sd.whole (h:Sd B w B0 F a p c d room calls fail at' mask k) {i:Int} {W:ByteArray} (hk:(nd d i).kind=2) (hW:WP d i ⟨#[]⟩ W) :
 Calls Tryz.prog 35 #[.agg #[.slice p d.length c,.int .i64 room],.int .i64 i] w fun e w'=>e=.returned (.tuple #[.string W,.bool true])∧aa af w w' :=
 h.sd.Dz fun S hr=>RQ (room:=room) hr h.sd.inv h.sd.small (pz h.nh h.sd.inv h.sd.clean) (RP h.nh h.sd.inv h.sd.clean) i W hk hW
theorem RR (h:Sd B w B0 F a p c d room calls fail at' mask k) :
 Calls Tryz.prog 12 #[.pointer (some ⟨B0,0,none⟩)] w fun e w'=>e=.returned (.bool true)∧aa af w w':=by
 have HH:=Lib.hid h
 have hcap:=h.sd.cap
 have hmax:=h.sd.max
 unfold maxLen at hmax
 have je:=Lib.hid (fun(wx:World) (kx:aa af w wx)=>(h.sd.on kx).Dz fun S hr=>rA (room:=room) hr h.sd.inv.zero at')
 unfold aE at je
 obtain⟨hb,wY⟩:∃hb,decide (has d at')=hb:=⟨_,rfl⟩
 rw[wY]at je
 replace wY:=Lib.hid wY
 obtain⟨s,ee,hs⟩:∃(s:ByteArray) (ee:Int),(has d at'->ee=0∧∀wx,aa af w wx->Calls Tryz.prog 35 #[.agg #[.slice p d.length c,.int .i64 room],.int .i64 at'] wx fun e w'=>e=.returned (.tuple #[.string s,.bool true])∧aa af wx w')∧(¬has d at'->s=⟨#[]⟩∧ee=12) ∧
  ∀wx,aa af w wx->Calls Tryz.prog 34 #[.pointer (some ⟨F,0,none⟩),.agg #[.int .i64 at',.int .i64 mask]] wx fun e w'=>e=.returned (.tuple #[.string s,.int .i64 ee])∧aa af wx w':=by
  by_cases hi:has d at'
  ·have hk:(nd d at').kind=2:=h.usr.2.resolve_left hi
   obtain⟨W,hW⟩:=Qh h.nh h.sd.inv h.sd.clean at' hk ⟨#[]⟩
   exact⟨W,0,fun _=>⟨rfl,fun wx kx=>(h.on kx).whole hk hW⟩,fun hn=>absurd hi hn,fun wx kx=>(h.sd.on kx).asks fun N hN=>I9 hN at' mask W 0 (fun wy ky=>(hN.on ky).whole at' W hk hW)⟩
  ·have h1:at'≠1:=fun e=>hi (by rw[e];unfold has;rw[h.sd.inv.root];decide)
   have hf:aO d at'=12:=by unfold aO;exact if_pos (j8 hi)
   exact⟨⟨#[]⟩,12,fun hn=>absurd hn hi,fun _=>⟨rfl,rfl⟩,fun wx kx=>(h.sd.on kx).asks fun N hN=>I9 hN at' mask ⟨#[]⟩ 12 (fun wy ky=>by
    have:=(hN.on ky).nowhere at' (by rw[hf];decide) h1
    rw[hf]at this
    exact this)⟩
 have HS:=Lib.hid hs
 have b0:=h.bx.cell 0 _ rfl
 have b1:=h.bx.cell 1 _ rfl
 have b2:=h.bx.cell 2 _ rfl
 have b3:=h.bx.cell 3 _ rfl
 have b4:=h.bx.cell 4 _ rfl
 have b7:=h.bx.cell 7 _ rfl
 have J8:=Lib.hid hs.2.2
 clear h hs
 go_enter Tryz.func12,Tryz.ntmps12
 go_upto_region 1 with fail
 have kr:aa af w w.drew:=(aa.refl af w).drew
 have d0:=cG kr b0
 have d1:=cG kr b1
 have d2:=cG kr b2
 go_region_held3 (fun wz=>wz.cell? ⟨B0,0,none⟩=some (.pointer (some ⟨F,0,none⟩))∧wz.cell? ⟨B0,1,none⟩=some (.int .i64 at')∧wz.cell? ⟨B0,2,none⟩=some (.int .i64 mask))
  (refine⟨?_,?_,?_⟩<;>with_reducible assumption)
  (first|(go_at_call 34;refine(J8.out _ kr).mono ?_;rintro e w5 ⟨rfl,bX⟩;have zk:aa af w w5:=kr.trans bX;have z0:=cG zk b0;have z1:=cG zk b1;have z2:=cG zk b2))
 have kM:=Lib.hid zk
 have y3:=cG zk b3
 have y4:=cG zk b4
 have y7:=cG zk b7
 clear d0 d1 d2 z0 z1 z2 b0 b1 b2 b3 b4 b7 kr bX zk J8
 go_upto_region 2 with fail
 have kr:aa af w5 w5.drew:=(aa.refl af w5).drew
 have d3:=cG kr y3
 have d4:=cG kr y4
 have d7:=cG kr y7
 go_region_held3 (fun wz=>wz.cell? ⟨B0,3,none⟩=some (.slice p d.length c)∧wz.cell? ⟨B0,4,none⟩=some (.int .i64 room)∧wz.cell? ⟨B0,7,none⟩=some (.int .i64 at'))
  (refine⟨?_,?_,?_⟩<;>with_reducible assumption)
  (first|(go_at_call 30;refine(je.out _ (kM.out.trans kr)).mono ?_;rintro e w6 ⟨rfl,cF⟩;have zk:aa af w5 w6:=kr.trans cF;have z3:=cG zk y3;have z4:=cG zk y4;have z7:=cG zk y7))
 have D9:=Lib.hid (kM.out.trans zk)
 by_cases hi:has d at'
 case neg =>
  obtain⟨rfl,rfl⟩:=HS.out.2.1 hi
  obtain rfl:false=hb:=(decide_eq_false hi).symm.trans wY.out
  clear d3 d4 d7 y3 y4 y7 kr cF zk kM HS hi
  go_wp2_with fail
  go_ret
  exact⟨rfl,D9.out⟩
 case pos =>
  obtain⟨rfl,hw⟩:=HS.out.1 hi
  have HW:=Lib.hid hw
  obtain rfl:true=hb:=(decide_eq_true hi).symm.trans wY.out
  clear d3 d4 d7 y3 y4 y7 kr cF zk kM HS hi hw
  go_upto_region 4 with fail
  have kr:aa af w6 w6.drew:=(aa.refl af w6).drew
  have d3:=cG kr z3
  have d4:=cG kr z4
  have d7:=cG kr z7
  go_region_held3 (fun wz=>wz.cell? ⟨B0,3,none⟩=some (.slice p d.length c)∧wz.cell? ⟨B0,4,none⟩=some (.int .i64 room)∧wz.cell? ⟨B0,7,none⟩=some (.int .i64 at'))
   (refine⟨?_,?_,?_⟩<;>with_reducible assumption)
   (first|(go_at_call 35;refine(HW.out _ (D9.out.trans kr)).mono ?_;rintro e w7 ⟨rfl,iE⟩;have zk:aa af w6 w7:=kr.trans iE;have y3:=cG zk z3;have y4:=cG zk z4;have y7:=cG zk z7))
  have sx:(s.toList==s.toList)=true:=by rw[toList_eq];simp
  clear d3 d4 d7 z3 z4 z7 y3 y4 y7 iE kr
  go_wp2_with fail
  go_ret
  exact⟨by simp,D9.out.trans zk⟩
end
section
variable{B:Nat->Prop} {w:World} {B0 F a:Nat} {d:ag} {room calls fail at' mask:Int} {p:Option Addr} {c k:Nat}
theorem RY {s:ByteArray} {follow:Bool} (h:(aL d at' s follow).2≠0):(aL d at' s follow).1.node=0:=by
 unfold aL iL at h ⊢
 split
 ·rfl
 ·next h1 =>
  rw[if_neg h1]at h
  split
  ·rfl
  ·next h2 =>
   rw[if_neg h2]at h
   exact absurd (Classical.not_not.1 h1) h
theorem RZ (hI:aG d) (s:ByteArray):sj d (aL d at' s true)=(fI d at' s 256).2∧((fI d at' s 256).2=0->(aL d at' s true).1.node=(fI d at' s 256).1):=by
 have eL:sj d (aL d at' s true)=if (aL d at' s true).2≠0 then(aL d at' s true).2 else if (nd d (aL d at' s true).1.node).kind≠2 then 14 else if (nd d (aL d at' s true).1.node).mode / 256 % 2=0 then 19 else 0:=by
  unfold sj
  rw[uK hI]
  have hb:=zK 256 (.inr (.inr rfl)) (nd d (aL d at' s true).1.node).mode (hI.node _).mV (hI.node _).mW
  rw[show((256:Nat):Int)=256 from rfl]at hb
  rw[hb]
  simp only[decide_eq_true_eq]
 have eF:fI d at' s 256=if (aL d at' s true).2≠0 then(0,(aL d at' s true).2)else if (nd d (aL d at' s true).1.node).kind≠2 then(0,14)else if (nd d (aL d at' s true).1.node).mode / 256 % 2=0 then(0,19)else((aL d at' s true).1.node,0):=rfl
 rw[eL,eF]
 generalize aL d at' s true=T
 split
 ·next h=>exact⟨rfl,fun e=>absurd e h⟩
 split
 ·exact⟨rfl,fun e=>by cases e⟩
 split
 ·exact⟨rfl,fun e=>by cases e⟩
 ·exact⟨rfl,fun _=>rfl⟩
theorem Sd.stat (h:Sd B w B0 F a p c d room calls fail at' mask k) (hk:k<=100) (s:ByteArray) (follow:Bool) (hs:s.size<=4294967280) :
 ∃(tn te v0 v1 v2 v3 v4:Int),(te≠0->tn=0∧v0=0∧v1=0∧v2=0∧v3=0∧v4=0) ∧
  (∀wx,aa af w wx->Calls Tryz.prog 9 #[.pointer (some ⟨F,0,none⟩),.agg #[.int .i64 at',.int .i64 mask],.string s,.bool follow] wx fun e w'=>e=.returned (.tuple #[.int .i64 tn,.agg #[.int .i64 v0,.int .i64 v1,.int .i64 v2,.int .i64 v3,.int .i64 v4],.int .i64 te])∧aa af wx w') ∧
  (∀wx,aa af w wx->Calls Tryz.prog 10 #[.agg #[.slice p d.length c,.int .i64 room,.int .i64 calls,.int .i64 fail],.agg #[.int .i64 at',.int .i64 mask],.string s,.bool follow] wx fun e w'=>e=.returned (.tuple #[.int .i64 tn,.int .i64 te])∧aa af wx w'):=by
 obtain⟨N,_,hf,_⟩:=h.sd.ex
 obtain⟨v0,v1,v2,v3,v4,hv,_⟩:=zS hf (aL d at' s follow)
 refine⟨(aL d at' s follow).1.node,(aL d at' s follow).2,v0,v1,v2,v3,v4,fun he=>?_,fun wx kx=>?_,fun wx kx=>?_⟩
 ·unfold mL at hv
  rw[if_pos he]at hv
  unfold o6 at hv
  simp only[Value.agg.injEq,Array.mk.injEq,List.cons.injEq,Value.int.injEq,true_and,and_true]at hv
  obtain⟨rfl,rfl,rfl,rfl,rfl⟩:=hv
  exact⟨RY he,rfl,rfl,rfl,rfl,rfl⟩
 ·have:=(h.sd.on kx).asks fun N hN=>uI hN at' mask s follow hs
  rw[hv,uK h.sd.inv]at this
  exact this
 ·obtain⟨S,hR⟩:=(h.on kx).r6 hk
  exact Ea (room:=room) (fail:=fail) hR hR.rows at' mask s follow hs
theorem Sd.rlk (h:Sd B w B0 F a p c d room calls fail at' mask k) (hk:k<=100) (s:ByteArray) (hs:s.size<=4294967280) :
 ∃(t:ByteArray) (te:Int),(∀wx,aa af w wx->Calls Tryz.prog 13 #[.pointer (some ⟨F,0,none⟩),.agg #[.int .i64 at',.int .i64 mask],.string s] wx fun e w'=>e=.returned (.tuple #[.string t,.int .i64 te])∧aa af wx w') ∧
  (∀wx,aa af w wx->Calls Tryz.prog 14 #[.agg #[.slice p d.length c,.int .i64 room,.int .i64 calls,.int .i64 fail],.agg #[.int .i64 at',.int .i64 mask],.string s] wx fun e w'=>e=.returned (.tuple #[.string t,.int .i64 te])∧aa af wx w'):=by
 refine⟨(pS d at' s).1,(pS d at' s).2,fun wx kx=>(h.sd.on kx).asks fun N hN=>Qd hN at' mask s hs,fun wx kx=>?_⟩
 obtain⟨S,hR⟩:=(h.on kx).r6 hk
 exact R5 (room:=room) (fail:=fail) hR at' mask s hs
def Ke (w:World) (l:List aD) (qe:Int):Ending->World->Prop:=fun e w'=>∃q m,e=.returned (.tuple #[.slice q l.length m,.int .i64 qe])∧bt aK (fun g=>w.heap.size<=g) w' q m l∧aa af w w'
theorem Sd.lists (h:Sd B w B0 F a p c d room calls fail at' mask k) (hk:k<=100) (s:ByteArray) (hs:s.size<=4294967280) :
 ∃(qn qe:Int) (l:List aD),(qe≠0->l=[])∧(qe=0->has d qn∧l=(nd d qn).ah)∧l.length<4294967295 ∧
  (∀wx,aa af w wx->Calls Tryz.prog 15 #[.pointer (some ⟨F,0,none⟩),.agg #[.int .i64 at',.int .i64 mask],.string s] wx (Ke wx l qe)) ∧
  (∀wx,aa af w wx->Calls Tryz.prog 16 #[.agg #[.slice p d.length c,.int .i64 room,.int .i64 calls,.int .i64 fail],.agg #[.int .i64 at',.int .i64 mask],.string s,.int .i64 8] wx fun e w'=>e=.returned (.tuple #[.int .i64 qn,.int .i64 qe])∧aa af wx w'):=by
 obtain⟨e1,e2⟩:=RZ (d:=d) (at':=at') h.sd.inv s
 have hel:=gx h.sd.small
 refine⟨(fI d at' s 256).1,(fI d at' s 256).2,if (fI d at' s 256).2=0 then(nd d (fI d at' s 256).1).ah else[],fun hn=>if_neg hn,fun h0=>⟨?_,if_pos h0⟩,?_,fun wx kx=>?_,fun wx kx=>?_⟩
 ·have hu:=JG h.sd.inv h0
  rcases hu.2 with hz|hz
  ·have hI:=h.sd.inv
   clear hu e1 e2
   unfold fI at h0 hz ⊢
   split at h0
   ·next x=>exact absurd h0 x
   next x1 =>
   rw[if_neg x1]at hz ⊢
   split at h0
   ·cases h0
   next x2 =>
   rw[if_neg x2]at hz ⊢
   split at h0
   ·cases h0
   next x3 =>
   rw[if_neg x3]
   exact qv hI (Classical.not_not.1 x1)
  ·unfold has;rw[hz];decide
 ·split
  ·exact hel _
  ·decide
 ·refine((h.sd.on kx).asks fun N hN=>PW hN at' mask s hs hel).mono ?_
  rintro e w' ⟨v,rfl,hv,hk'⟩
  have jy:(if sj d (aL d at' s true)=0 then(nd d (aL d at' s true).1.node).ah else[])=if (fI d at' s 256).2=0 then(nd d (fI d at' s 256).1).ah else[]:=by
   rw[e1]
   split
   ·next h0=>rw[e2 h0]
   ·rfl
  rw[jy]at hv
  rw[e1]
  obtain⟨q,m,rfl,hsl⟩:=hv.sl
  exact⟨q,m,rfl,hsl,hk'⟩
 ·obtain⟨S,hR⟩:=(h.on kx).r6 hk
  have:=JH (room:=room) (fail:=fail) hR at' mask s 8 (by decide) hs
  rw[show((2 ^ 8:Nat):Int)=256 from rfl,show((8:Nat):Int)=8 from rfl]at this
  exact this
end
theorem Pq {W:World} {q:Option Addr} {m:Nat} {l:List jE} (h:bt pE (fun g=>g<W.heap.size) W q m l) (hz:∀o∈l,o.s.size<=maxLen∧o.t.size<=maxLen) (s:ByteArray) (hsz:s.size<=maxLen) (follow:Bool) :
 Calls Tryz.prog 4 #[.slice q l.length m,.string s,.bool follow] W (J9 W):=by
 have HL:=Lib.hid h
 have gM:=Lib.hid (fun(wx:World) (kx:aa af W wx)=>Jv (h.ai kx) (fun o ho=>by have:=hz o ho;unfold maxLen at this;omega))
 have hcap:=h.cap
 have hmax:=h.max
 unfold maxLen at hmax hsz
 clear h hz
 obtain⟨sm,eC⟩:∃sm,qw l=sm:=⟨_,rfl⟩
 rw[eC]at gM
 cases sm with
 | false =>
   clear eC
   go_enter Tryz.func4,Tryz.ntmps4
   go_wp2_with(first|(go_at_call 5;go_loud(refine(sr _).mono ?_);rintro e w1 ⟨rfl,k1⟩)|(go_at_call 6;go_loud(refine(gM.out _ k1).mono ?_);rintro e w2 ⟨rfl,k2⟩))
   go_ret
   exact⟨rfl,k1.trans k2⟩
 | true =>
 obtain⟨ho,hn⟩:=Ka eC
 have HO:=Lib.hid ho
 have HN:=Lib.hid hn
 clear ho hn eC
 by_cases hbig:5000<s.size
 case pos =>
  have R7:(5000:Int)<(s.size:Int):=by omega
  clear hbig
  go_enter Tryz.func4,Tryz.ntmps4
  go_wp2_with(first|(go_at_call 5;go_loud(refine(sr _).mono ?_);rintro e w1 ⟨rfl,k1⟩)|(go_at_call 6;go_loud(refine(gM.out _ k1).mono ?_);rintro e w2 ⟨rfl,k2⟩))
  go_ret
  exact⟨rfl,k1.trans k2⟩
 case neg =>
 have R7:¬(5000:Int)<(s.size:Int):=by omega
 have jf:=Lib.hid (show s.size<=4294967280 by omega)
 clear hbig hsz
 have tH:=Lib.hid (fun wx:World=>J4 wx 1048576 (-1) 0 (by decide) (by decide) (by decide) (by decide))
 unfold DY at tH
 go_enter Tryz.func4,Tryz.ntmps4
 go_upto_region 8 with(first
  | (first|(go_at_call 5;go_loud(refine(sr _).mono ?_);rintro e w1 ⟨rfl,k1⟩)|(go_at_call 6;go_loud(refine(gM.out _ k1).mono ?_);rintro e w2 ⟨rfl,k2⟩))
  | (go_at_call 7;go_loud(refine(tH.out _).mono ?_);rintro e w3 ⟨B1,F1,a1,p1,c1,rfl,g1,h1,k3⟩;have hpl:=Lib.hid (J6 h1 (Kb HL.out (k1.trans k2) k3 g1) HO.out HN.out);have aV:=Lib.hid (k1.trans (k2.trans k3));have hg:=Lib.hid (show W.heap.size<=B1∧W.heap.size<=w2.heap.size from⟨by have:=(k1.trans k2).size;omega,(k1.trans k2).size⟩);clear g1 h1 k3 tH)
  | (go_at_call 8;go_loud(refine hpl.out.mono ?_);rintro e w4 ⟨d,calls,at',p,c,rfl,h4,k4⟩;have HS:=Lib.hid h4;have bB:=Lib.hid k4;clear h4 k4))
 have HK:Hid (aa af W w4):=Lib.hid (aV.out.step bB.out (fun g hg'=>.inr (by
  have e1:=hg.out.1
  have e2:=hg.out.2
  rcases hg' with hg'|rfl
  ·rcases Nat.lt_or_ge g W.heap.size with h|h
   ·exact absurd (.inl (by omega)) hg'
   ·exact h
  ·exact e1)))
 clear aV bB hg hpl k1 k2 gM HO HL
 obtain⟨tn,te,v0,v1,v2,v3,v4,hte,hst,hrs⟩:=HS.out.stat (by have:=HN.out;omega) s follow jf.out
 obtain⟨rt,re,hrl,Kf⟩:=HS.out.rlk (by have:=HN.out;omega) s jf.out
 obtain⟨qn,qe,en,qA,Kg,Wb,hls,hfo⟩:=HS.out.lists (by have:=HN.out;omega) s jf.out
 have Kh:=Lib.hid hte
 have iP:=Lib.hid hst
 have Ki:=Lib.hid hrs
 have wD:=Lib.hid hrl
 have Kj:=Lib.hid Kf
 have gN:=Lib.hid qA
 have Kk:=Lib.hid Kg
 have qj:=Lib.hid hls
 have dG:=Lib.hid hfo
 unfold Ke at qj
 have Kl:=Lib.hid (fun(wx:World) (kx:aa af w4 wx)=>DD (HS.out.on kx).sm 60 (by decide) tn)
 have Km:=Lib.hid (fun(wx:World) (kx:aa af w4 wx)=>RR (HS.out.on kx))
 have Wc:=HS.out.sd.cap
 have R8:=HS.out.sd.max
 unfold maxLen at R8
 clear hte hst hrs hrl Kf qA Kg hls hfo jf
 go_cut [8,9,10]from 8 to 56 (fun x y z wx=>∃IB:Nat,x=.int .i64 tn∧y=.pointer (some ⟨IB,0,none⟩)∧z=.int .i64 te∧Bk wx IB [.int .i64 v0,.int .i64 v1,.int .i64 v2,.int .i64 v3,.int .i64 v4]∧aa af w4 wx)
 case first =>
  have b0:=HS.out.bx.cell 0 _ rfl
  have b1:=HS.out.bx.cell 1 _ rfl
  have b2:=HS.out.bx.cell 2 _ rfl
  have kr:aa af w4 w4.drew:=(aa.refl af w4).drew
  have d0:=cG kr b0
  have d1:=cG kr b1
  have d2:=cG kr b2
  go_region_held3 (fun wz=>wz.cell? ⟨B1,0,none⟩=some (.pointer (some ⟨F1,0,none⟩))∧wz.cell? ⟨B1,1,none⟩=some (.int .i64 at')∧wz.cell? ⟨B1,2,none⟩=some (.int .i64 0)∧aa af w4 wz)
   (refine⟨?_,?_,?_,?_⟩<;>first|with_reducible assumption|(with_reducible refine cG ?_ b0;exact kC)|(with_reducible refine cG ?_ b1;exact kC)|(with_reducible refine cG ?_ b2;exact kC)|(exact kC))
   (first|(go_at_call 9;refine(iP.out _ kC).mono ?_;rintro e w5 ⟨rfl,bX⟩;have zk:aa af w4 w5:=aa.trans kC bX;have z0:=cG zk b0;have z1:=cG zk b1;have z2:=cG zk b2;(try(have yb:=Bk.new ((aa.refl af _).drew.trans bX);have y0:=yb.cell 0 _ rfl;have y1:=yb.cell 1 _ rfl;have y2:=yb.cell 2 _ rfl;have y3:=yb.cell 3 _ rfl;have y4:=yb.cell 4 _ rfl;have yl:=yb.lt;have yf:=yb.fz))))
  all_goals
   go_wp2_with fail
   go_meet
   first
    | exact⟨w5.heap.size,rfl,rfl,rfl,Bk.new (aa.refl af _),zk.alloc _⟩
    | exact⟨w4.heap.size,rfl,rfl,rfl,((((yb.put 0 _).put 1 _).put 2 _).put 3 _).put 4 _,((((zk.setCell (.inr (Nat.le_refl _)) _).setCell (.inr (Nat.le_refl _)) _).setCell (.inr (Nat.le_refl _)) _).setCell (.inr (Nat.le_refl _)) _).setCell (.inr (Nat.le_refl _)) _⟩
 case rest =>
 obtain⟨IB,rfl,rfl,rfl,hib,bX⟩:=hcut
 have HI:=Lib.hid hib
 have kM:=Lib.hid bX
 clear hib bX iP
 go_upto_region 9 with fail
 have kd:=Lib.hid kM.out.drew
 have e3:=(HS.out.bx.on kd.out).cell 3 _ rfl
 have e4:=(HS.out.bx.on kd.out).cell 4 _ rfl
 have e5:=(HS.out.bx.on kd.out).cell 5 _ rfl
 have e6:=(HS.out.bx.on kd.out).cell 6 _ rfl
 have e7:=(HS.out.bx.on kd.out).cell 7 _ rfl
 have e8:=(HS.out.bx.on kd.out).cell 8 _ rfl
 go_region_held3 (fun wz=>wz.cell? ⟨B1,3,none⟩=some (.slice p d.length c)∧wz.cell? ⟨B1,4,none⟩=some (.int .i64 1048576)∧wz.cell? ⟨B1,5,none⟩=some (.int .i64 calls)∧wz.cell? ⟨B1,6,none⟩=some (.int .i64 (-1))∧wz.cell? ⟨B1,7,none⟩=some (.int .i64 at')∧wz.cell? ⟨B1,8,none⟩=some (.int .i64 0))
  (refine⟨?_,?_,?_,?_,?_,?_⟩<;>with_reducible assumption)
  (first|(go_at_call 10;refine(Ki.out _ kd.out).mono ?_;rintro e w7 ⟨rfl,dw⟩;have dX:=Lib.hid (kd.out.trans dw);have oJ:=Lib.hid ((aa.refl af _).drew.trans dw);clear dw;have z3:=(HS.out.bx.on dX.out).cell 3 _ rfl;have z4:=(HS.out.bx.on dX.out).cell 4 _ rfl;have z5:=(HS.out.bx.on dX.out).cell 5 _ rfl;have z6:=(HS.out.bx.on dX.out).cell 6 _ rfl;have z7:=(HS.out.bx.on dX.out).cell 7 _ rfl;have z8:=(HS.out.bx.on dX.out).cell 8 _ rfl))
 clear e3 e4 e5 e6 e7 e8 z3 z4 z5 z6 z7 z8 kd Ki
 have Eb:=dX
 have uY:=Lib.hid (HI.out.on oJ.out)
 clear dX oJ HI kM
 go_upto_region 10 with fail
 have i0:=uY.out.cell 0 _ rfl
 have i1:=uY.out.cell 1 _ rfl
 have i2:=uY.out.cell 2 _ rfl
 have i3:=uY.out.cell 3 _ rfl
 have i4:=uY.out.cell 4 _ rfl
 go_cut [97]from 71 to 97 (fun x wx=>x=.bool false∧aa af w7 wx)
 case first =>
  by_cases hz:te=0
  ·subst hz
   go_wp2_with(go_at_call 11;go_loud(refine(Kl.out _ Eb.out).mono ?_);rintro e w8 ⟨rfl,fP⟩)
   go_meet
   exact⟨by simp,fP⟩
  ·obtain⟨rfl,rfl,rfl,rfl,rfl,rfl⟩:=Kh.out hz
   have hb:(te != 0)=true:=by simpa using hz
   have hb':(te==0)=false:=by simpa using hz
   go_wp2_with fail
   go_meet
   exact⟨by simp,aa.refl af _⟩
 case rest =>
 obtain⟨rfl,fP⟩:=hcut
 have tv:=Lib.hid (Eb.out.trans fP)
 clear i0 i1 i2 i3 i4 fP uY Eb Kl Kh
 have Kn:=Lib.hid (Km.out _ tv.out)
 clear Km
 go_upto_region 14 with(go_at_call 12;go_loud(refine Kn.out.mono ?_);rintro e w9 ⟨rfl,tI⟩)
 have Ko:=Lib.hid (tv.out.trans tI)
 clear tI Kn tv
 have kd:=Lib.hid Ko.out.drew
 have e0:=(HS.out.bx.on kd.out).cell 0 _ rfl
 have e1:=(HS.out.bx.on kd.out).cell 1 _ rfl
 have e2:=(HS.out.bx.on kd.out).cell 2 _ rfl
 go_region_held3 (fun wz=>wz.cell? ⟨B1,0,none⟩=some (.pointer (some ⟨F1,0,none⟩))∧wz.cell? ⟨B1,1,none⟩=some (.int .i64 at')∧wz.cell? ⟨B1,2,none⟩=some (.int .i64 0))
  (refine⟨?_,?_,?_⟩<;>with_reducible assumption)
  (first|(go_at_call 13;refine(wD.out _ kd.out).mono ?_;rintro e DN ⟨rfl,dw⟩;have dX:=Lib.hid (kd.out.trans dw);clear dw;have z0:=(HS.out.bx.on dX.out).cell 0 _ rfl;have z1:=(HS.out.bx.on dX.out).cell 1 _ rfl;have z2:=(HS.out.bx.on dX.out).cell 2 _ rfl))
 clear e0 e1 e2 z0 z1 z2 kd wD
 have Kp:=dX
 clear dX Ko
 go_upto_region 15 with fail
 have kd:=Lib.hid Kp.out.drew
 have e3:=(HS.out.bx.on kd.out).cell 3 _ rfl
 have e4:=(HS.out.bx.on kd.out).cell 4 _ rfl
 have e5:=(HS.out.bx.on kd.out).cell 5 _ rfl
 have e6:=(HS.out.bx.on kd.out).cell 6 _ rfl
 have e7:=(HS.out.bx.on kd.out).cell 7 _ rfl
 have e8:=(HS.out.bx.on kd.out).cell 8 _ rfl
 go_region_held3 (fun wz=>wz.cell? ⟨B1,3,none⟩=some (.slice p d.length c)∧wz.cell? ⟨B1,4,none⟩=some (.int .i64 1048576)∧wz.cell? ⟨B1,5,none⟩=some (.int .i64 calls)∧wz.cell? ⟨B1,6,none⟩=some (.int .i64 (-1))∧wz.cell? ⟨B1,7,none⟩=some (.int .i64 at')∧wz.cell? ⟨B1,8,none⟩=some (.int .i64 0))
  (refine⟨?_,?_,?_,?_,?_,?_⟩<;>with_reducible assumption)
  (first|(go_at_call 14;refine(Kj.out _ kd.out).mono ?_;rintro e DR ⟨rfl,dw⟩;have dX:=Lib.hid (kd.out.trans dw);have oJ:=Lib.hid ((aa.refl af _).drew.trans dw);clear dw;have z3:=(HS.out.bx.on dX.out).cell 3 _ rfl;have z4:=(HS.out.bx.on dX.out).cell 4 _ rfl;have z5:=(HS.out.bx.on dX.out).cell 5 _ rfl;have z6:=(HS.out.bx.on dX.out).cell 6 _ rfl;have z7:=(HS.out.bx.on dX.out).cell 7 _ rfl;have z8:=(HS.out.bx.on dX.out).cell 8 _ rfl))
 clear e3 e4 e5 e6 e7 e8 z3 z4 z5 z6 z7 z8 kd Kj
 have Kq:=dX
 clear dX oJ Kp
 go_upto_region 16 with fail
 have kd:=Lib.hid Kq.out.drew
 have e0:=(HS.out.bx.on kd.out).cell 0 _ rfl
 have e1:=(HS.out.bx.on kd.out).cell 1 _ rfl
 have e2:=(HS.out.bx.on kd.out).cell 2 _ rfl
 go_region_held3 (fun wz=>wz.cell? ⟨B1,0,none⟩=some (.pointer (some ⟨F1,0,none⟩))∧wz.cell? ⟨B1,1,none⟩=some (.int .i64 at')∧wz.cell? ⟨B1,2,none⟩=some (.int .i64 0))
  (refine⟨?_,?_,?_⟩<;>with_reducible assumption)
  (first|(go_at_call 15;refine(qj.out _ kd.out).mono ?_;rintro e Rs ⟨ql,ml,rfl,hsl,dw⟩;have dX:=Lib.hid (kd.out.trans dw);clear dw;have z0:=(HS.out.bx.on dX.out).cell 0 _ rfl;have z1:=(HS.out.bx.on dX.out).cell 1 _ rfl;have z2:=(HS.out.bx.on dX.out).cell 2 _ rfl))
 clear e0 e1 e2 z0 z1 z2 kd qj
 have Kr:=dX
 have wM:=Lib.hid hsl
 have hcl:=hsl.cap
 have hml:=hsl.max
 unfold maxLen at hml
 clear dX Kq hsl
 go_upto_region 17 with fail
 have kd:=Lib.hid Kr.out.drew
 have e3:=(HS.out.bx.on kd.out).cell 3 _ rfl
 have e4:=(HS.out.bx.on kd.out).cell 4 _ rfl
 have e5:=(HS.out.bx.on kd.out).cell 5 _ rfl
 have e6:=(HS.out.bx.on kd.out).cell 6 _ rfl
 have e7:=(HS.out.bx.on kd.out).cell 7 _ rfl
 have e8:=(HS.out.bx.on kd.out).cell 8 _ rfl
 go_region_held3 (fun wz=>wz.cell? ⟨B1,3,none⟩=some (.slice p d.length c)∧wz.cell? ⟨B1,4,none⟩=some (.int .i64 1048576)∧wz.cell? ⟨B1,5,none⟩=some (.int .i64 calls)∧wz.cell? ⟨B1,6,none⟩=some (.int .i64 (-1))∧wz.cell? ⟨B1,7,none⟩=some (.int .i64 at')∧wz.cell? ⟨B1,8,none⟩=some (.int .i64 0))
  (refine⟨?_,?_,?_,?_,?_,?_⟩<;>with_reducible assumption)
  (first|(go_at_call 16;refine(dG.out _ kd.out).mono ?_;rintro e Au ⟨rfl,dw⟩;have dX:=Lib.hid (kd.out.trans dw);have oJ:=Lib.hid ((aa.refl af _).drew.trans dw);clear dw;have z3:=(HS.out.bx.on dX.out).cell 3 _ rfl;have z4:=(HS.out.bx.on dX.out).cell 4 _ rfl;have z5:=(HS.out.bx.on dX.out).cell 5 _ rfl;have z6:=(HS.out.bx.on dX.out).cell 6 _ rfl;have z7:=(HS.out.bx.on dX.out).cell 7 _ rfl;have z8:=(HS.out.bx.on dX.out).cell 8 _ rfl))
 clear e3 e4 e5 e6 e7 e8 z3 z4 z5 z6 z7 z8 kd dG
 have Aw:=dX
 have R9:=Lib.hid (wM.out.ai oJ.out)
 clear dX oJ Kr wM
 have sx:(rt.toList==rt.toList)=true:=by rw[toList_eq];simp
 by_cases hz:qe=0
 case neg =>
  obtain rfl:en=[]:=gN.out hz
  have hb:(qe != 0)=true:=by simpa using hz
  go_wp2_with fail
  go_ret
  exact⟨by simp,HK.out.trans Aw.out⟩
 case pos =>
 subst hz
 obtain⟨Ks,hen⟩:=Kk.out rfl
 obtain⟨kq,oJ,hkl⟩:=eP Ks
 have Sa:qn=(kq:Int):=oJ
 subst Sa
 obtain⟨Wd,Kt⟩:∃S:Nat->Prop,aI S Au p c d:=by obtain⟨N,_,_,h3⟩:=(HS.out.sd.on Aw.out).ex;exact⟨_,h3⟩
 obtain⟨gr,off,qr,mr,rfl,cI,hrow⟩:=Kt.rowAt hkl
 have dw:(kq:Int)<(d.length:Int):=by omega
 have r4:=hrow.c4
 have rl:=hrow.lt
 have wZ:=hrow.sl
 rw[<- hen]at r4 wZ
 have oK:=Lib.hid wZ
 have BI:=wZ.cap
 have hmr:=wZ.max
 unfold maxLen at hmr
 clear hen hkl Ks oJ Kk gN Kt cI hrow wZ
 have x3:=(HS.out.bx.on Aw.out).cell 3 _ rfl
 go_upto_region 25 with fail
 clear x3 r4 rl
 go_wp2
 go_loopw [22,194] (fun _ iv wr=>∃j:Nat,j<=en.length∧iv=.int .i64 j∧aa af Au wr) (fun _ iv _=>en.length+1-(intOf iv).toNat)
 case atStart=>exact⟨0,Nat.zero_le _,rfl,aa.refl _ _⟩
 case round =>
  obtain⟨j,hj,rfl,hkp⟩:=hrel
  have pF:=Lib.hid hkp
  clear hkp
  by_cases hlt:j<en.length
  case pos =>
   have hlz:(j:Int)<(en.length:Int):=by omega
   obtain⟨x,hx⟩:∃x,en[j]?=some x:=⟨_,List.getElem?_eq_getElem hlt⟩
   obtain⟨g1,o1,rfl,_,_,a0,a1⟩:=(R9.out.ai pF.out).iW hx
   obtain⟨g2,o2,rfl,_,_,b0,b1⟩:=(oK.out.ai pF.out).iW hx
   clear hx a1 b1
   obtain⟨xn,xi⟩:=x
   simp only at a0 b0
   have We:(xn.toList==xn.toList)=true:=by rw[toList_eq];simp
   have q1:(0:Int)<=j:=by omega
   go_wp2
   go_quiet (fail)
   go_wp2
   go_roundw
   case rel=>exact⟨j+1,by omega,by go_num,pF.out.drewN _⟩
   case measure=>simp[intOf];omega
  case neg =>
   obtain rfl:j=en.length:=by omega
   have hlz:¬(en.length:Int)<(en.length:Int):=by omega
   go_wp2_with fail
   go_ret
   exact⟨rfl,HK.out.trans (Aw.out.trans pF.out)⟩
end Go.Proofs.YtnanhmfpikddkaaGreatDoor
