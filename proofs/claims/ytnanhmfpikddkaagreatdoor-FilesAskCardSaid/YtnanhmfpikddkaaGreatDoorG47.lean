/-
  Layer 6,plain: what is made,entered and found where it goes well;the document's example. No program in sight.
-/
import Derived.Test.YtnanhmfpikddkaaGreatDoorG11
import Derived.Test.YtnanhmfpikddkaaGreatDoorG46
import Derived.Test.YtnanhmfpikddkaaGreatDoorG18
import Derived.Test.YtnanhmfpikddkaaGreatDoorG22
import Derived.Test.YtnanhmfpikddkaaGreatDoorG40
import Derived.Test.YtnanhmfpikddkaaGreatDoorG01
import Derived.ProofKit
import Derived.OpenShut
import Derived.ShutString
import Derived.ChangeOld
import Derived.Deep.Slices
import Derived.Deep.Fields

set_option linter.unusedSimpArgs false
set_option linter.unusedVariables false
set_option maxRecDepth 100000
namespace Go.Proofs.YtnanhmfpikddkaaGreatDoor
section
variable{d:ag} {room kind m:Int} {s:ByteArray} {p:aJ}
theorem Sb (hI:aG d) (hcl:bK d) (hne:p.dir≠d.length) (he:cP d room kind m s=0) (hE:cH (d++[aU kind m s]) room p.dir p.name d.length=0) :
 (gV d room p kind m s).2=0∧(gV d room p kind m s).1.length=d.length+1 ∧
   ∀j,nd (gV d room p kind m s).1 j=if j=d.length then⟨kind,m,0,s,[]⟩else if j=p.dir then(nd d p.dir).dZ (bY (nd d p.dir).ah p.name d.length)else nd d j:=by
 obtain⟨k1,k2⟩:=yj he
 have ht:=hI.two
 unfold gV qu
 rw[if_neg (by rw[he];simp)]
 simp only[hE,true_and]
 obtain⟨pn,at',nm⟩:=p
 simp only at hne hE ⊢
 generalize hd1:d++[aU kind m s]=d1 at *
 have hn1:∀j,nd d1 j=if j=d.length then aU kind m s else nd d j:=fun j=>by rw[<- hd1,iI]
 have hl1:d1.length=d.length+1:=by rw[<- hd1];simp
 obtain⟨hf,hp⟩:=vI hE
 have Ee:=(oO hf).1
 have pq:bM d1 room at' nm d.length=bN d1 at' nm d.length:=by unfold bM;rw[if_pos hE]
 rw[pq]
 have hn2:∀j,nd (bN d1 at' nm d.length) j=if j=at' then(nd d at').dZ (bY (nd d at').ah nm d.length)else nd d1 j:=fun j=>by
  unfold bN
  rw[lW Ee,hn1 at',if_neg hne]
 have hl2:(bN d1 at' nm d.length).length=d.length+1:=by unfold bN;rw[j4,hl1]
 have Ef:nd (bN d1 at' nm d.length) d.length=aU kind m s:=by rw[hn2,if_neg (fun e=>hne e.symm),hn1,if_pos rfl]
 have hid:has (bN d1 at' nm d.length) d.length:=by unfold has;rw[Ef];show kind≠0;omega
 have hr:gq (bN d1 at' nm d.length) d.length=0:=ME hid (by rw[Ef];show(1:Int)≠0;decide)
 have xb:∀j,nd (gG (bN d1 at' nm d.length) d.length) j=if j=d.length then⟨kind,m,0,s,[]⟩else if j=at' then(nd d at').dZ (bY (nd d at').ah nm d.length)else nd d j:=fun j=>by
  rw[yq hid,Ef,hn2,hn1]
  split
  ·rfl
  ·split
   ·rfl
   ·rfl
 have aT:bu (nd d at').ah nm=false:=by
  rw[hn1,if_neg hne]at hp
  exact(mA.1 hp).2
 have uA:bK (gG (bN d1 at' nm d.length) d.length):=by
  rintro j ⟨h1,h2,h3⟩
  have hc:cnt (gG (bN d1 at' nm d.length) d.length) j=0:=by unfold links at h2;omega
  have Br:j≠1:=fun e=>by unfold links at h2;rw[if_pos e]at h2;omega
  have hno:∀i e,e∈(nd (gG (bN d1 at' nm d.length) d.length) i).ah->e.2≠j:=fun i e hm h4=>by
   have:=mD.2 ⟨i,e,hm,h4⟩
   omega
  by_cases hj:j=d.length
  ·subst hj
   refine hno at' (nm,d.length) ?_ rfl
   rw[xb,if_neg hne,if_pos rfl]
   exact(oU aT _).2 (.inr rfl)
  ·have hcd:cnt d j=0:=Nat.eq_zero_of_not_pos fun hpos=>by
    obtain⟨i,e,hm,h4⟩:=mD.1 hpos
    refine hno i e ?_ h4
    have hi:i≠d.length:=fun e1=>by
     rw[e1,pV (by omega)]at hm
     cases hm
    rw[xb,if_neg hi]
    split
    ·next e1=>rw[e1]at hm;exact(oU aT _).2 (.inl hm)
    ·exact hm
   have Sc:(nd d j).holds=0:=by
    rw[xb,if_neg hj]at h3
    split at h3
    ·next e1=>rw[e1];exact h3
    ·exact h3
   refine hcl j ⟨?_,by unfold links;rw[if_neg Br,hcd],Sc⟩
   unfold has at h1 ⊢
   rw[xb,if_neg hj]at h1
   split at h1
   ·next e1=>rw[e1];exact h1
   ·exact h1
 have hres:eZ (bN d1 at' nm d.length) d.length=gG (bN d1 at' nm d.length) d.length:=by
  unfold eZ
  rw[if_pos hr,BM uA]
 rw[hres]
 refine⟨?_,xb⟩
 unfold gG
 rw[jl,hl2]
theorem Kx (hI:aG d) {at':Int} {nm:ByteArray} (hk1:1<=kind) (aV:kind<=3) (hm:ia m=true) (hd:kind=2->s.size=0) (hz:s.size<=4194304)
 (hn:fJ nm=true) (hf:aO d at'=0) (hno:bu (nd d at').ah nm=false) (hc:count d<65536) (hu:(used d:Int)+s.size+nm.size<=room) :
 at'≠d.length∧cP d room kind m s=0∧cH (d++[aU kind m s]) room at' nm d.length=0:=by
 have ht:=hI.two
 have Sg:=oO hf
 have hr:=bF Sg.1
 have hne:at'≠d.length:=by omega
 have he:cP d room kind m s=0:=by
  unfold cP
  rw[if_neg (by omega),if_neg (by omega),if_neg (fun h=>h.2 (hd h.1)),if_neg (by rw[hm];simp),if_neg (by omega),if_neg (by omega),if_neg (by omega)]
 refine⟨hne,he,?_⟩
 have hn1:nd (d++[aU kind m s]) d.length=aU kind m s:=by rw[iI,if_pos rfl]
 have hna:nd (d++[aU kind m s]) at'=nd d at':=by rw[iI,if_neg hne]
 have hlk:links (d++[aU kind m s]) d.length=0:=by
  rw[yI rfl]
  have:=yG hI (qa d)
  unfold links
  rw[this,if_neg (by omega)]
 have hu1:used (d++[aU kind m s])=used d+s.size:=by rw[Gt];rfl
 have dK:aO (d++[aU kind m s]) at'=0:=by
  unfold aO at hf ⊢
  rw[hna]
  exact hf
 unfold cH
 rw[if_neg (by rw[dK];simp),hn1,hlk,hna,if_neg (by show ¬kind=0;omega),if_neg (by simp),if_neg (by decide),if_neg (by rw[mA.2 ⟨hn,hno⟩];simp),if_neg (by rw[hu1];omega)]
theorem Sh {mask flags:Int} {t:ByteArray} (h4:bg flags 4=true) (hs:cg t=false) (xd:cD d p.dir 128=0) (hne:p.dir≠d.length) (he:cP d room 1 (bO m mask) ⟨#[]⟩=0)
 (hE:cH (d++[aU 1 (bO m mask) ⟨#[]⟩]) room p.dir p.name d.length=0) :
 (fL d room mask p t flags m).2=((d.length:Int),0)∧(fL d room mask p t flags m).1.length=d.length+1 ∧
   ∀j,nd (fL d room mask p t flags m).1 j=if j=d.length then⟨1,bO m mask,1,⟨#[]⟩,[]⟩else if j=p.dir then(nd d p.dir).dZ (bY (nd d p.dir).ah p.name d.length)else nd d j:=by
 unfold fL
 rw[if_neg (by rw[h4];simp),if_neg (by rw[hs];simp),if_neg (by rw[xd];simp),if_neg (by rw[he];simp),if_neg (by rw[hE];simp)]
 obtain⟨hf,_⟩:=vI hE
 have Ee:=(oO hf).1
 have hn1:∀j,nd (d++[aU 1 (bO m mask) ⟨#[]⟩]) j=if j=d.length then aU 1 (bO m mask) ⟨#[]⟩else nd d j:=fun j=>by rw[iI]
 have pq:bM (d++[aU 1 (bO m mask) ⟨#[]⟩]) room p.dir p.name d.length=bN (d++[aU 1 (bO m mask) ⟨#[]⟩]) p.dir p.name d.length:=by unfold bM;rw[if_pos hE]
 simp only
 rw[pq]
 refine⟨by first|rfl|trivial,by unfold bN;rw[j4];simp,fun j=>?_⟩
 unfold bN
 rw[lW Ee,hn1 p.dir,if_neg hne,hn1]
 by_cases h1:j=p.dir
 ·rw[if_pos h1,if_neg (fun e=>hne (h1.symm.trans e)),if_pos h1]
 ·rw[if_neg h1,if_neg h1]
  rfl
end
section
variable{d:ag} {up:Int->Int} {s a b:ByteArray} {follow:Bool}
theorem Ky (hin:bI d 1=0) (hp:cO s=0) (hl:iG s=[a]) (hs:cg s=false) (ha:fj s=false) (h1:¬a=lH) (h2:¬a=lI) (h3:a.size<=255) (hk:∀k,bk (nd d 1).ah a=some k->(nd d k).kind≠3) (fuel n:Nat) :
 eD d up follow (fuel+1) 1 s n=(⟨(bk (nd d 1).ah a).getD 0,1,a⟩,0):=by
 rw[eD,if_neg (by rw[hp];simp),hl,if_neg (by simp),hs,ha]
 simp only[Bool.false_eq_true,if_false]
 cases hg:bk (nd d 1).ah a with
 | none =>
   rw[Ax (slash:=false) (follow:=follow) (Kw (up:=up) (n:=n) hin h1 h2 h3 hg),if_neg (by simp),if_neg (by simp)]
   simp[jC]
 | some k =>
   have hst:=Ec (up:=up) (n:=n) (fl:=follow) hin h1 h2 h3 hg
   have hq:ck d up 1 a (false||follow) n=⟨⟨k,1,a⟩,⟨#[]⟩,0,n⟩:=by
    rw[Bool.false_or,hst]
    cases follow
    ·simp
    ·simp[hk k hg]
   rw[Ax (slash:=false) (follow:=follow) hq,if_neg (by simp),if_neg (by simp)]
   simp[jC]
theorem Kz (hin:bI d 1=0) (hp:cO s=0) (hl:iG s=[a,b]) (hs:cg s=false) (ha:fj s=false) (h1:¬a=lH) (h2:¬a=lI) (h3:a.size<=255) (g1:¬b=lH) (g2:¬b=lI) (g3:b.size<=255)
 {k:Int} (hg:bk (nd d 1).ah a=some k) (bS:k≠0) (hk2:(nd d k).kind≠3) (uZ:bI d k=0) (hk:∀j,bk (nd d k).ah b=some j->(nd d j).kind≠3) (fuel n:Nat) :
 eD d up follow (fuel+1) 1 s n=(⟨(bk (nd d k).ah b).getD 0,k,b⟩,0):=by
 rw[eD,if_neg (by rw[hp];simp),hl,if_neg (by simp),hs,ha]
 simp only[Bool.false_eq_true,if_false]
 have hq:∀fl,ck d up 1 a fl n=⟨⟨k,1,a⟩,⟨#[]⟩,0,n⟩:=fun fl=>by
  rw[Ec hin h1 h2 h3 hg]
  cases fl
  ·simp
  ·simp[hk2]
 rw[scan]
 simp only[hq]
 rw[if_neg (by simp),if_neg (by simp),if_neg (fun h=>bS h.1)]
 cases gR:bk (nd d k).ah b with
 | none =>
   rw[Ax (slash:=false) (follow:=follow) (Kw (up:=up) (n:=n) uZ g1 g2 g3 gR),if_neg (by simp),if_neg (by simp)]
   simp[jC]
 | some j =>
   have hst:=Ec (up:=up) (n:=n) (fl:=follow) uZ g1 g2 g3 gR
   have Eg:ck d up k b (false||follow) n=⟨⟨j,k,b⟩,⟨#[]⟩,0,n⟩:=by
    rw[Bool.false_or,hst]
    cases follow
    ·simp
    ·simp[hk j gR]
   rw[Ax (slash:=false) (follow:=follow) Eg,if_neg (by simp),if_neg (by simp)]
   simp[jC]
end
-- the document's example
theorem QS:(gz bW 100 1 18 ⟨#[100]⟩ 511).2=0∧(gz bW 100 1 18 ⟨#[100]⟩ 511).1.length=3 ∧
 ∀j,nd (gz bW 100 1 18 ⟨#[100]⟩ 511).1 j=if j=2 then⟨2,493,0,⟨#[]⟩,[]⟩else if j=1 then⟨2,493,0,⟨#[]⟩,[(⟨#[100]⟩,2)]⟩else Nd.gone:=by
 have n1:nd bW 1=ux:=by rw[qV,if_pos rfl]
 have hin:bI bW 1=0:=by unfold bI aO;rw[n1];decide
 have hf:aQ bW 1 ⟨#[100]⟩ false=(⟨0,1,⟨#[100]⟩⟩,0):=by
  have:=Ky (d:=bW) (up:=iA bW) (s:=⟨#[100]⟩) (a:=⟨#[100]⟩) (follow:=false) hin (by decide) (by decide) (by decide) (by decide) (by decide) (by decide) (by decide) (fun k hk=>by rw[n1]at hk;cases hk) 40 0
  rw[n1]at this
  exact this
 have xd:cD bW 1 128=0:=by unfold cD;rw[if_neg (by rw[uy];simp),n1];decide
 have hfr:eE bW 1 ⟨#[100]⟩ true=(⟨0,1,⟨#[100]⟩⟩,0):=by
  unfold eE
  rw[hf,if_neg (by simp),if_neg (by simp),if_neg (by simp),xd]
 obtain⟨g1,g2,g3⟩:=Kx (d:=bW) (room:=100) (kind:=2) (m:=bO 511 18) (s:=⟨#[]⟩) (at':=1) (nm:=⟨#[100]⟩) Cz (by decide) (by decide) (by decide) (by decide) (by decide) (by decide)
  (by unfold aO;rw[n1];decide) (by rw[n1];decide) (by rw[G3];decide) (by rw[G2];decide)
 obtain⟨h1,h2,h3⟩:=Sb (p:=⟨0,1,⟨#[100]⟩⟩) Cz G4 g1 g2 g3
 unfold gz
 rw[hfr,if_neg (by simp)]
 refine⟨h1,h2,fun j=>?_⟩
 rw[h3]
 show(if j=((bW.length:Nat):Int)then _ else _)=_
 by_cases j2:j=2
 ·rw[if_pos (by rw[j2];rfl),if_pos j2]
  exact congrArg (fun x=>Nd.mk 2 x 0 ⟨#[]⟩ []) (by decide:bO 511 18=493)
 rw[if_neg (by simpa[bW]using j2),if_neg j2]
 by_cases j1:j=1
 ·rw[if_pos j1,if_pos j1,n1]
  exact congrArg (Nd.mk 2 493 0 ⟨#[]⟩) (by decide:bY [] ⟨#[100]⟩ ((bW.length:Nat):Int)=[((⟨#[100]⟩:ByteArray),(2:Int))])
 ·rw[if_neg j1,if_neg j1,qV,if_neg j1]
theorem QT {d:ag} (hI:aG d) (hs:aP d) (hl:d.length=3) (hN:∀j,nd d j=if j=2 then⟨2,493,0,⟨#[]⟩,[]⟩else if j=1 then⟨2,493,0,⟨#[]⟩,[(⟨#[100]⟩,2)]⟩else Nd.gone) :
 (jc d 100 1 18 ⟨#[100,47,120]⟩ 6 438).2=(3,0) ∧
   ∀j,nd (jc d 100 1 18 ⟨#[100,47,120]⟩ 6 438).1 j=if j=3 then⟨1,420,1,⟨#[]⟩,[]⟩else if j=2 then⟨2,493,0,⟨#[]⟩,[(⟨#[120]⟩,3)]⟩else if j=1 then⟨2,493,0,⟨#[]⟩,[(⟨#[100]⟩,2)]⟩else Nd.gone:=by
 have n1:=hN 1
 rw[if_neg (by decide),if_pos rfl]at n1
 have n2:=hN 2
 rw[if_pos rfl]at n2
 have hin:bI d 1=0:=by unfold bI aO;rw[n1];decide
 have uZ:bI d 2=0:=by unfold bI aO;rw[n2];decide
 have hal:ni 6=false:=by decide
 have hf:aQ d 1 ⟨#[100,47,120]⟩ true=(⟨0,2,⟨#[120]⟩⟩,0):=by
  have:=Kz (d:=d) (up:=iA d) (s:=⟨#[100,47,120]⟩) (a:=⟨#[100]⟩) (b:=⟨#[120]⟩) (follow:=true) hin (by decide) (by decide) (by decide) (by decide) (by decide) (by decide) (by decide) (by decide) (by decide) (by decide) (k:=2) (by rw[n1];decide) (by decide) (by rw[n2];decide) uZ (fun k hk=>by rw[n2]at hk;cases hk) 40 0
  rw[n2]at this
  exact this
 have xd:cD d 2 128=0:=by unfold cD;rw[if_neg (by unfold has;rw[n2];decide),n2];decide
 have hd:d=[Nd.gone,⟨2,493,0,⟨#[]⟩,[(⟨#[100]⟩,2)]⟩,⟨2,493,0,⟨#[]⟩,[]⟩]:=by
  refine ag.ext hl fun j=>?_
  rw[hN]
  by_cases j0:0<=j
  ·obtain⟨n,rfl⟩:=Int.eq_ofNat_of_zero_le j0
   match n with
   | 0=>rfl
   | 1=>rfl
   | 2=>rfl
   | n+3 =>
     rw[if_neg (by omega),if_neg (by omega),pV (by simp;omega)]
  ·rw[if_neg (by omega),if_neg (by omega),pV (by omega)]
 have hu:used d=1:=by rw[hd];decide
 have hc:count d=2:=by rw[hd];decide
 obtain⟨g1,g2,g3⟩:=Kx (d:=d) (room:=100) (kind:=1) (m:=bO 438 18) (s:=⟨#[]⟩) (at':=2) (nm:=⟨#[120]⟩) hI (by decide) (by decide) (by decide) (by decide) (by decide) (by decide)
  (by unfold aO;rw[n2];decide) (by rw[n2];decide) (by rw[hc];decide) (by rw[hu];decide)
 obtain⟨h1,h2,h3⟩:=Sh (d:=d) (room:=100) (p:=⟨0,2,⟨#[120]⟩⟩) (m:=438) (mask:=18) (flags:=6) (t:=⟨#[100,47,120]⟩) (by decide) (by decide) xd g1 g2 g3
 unfold jc
 rw[hal]
 simp only[Bool.not_false]
 rw[hf,if_neg (by simp),if_pos rfl]
 refine⟨by rw[h1,hl];rfl,fun j=>?_⟩
 rw[h3,hl]
 by_cases j3:j=3
 ·rw[if_pos (by rw[j3];rfl),if_pos j3]
  exact congrArg (fun x=>Nd.mk 1 x 1 ⟨#[]⟩ []) (by decide:bO 438 18=420)
 rw[if_neg (by simpa using j3),if_neg j3]
 by_cases j2:j=2
 ·rw[if_pos j2,if_pos j2,n2]
  rfl
 ·rw[if_neg j2,if_neg j2,hN,if_neg j2]
theorem QU {d:ag} (hN:∀j,nd d j=if j=3 then⟨1,420,1,⟨#[]⟩,[]⟩else if j=2 then⟨2,493,0,⟨#[]⟩,[(⟨#[120]⟩,3)]⟩else if j=1 then⟨2,493,0,⟨#[]⟩,[(⟨#[100]⟩,2)]⟩else Nd.gone) :
 aL d 1 ⟨#[100]⟩ true=(⟨2,1,⟨#[100]⟩⟩,0)∧aL d 1 ⟨#[100,47,120]⟩ true=(⟨3,2,⟨#[120]⟩⟩,0):=by
 have n1:=hN 1
 rw[if_neg (by decide),if_neg (by decide),if_pos rfl]at n1
 have n2:=hN 2
 rw[if_neg (by decide),if_pos rfl]at n2
 have n3:=hN 3
 rw[if_pos rfl]at n3
 have hin:bI d 1=0:=by unfold bI aO;rw[n1];decide
 have uZ:bI d 2=0:=by unfold bI aO;rw[n2];decide
 have dK:aQ d 1 ⟨#[100]⟩ true=(⟨2,1,⟨#[100]⟩⟩,0):=by
  have:=Ky (d:=d) (up:=iA d) (s:=⟨#[100]⟩) (a:=⟨#[100]⟩) (follow:=true) hin (by decide) (by decide) (by decide) (by decide) (by decide) (by decide) (by decide) (fun k hk=>by
   rw[n1]at hk
   have:k=2:=(Option.some.inj ((show bk [((⟨#[100]⟩:ByteArray),(2:Int))] ⟨#[100]⟩=some 2 by decide).symm.trans hk)).symm
   rw[this,n2];decide) 40 0
  rw[n1]at this
  exact this
 have dS:aQ d 1 ⟨#[100,47,120]⟩ true=(⟨3,2,⟨#[120]⟩⟩,0):=by
  have:=Kz (d:=d) (up:=iA d) (s:=⟨#[100,47,120]⟩) (a:=⟨#[100]⟩) (b:=⟨#[120]⟩) (follow:=true) hin (by decide) (by decide) (by decide) (by decide) (by decide) (by decide) (by decide) (by decide) (by decide) (by decide) (k:=2) (by rw[n1];decide) (by decide) (by rw[n2];decide) uZ (fun k hk=>by
   rw[n2]at hk
   have:k=3:=(Option.some.inj ((show bk [((⟨#[120]⟩:ByteArray),(3:Int))] ⟨#[120]⟩=some 3 by decide).symm.trans hk)).symm
   rw[this,n3];decide) 40 0
  rw[n2]at this
  exact this
 unfold aL
 rw[dK,dS]
 unfold iL
 exact⟨by rw[if_neg (by simp),if_neg (by simp)],by rw[if_neg (by simp),if_neg (by simp)]⟩
end Go.Proofs.YtnanhmfpikddkaaGreatDoor
set_option maxHeartbeats 4000000
namespace Go.Proofs.YtnanhmfpikddkaaGreatDoor
open Go Go.RowKit
theorem sr (w:World):Calls Tryz.prog 5 #[] w fun e w'=>e=.returned (.bool true)∧aa af w w':=by
 have HB:=Lib.hid (IP w 100 (-1) (by decide) (by decide))
 go_enter Tryz.func5,Tryz.ntmps5
 go_upto_region 2 with(go_at_call 17;go_loud(refine HB.out.mono ?_);rintro e w1 ⟨F,a,rfl,FS,k1⟩)
 have Jp:=Lib.hid (fU.new FS k1)
 clear HB FS k1
 go_upto_region 5 with fail
 have HW:=Lib.hid (Bx.new (aa.refl af (w1.alloc (.cells #[.int .i64 1,.int .i64 18] 34))))
 have Du:=Lib.hid (Jp.out.more (P':=fun g=>g=w1.heap.size) ((aa.refl af w1).alloc (.cells #[.int .i64 1,.int .i64 18] 34)) (fun g hg=>.inr ⟨by omega,by rw[hg];simp⟩))
 clear Jp
 generalize w1.alloc (.cells #[.int .i64 1,.int .i64 18] 34)=w2 at *
 generalize w1.heap.size=WB at *
 -- Mkdir
 have HM:=Lib.hid (Du.out.call fun N h=>IY h (by decide) (by decide) (by rw[y9];decide) 1 18 ⟨#[100]⟩ 511 (by decide))
 have e1:bz 0 (-1) bW (gz bW 100 1 18 ⟨#[100]⟩ 511)=gz bW 100 1 18 ⟨#[100]⟩ 511:=by unfold bz eG;rw[if_neg (by decide)]
 obtain⟨a1,a2,a3⟩:=QS
 rw[e1,a1]at HM
 have th:=Lib.hid (Jq (d:=bW) (room:=100) 1 18 ⟨#[100]⟩ 511)
 rw[y9]at th
 have HD:Hid ((gz bW 100 1 18 ⟨#[100]⟩ 511).1.length=3∧_):=⟨a2,a3⟩
 generalize(gz bW 100 1 18 ⟨#[100]⟩ 511).1=dA at *
 clear e1 a1 a2 a3
 have b0:=HW.out.cell 0 _ rfl
 have b1:=HW.out.cell 1 _ rfl
 go_upto_region 6 with(go_at_call 18;go_loud(refine HM.out.mono ?_);rintro e w3 ⟨rfl,FX,k⟩)
 have Aa:=Lib.hid (Du.out.kept HW.out k rfl)
 have wJ:=Lib.hid FX
 clear HM FX k b0 b1 HW Du
 -- Open
 have zn:aH dA<=5:=th.out
 obtain⟨Jr,Js⟩:=HD.out
 obtain⟨c1,c2⟩:=QT wJ.out.inv wJ.out.small Jr Js
 have HO:=Lib.hid (wJ.out.call fun N h=>IL h (by decide) (by decide) (by omega) 1 18 ⟨#[100,47,120]⟩ 6 438 (by decide))
 have e1:fF (0+1) (-1) dA 100 1 18 ⟨#[100,47,120]⟩ 6 438=jc dA 100 1 18 ⟨#[100,47,120]⟩ 6 438:=by unfold fF eG;rw[if_neg (fun h=>h.2 (by decide))]
 rw[e1,c1]at HO
 have Jt:=Lib.hid (QU c2)
 have Dv:=Lib.hid c2
 generalize(jc dA 100 1 18 ⟨#[100,47,120]⟩ 6 438).1=dB at *
 clear e1 c1 c2 zn Jr Js HD th
 have b0:=Aa.out.cell 0 _ rfl
 have b1:=Aa.out.cell 1 _ rfl
 go_upto_region 7 with(go_at_call 19;go_loud(refine HO.out.mono ?_);rintro e w4 ⟨rfl,FX,k⟩)
 have lC:=Lib.hid (wJ.out.kept Aa.out k rfl)
 have Dw:=Lib.hid FX
 clear HO FX k b0 b1 Aa wJ
 -- Stat
 have n2:nd dB 2=⟨2,493,0,⟨#[]⟩,[(⟨#[120]⟩,3)]⟩:=by rw[Dv.out];rfl
 have n3:nd dB 3=⟨1,420,1,⟨#[]⟩,[]⟩:=by rw[Dv.out];rfl
 have v2:mL dB (⟨2,1,⟨#[100]⟩⟩,0)=.agg #[.int .i64 2,.int .i64 493,.int .i64 (links dB 2),.int .i64 0,.int .i64 1]:=by unfold mL infoAt r9 sizeOf4;rw[if_neg (by simp),if_pos (by unfold has;rw[n2];decide),n2];rfl
 have v3:mL dB (⟨3,2,⟨#[120]⟩⟩,0)=.agg #[.int .i64 1,.int .i64 420,.int .i64 (links dB 3),.int .i64 1,.int .i64 0]:=by unfold mL infoAt r9 sizeOf4;rw[if_neg (by simp),if_pos (by unfold has;rw[n3];decide),n3];rfl
 have s2:kK dB (⟨2,1,⟨#[100]⟩⟩,0)=0:=by unfold kK;rw[if_neg (by simp),if_pos (by unfold has;rw[n2];decide)]
 have s3:kK dB (⟨3,2,⟨#[120]⟩⟩,0)=0:=by unfold kK;rw[if_neg (by simp),if_pos (by unfold has;rw[n3];decide)]
 obtain⟨t2,t3⟩:=Jt.out
 have tr:=Lib.hid (fun(wx:World) (k:aa af w4 wx)=>(Dw.out.on k).asks fun N h=>uI h 1 18 ⟨#[100]⟩ true (by decide))
 have wK:=Lib.hid (fun(wx:World) (k:aa af w4 wx)=>(Dw.out.on k).asks fun N h=>uI h 1 18 ⟨#[100,47,120]⟩ true (by decide))
 rw[t2,v2,s2]at tr
 rw[t3,v3,s3]at wK
 generalize((links dB 2:Nat):Int)=l2 at *
 generalize((links dB 3:Nat):Int)=l3 at *
 clear n2 n3 v2 v3 s2 s3 t2 t3 Jt Dv
 have b0:=lC.out.cell 0 _ rfl
 have b1:=lC.out.cell 1 _ rfl
 have HK:=Lib.hid Dw.out.keeps
 go_upto_region 8 with(go_at_call 9;go_loud(refine(tr.out _ (aa.refl _ _)).mono ?_);rintro e w5 ⟨rfl,k5⟩)
 have k6:aa af w4 (w5.alloc (.cells #[.int .i64 2,.int .i64 493,.int .i64 l2,.int .i64 0,.int .i64 1] 29)):=k5.alloc _
 have Dx:=Lib.hid (lC.out.on k6)
 have HI:=Lib.hid (Bx.new (aa.refl af (w5.alloc (.cells #[.int .i64 2,.int .i64 493,.int .i64 l2,.int .i64 0,.int .i64 1] 29))))
 clear b0 b1 tr k5
 generalize w5.alloc (.cells #[.int .i64 2,.int .i64 493,.int .i64 l2,.int .i64 0,.int .i64 1] 29)=w6 at *
 generalize w5.heap.size=IB at *
 have b0:=Dx.out.cell 0 _ rfl
 have b1:=Dx.out.cell 1 _ rfl
 go_upto_region 9 with(go_at_call 9;go_loud(refine(wK.out _ k6).mono ?_);rintro e w7 ⟨rfl,k7⟩)
 have k8:aa af w6 (w7.alloc (.cells #[.int .i64 1,.int .i64 420,.int .i64 l3,.int .i64 1,.int .i64 0] 29)):=k7.alloc _
 have Dy:=Lib.hid (HI.out.on k8)
 have HJ:=Lib.hid (Bx.new (aa.refl af (w7.alloc (.cells #[.int .i64 1,.int .i64 420,.int .i64 l3,.int .i64 1,.int .i64 0] 29))))
 clear b0 b1 wK k7 HI Dx
 generalize w7.alloc (.cells #[.int .i64 1,.int .i64 420,.int .i64 l3,.int .i64 1,.int .i64 0] 29)=w8 at *
 generalize w7.heap.size=JB at *
 have i1:=Dy.out.cell 1 _ rfl
 have j1:=HJ.out.cell 1 _ rfl
 go_wp2_with fail
 go_ret
 exact⟨rfl,HK.out.trans (k6.trans k8)⟩
set_option maxHeartbeats 8000000
theorem PE {n:Int} (h:(Lit.int .i64 n).wf=true):n<=9223372036854775807:=by
 simp only[Lit.wf,IntKind.min,IntKind.max,IntKind.signed,IntKind.bits,Bool.and_eq_true,decide_eq_true_eq,if_true]at h
 omega
def J9 (W:World):Ending->World->Prop:=fun e w'=>e=.returned (.bool true)∧aa af W w'
theorem Ka {l:List jE} (h:qw l=true):(∀o∈l,okO o=true)∧l.length<=40:=by
 unfold qw at h
 rw[Bool.and_eq_true,List.all_eq_true]at h
 exact⟨h.1,of_decide_eq_true h.2⟩
theorem Kb {W w w':World} {B0:Nat} {q:Option Addr} {m:Nat} {l:List jE} (h:bt pE (fun g=>g<W.heap.size) W q m l) (k:aa af W w) (k':aa af w w') (hb:w.heap.size<=B0):bt pE (fun g=>(g<w.heap.size∨g=B0)∧g≠B0) w' q m l :=
 h.cN (k.trans k') (fun _ _ _ h=>h) (fun g hg _=>by have:=k.size;exact⟨.inl (by omega),by omega⟩)
theorem PA {W:World} {q:Option Addr} {m:Nat} {l:List jE} (h:bt pE (fun g=>g<W.heap.size) W q m l) (hz:∀o∈l,o.s.size<=maxLen∧o.t.size<=maxLen) (room fail mask:Int) (hr:room<=9223372036854775807) :
 Calls Tryz.prog 3 #[.int .i64 room,.int .i64 fail,.int .i64 mask,.slice q l.length m] W (J9 W):=by
 have HL:=Lib.hid h
 have gM:=Lib.hid (fun(wx:World) (kx:aa af W wx)=>Jv (h.ai kx) (fun o ho=>by have:=hz o ho;unfold maxLen at this;omega))
 have hcap:=h.cap
 have hmax:=h.max
 unfold maxLen at hmax
 clear h hz
 obtain⟨sm,eC⟩:∃sm,qw l=sm:=⟨_,rfl⟩
 rw[eC]at gM
 cases sm with
 | false =>
   clear eC
   go_enter Tryz.func3,Tryz.ntmps3
   go_wp2_with(first|(go_at_call 5;go_loud(refine(sr _).mono ?_);rintro e w1 ⟨rfl,k1⟩)|(go_at_call 6;go_loud(refine(gM.out _ k1).mono ?_);rintro e w2 ⟨rfl,k2⟩))
   go_ret
   exact⟨rfl,k1.trans k2⟩
 | true =>
 obtain⟨ho,hn⟩:=Ka eC
 have HO:=Lib.hid ho
 have HN:=Lib.hid hn
 clear ho hn eC
 by_cases hf:room<0
 case pos =>
  go_enter Tryz.func3,Tryz.ntmps3
  go_wp2_with(first|(go_at_call 5;go_loud(refine(sr _).mono ?_);rintro e w1 ⟨rfl,k1⟩)|(go_at_call 6;go_loud(refine(gM.out _ k1).mono ?_);rintro e w2 ⟨rfl,k2⟩))
  go_ret
  exact⟨rfl,k1.trans k2⟩
 case neg =>
 by_cases hm0:mask<0
 case pos =>
  go_enter Tryz.func3,Tryz.ntmps3
  go_wp2_with(first|(go_at_call 5;go_loud(refine(sr _).mono ?_);rintro e w1 ⟨rfl,k1⟩)|(go_at_call 6;go_loud(refine(gM.out _ k1).mono ?_);rintro e w2 ⟨rfl,k2⟩))
  go_ret
  exact⟨rfl,k1.trans k2⟩
 case neg =>
 by_cases bU:511<mask
 case pos =>
  go_enter Tryz.func3,Tryz.ntmps3
  go_wp2_with(first|(go_at_call 5;go_loud(refine(sr _).mono ?_);rintro e w1 ⟨rfl,k1⟩)|(go_at_call 6;go_loud(refine(gM.out _ k1).mono ?_);rintro e w2 ⟨rfl,k2⟩))
  go_ret
  exact⟨rfl,k1.trans k2⟩
 case neg =>
 have tH:=Lib.hid (fun wx:World=>J4 wx room fail mask (by omega) hr (by omega) (by omega))
 unfold DY at tH
 clear hr
 go_enter Tryz.func3,Tryz.ntmps3
 go_upto_region 5 with(first|(go_at_call 5;go_loud(refine(sr _).mono ?_);rintro e w1 ⟨rfl,k1⟩)|(go_at_call 6;go_loud(refine(gM.out _ k1).mono ?_);rintro e w2 ⟨rfl,k2⟩))
 have kP:=Lib.hid (k1.trans k2)
 clear k1 k2 gM
 go_upto_region 6 with(go_at_call 7;go_loud(refine(tH.out _).mono ?_);rintro e w3 ⟨B1,F1,a1,p1,c1,rfl,g1,h1,k3⟩)
 have RS:=Lib.hid (J6 h1 (Kb HL.out kP.out k3 g1) HO.out HN.out)
 have D6:=Lib.hid (kP.out.trans k3)
 have HG:=Lib.hid (show W.heap.size<=B1∧_ from⟨by have:=kP.out.size;omega,kP.out.size⟩)
 clear g1 h1 k3 tH
 go_wp2_with(go_at_call 8;go_loud(refine RS.out.mono ?_);rintro e w4 ⟨d',calls',Av,p',c',rfl,_,k4⟩)
 go_ret
 exact⟨rfl,D6.out.step k4 (fun g hg=>.inr (by
  have h1:=HG.out.1
  have h2:=HG.out.2
  rcases hg with hg|rfl
  ·rcases Nat.lt_or_ge g W.heap.size with h|h
   ·exact absurd (.inl (by omega)) hg
   ·exact h
  ·exact h1))⟩
end Go.Proofs.YtnanhmfpikddkaaGreatDoor
namespace Go.Proofs.YtnanhmfpikddkaaGreatDoor
open Go.RowKit Go.ChangeShapes Go.WideShapes Go.ChangeAt
theorem KH {α:Type} {Q:Nat->α->Prop}:∀n,(∀i,i<n->∃x,Q i x)->∃l:List α,l.length=n∧∀i x,l[i]?=some x->Q i x
 | 0,_=>⟨[],rfl,fun i x h=>by simp at h⟩
 | n+1,h=>by
   obtain⟨l,hl,hq⟩:=KH n (fun i hi=>h i (by omega))
   obtain⟨x,hx⟩:=h n (by omega)
   refine⟨l++[x],by simp[hl],fun i y hy=>?_⟩
   by_cases hi:i<n
   ·rw[List.getElem?_append_left (by omega)]at hy;exact hq i y hy
   ·rw[List.getElem?_append_right (by omega)]at hy
    have hi0:i-l.length=0:=by
     have:=(List.getElem?_eq_some_iff.1 hy).1
     simp at this;omega
    rw[hi0]at hy
    have:i=n:=by omega
    subst this
    simp at hy;subst hy;exact hx
section
variable{H:Type} {enc:TypeId × Value->H} {P:Program} {W:World}
theorem Ss {α:Type} (E:hU α) {good:α->Prop} {t e:TypeId} {p:Option Addr} {len cap:Nat} {d:DataW H} {ps:List MemPlace} (ht:P.underlying t=some (.slice e)) (hC:P.cellsOf e=E.k)
 (h:DataW.Trod enc P W 0 (fun _=>true) true t (.slice p len cap) d ps)
 (hdec:∀(n:Nat) (cs:List Value) (y:DataW H × List MemPlace),cs.length=E.k->DataW.trod enc P W 0 (fun _=>true) true n e cs=some y->∃x,E.enc x=cs∧good x) :
 ∃l:List α,len=l.length∧bt E (fun g=>g<W.heap.size) W p cap l∧∀x∈l,good x:=by
 obtain⟨fuel,hf⟩:=h
 rcases Go.Deep.open_slice ht hf with⟨hcs,_⟩|⟨a,Wf,Wg,m,n,D,Pl,hcs,_,hl,hm,hmm,_,hi⟩
 ·simp[Value.cells]at hcs
  obtain⟨e1,e2,e3⟩:=hcs
  subst e1 e2 e3
  exact⟨[],rfl,⟨Nat.le_refl _,Nat.zero_le _,fun _=>rfl,(fun h=>by omega),(fun h=>by simp at h)⟩,by simp⟩
 ·simp[Value.cells]at hcs
  obtain⟨e1,e2,e3⟩:=hcs
  subst e1 e2 e3
  simp only[if_true]at hmm
  have St:=hmm.symm
  subst St
  clear hmm
  obtain⟨l,jy,hq⟩:=KH (Q:=fun i x=>(∀j,j<E.k->W.cell? (a.add (i*E.k+j))=(E.enc x)[j]?)∧good x) cap (fun i jN=>by
   obtain⟨cs',hc,ht'⟩:=hi i jN
   rw[hC]at hc
   obtain⟨_,hcl,hat⟩:=World.cells?_some hc
   obtain⟨x,hx,hg⟩:=hdec n cs' _ hcl ht'
   refine⟨x,fun j hj=>?_,hg⟩
   rw[hx,<- hat j hj,Go.Deep.add_add])
  have hspot:0<cap->a.spot=none:=fun h0=>by
   obtain⟨x,hx⟩:∃x,l[0]?=some x:=⟨_,List.getElem?_eq_getElem (by omega)⟩
   have h1:=(hq 0 x hx).1 0 E.pos
   obtain⟨u,hu⟩:∃u,(E.enc x)[0]?=some u:=⟨_,List.getElem?_eq_getElem (by rw[E.len];exact E.pos)⟩
   rw[hu]at h1
   simpa[Addr.add]using World.cell?_spot h1
  refine⟨l.take len,by simp;omega,⟨by simp;omega,hm,(fun h=>by cases h),(fun h0 a' ha=>by cases ha;exact hspot h0),fun h0=>?_⟩,fun x hx=>?_⟩
  ·simp at h0
   have hs:=hspot (by omega)
   obtain⟨b,off,sp⟩:=a
   subst hs
   refine⟨b,off,rfl,?_,?_,fun j hj=>?_⟩
   rotate_left 2
   ·have hk:=E.pos
    rw[List.length_take,Nat.min_eq_left (by omega)]at hj
    have hd:j=j / E.k*E.k+j % E.k:=by rw[Nat.mul_comm];exact(Nat.div_add_mod j E.k).symm
    have hm':=Nat.mod_lt j hk
    have hq':j / E.k<len:=Nat.div_lt_of_lt_mul (by rw[Nat.mul_comm];exact hj)
    obtain⟨x,hx⟩:∃x,l[j / E.k]?=some x:=⟨_,List.getElem?_eq_getElem (by omega)⟩
    have h1:=(hq _ x hx).1 _ hm'
    rw[add_lit]at h1
    rw[hd,h1,E.vF _ _ _ hm',List.getElem?_take,if_pos hq',hx];rfl
   all_goals
    obtain⟨x,hx⟩:∃x,l[0]?=some x:=⟨_,List.getElem?_eq_getElem (by omega)⟩
    have h1:=(hq 0 x hx).1 0 E.pos
    obtain⟨u,hu⟩:∃u,(E.enc x)[0]?=some u:=⟨_,List.getElem?_eq_getElem (by rw[E.len];exact E.pos)⟩
    rw[hu,add_lit]at h1
    exact dm h1
  ·obtain⟨i,hi⟩:=List.mem_iff_getElem?.1 (List.mem_of_mem_take hx)
   exact(hq i x hi).2
end
theorem Su:Tryz.prog.cellsOf 3=1:=by kernel_rfl
theorem Sv:Tryz.prog.cellsOf 9=1:=by kernel_rfl
theorem Ix {H:Type} {enc:TypeId × Value->H} {W:World} {p:Option Addr} {len cap:Nat} {d:DataW H} {ps:List MemPlace}
 (h:DataW.Trod enc Tryz.prog W 0 (fun _=>true) true 22 (.slice p len cap) d ps) :
 ∃l:List jE,len=l.length∧bt pE (fun g=>g<W.heap.size) W p cap l∧∀o∈l,o.s.size<=maxLen∧o.t.size<=maxLen:=by
 refine Ss pE Tryz.underlying22 (by kernel_rfl) h fun n cs y hl hy=>?_
 match cs,hl with
 | [v0,v1,v2,v3,v4,v5],_ =>
   obtain⟨xs,n',_,_,_,hlen,hf⟩:=DataW.trod_struct Tryz.underlying68 hy
   match xs,hlen with
   | [y0,y1,y2,y3,y4,y5],_ =>
     have h0:=hf 0 _ rfl
     have h1:=hf 1 _ rfl
     have h2:=hf 2 _ rfl
     have h3:=hf 3 _ rfl
     have h4:=hf 4 _ rfl
     have h5:=hf 5 _ rfl
     simp only[List.getElem_toArray,List.getElem_cons_zero,List.getElem_cons_succ,Su,Sv,List.drop_zero,List.drop_succ_cons,List.take_succ_cons,List.take_zero]at h0 h1 h2 h3 h4 h5
     obtain⟨a,ha,_,wa⟩:=DataW.trod_int Tryz.underlying3 h0
     obtain⟨s,hs,_,zs⟩:=DataW.trod_string Tryz.underlying9 h1
     obtain⟨t,ht,_,zt⟩:=DataW.trod_string Tryz.underlying9 h2
     obtain⟨m,hm,_,wm⟩:=DataW.trod_int Tryz.underlying3 h3
     obtain⟨n2,hn,_,wn⟩:=DataW.trod_int Tryz.underlying3 h4
     obtain⟨k,hk,_,wk⟩:=DataW.trod_int Tryz.underlying3 h5
     simp only[List.cons.injEq,and_true]at ha hs ht hm hn hk
     subst ha hs ht hm hn hk
     exact⟨⟨a,s,t,m,n2,k⟩,rfl,⟨zs,zt⟩⟩
end Go.Proofs.YtnanhmfpikddkaaGreatDoor
