/-
  Move of a disk at rest: the pure part.
-/
import Derived.Test.YtnanhmfpikddkaaGreatDoorG03
import Derived.Test.YtnanhmfpikddkaaGreatDoorG02
import Derived.BigQuiet
import Derived.Deep.QuietTactic
import Derived.Deep.RegionLaw
import Derived.Handy
import Derived.Deep.RegionWith
import Derived.Deep.CutRange
import Derived.Laws.ResultCell
import Derived.Lib.SlFresh

set_option linter.unusedSimpArgs false
set_option linter.unusedVariables false
set_option maxRecDepth 100000
namespace Go.Proofs.YtnanhmfpikddkaaGreatDoor
open Go.RowKit
def gI (d:ag) (t:Int) (other:ByteArray) (k:Int):List aD:=if bu (nd d t).ah other then eW (nd d t).ah other k else bY (nd d t).ah other k
def eM (d:ag) (t:Int) (other:ByteArray) (k:Int):ag:=dz d t (gI d t other k)
def bL (d:ag) (f:Int) (name:ByteArray) (t:Int) (other:ByteArray) (k:Int):ag:=aZ (eM d t other k) f name
def nR (d:ag) (t:Int) (other:ByteArray):Int->Nat:=match bk (nd d t).ah other with|some old=>lX old|none=>zp
structure cE (d:ag) (f:Int) (name:ByteArray) (t:Int) (other:ByteArray) (k:Int):Prop where
 inv:aG d
 f2:(nd d f).kind=2
 t2:(nd d t).kind=2
 get:bk (nd d f).ah name=some k
 ne:¬(f=t∧name=other)
 put:bu (nd d t).ah other=false->bw (nd d t).ah other=0
 top:(nd d k).kind=2->¬cU d k t
section
variable{d:ag} {f t k:Int} {name other:ByteArray} (M:cE d f name t other k)
include M
theorem cE.hf:has d f:=mG M.inv M.f2
theorem cE.ht:has d t:=mG M.inv M.t2
theorem cE.hk:has d k:=(M.inv.tgt f _ (dV M.get)).1
theorem cE.k1:k≠1:=(M.inv.tgt f _ (dV M.get)).2
theorem cE.rt:cq (nd d t).ah:=(M.inv.node t).rising
theorem cE.hfm:has (eM d t other k) f:=(qc M.ht _ f).2 M.hf
theorem cE.GM:fJ other=true:=by
 cases h:bu (nd d t).ah other with
 | false=>exact(mA.1 (M.put h)).1
 | true =>
   obtain⟨e,he,rfl⟩:=ow.1 h
   exact(M.inv.node t).names e he
theorem cE.GN (e:aD) (h:e∈gI d t other k):e∈(nd d t).ah∨e=(other,k):=by
 have _:=M.inv
 unfold gI at h
 split at h
 ·rcases vU.1 h with h1|h1
  ·exact .inl h1.1
  ·exact .inr h1.1
 ·next hh =>
  exact(oU (by simpa using hh) e).1 h
theorem cE.GP:cq (gI d t other k):=by
 unfold gI
 split
 ·exact M.rt.set _ _
 ·exact M.rt.put _ _
theorem cE.yQ:bk (nd (eM d t other k) f).ah name=some k:=by
 unfold eM
 rw[mF M.ht]
 split
 ·next e =>
  subst e
  have hne:name≠other:=fun h=>M.ne ⟨rfl,h⟩
  unfold gI
  split
  ·rw[NK M.rt hne];exact M.get
  ·next hh=>rw[NL M.rt (by simpa using hh) hne];exact M.get
 ·exact M.get
theorem cE.ah (j:Int):(nd (bL d f name t other k) j).ah=if j=f then bQ (nd (eM d t other k) f).ah name else if j=t then gI d t other k else(nd d j).ah:=by
 unfold bL aZ
 rw[mF M.hfm]
 split
 ·rfl
 ·unfold eM;rw[mF M.ht]
theorem cE.yR (j:Int):cq (nd (eM d t other k) j).ah:=by
 unfold eM
 rw[mF M.ht]
 split
 ·exact M.GP
 ·exact(M.inv.node j).rising
theorem cE.mem (j:Int) (e:aD) (h:e∈(nd (bL d f name t other k) j).ah):(e∈(nd d j).ah∧(j=f->e.1≠name))∨(j=t∧e=(other,k)):=by
 rw[M.ah]at h
 have hmid:∀x∈(nd (eM d t other k) j).ah,x∈(nd d j).ah∨(j=t∧x=(other,k)):=fun x hx=>by
  unfold eM at hx
  rw[mF M.ht]at hx
  split at hx
  ·next e=>subst e;exact(M.GN x hx).imp id (fun h=>⟨rfl,h⟩)
  ·exact .inl hx
 split at h
 ·next e=>subst e
          obtain⟨h1,h2⟩:=qU.1 h
          exact(hmid e h1).imp (fun h=>⟨h,fun _=>h2⟩) id
 ·next e1 =>
  split at h
  ·next e=>subst e;exact(M.GN e h).imp (fun h=>⟨h,fun h=>absurd h e1⟩) (fun h=>⟨rfl,h⟩)
  ·exact .inl ⟨h,fun h=>absurd h e1⟩
theorem cE.kind (j:Int):(nd (bL d f name t other k) j).kind=(nd d j).kind:=by
 unfold bL aZ
 rw[sW M.hfm]
 exact sW M.ht _ j
theorem cE.holds (j:Int):(nd (bL d f name t other k) j).holds=(nd d j).holds:=by
 unfold bL aZ
 rw[vT M.hfm]
 exact vT M.ht _ j
theorem cE.has (j:Int):Go.Proofs.YtnanhmfpikddkaaGreatDoor.has (bL d f name t other k) j↔Go.Proofs.YtnanhmfpikddkaaGreatDoor.has d j:=by
 unfold Go.Proofs.YtnanhmfpikddkaaGreatDoor.has
 rw[M.kind]
theorem cE.links (j:Int):Go.Proofs.YtnanhmfpikddkaaGreatDoor.links d j=Go.Proofs.YtnanhmfpikddkaaGreatDoor.links (bL d f name t other k) j+nR d t other j:=by
 have h1:=yK M.ht (gI d t other k) j
 have h2:=yK M.hfm (bQ (nd (eM d t other k) f).ah name) j
 have h3:=yJ (M.yR f) M.yQ j
 unfold bL aZ
 have h4:gi j (gI d t other k)+nR d t other j=gi j (nd d t).ah+if k=j then 1 else 0:=by
  unfold gI nR
  cases hg:bk (nd d t).ah other with
  | none =>
    have hh:bu (nd d t).ah other=false:=by rw[<- ox,hg];rfl
    rw[if_neg (by rw[hh];decide),Gx hh]
    unfold zp;rfl
  | some old =>
    rw[if_pos (kX hg),<- NC M.rt k hg j]
    unfold lX
    by_cases e:old=j
    ·subst e;simp
    ·have e2:¬j=old:=fun h=>e h.symm
     simp[e,e2]
 have hm:Go.Proofs.YtnanhmfpikddkaaGreatDoor.links (eM d t other k) j=Go.Proofs.YtnanhmfpikddkaaGreatDoor.links (dz d t (gI d t other k)) j:=rfl
 omega
theorem cE.used:Go.Proofs.YtnanhmfpikddkaaGreatDoor.used (bL d f name t other k)+name.size=Go.Proofs.YtnanhmfpikddkaaGreatDoor.used d+(if bu (nd d t).ah other then 0 else other.size):=by
 have h1:=yL M.ht (gI d t other k)
 have h2:=yL M.hfm (bQ (nd (eM d t other k) f).ah name)
 have h3:=Cc (M.yR f) M.yQ
 have h4:cQ (gI d t other k)=cQ (nd d t).ah+(if bu (nd d t).ah other then 0 else other.size):=by
  unfold gI
  cases hh:bu (nd d t).ah other with
  | false=>simp only[Bool.false_eq_true,if_false];exact Gz hh
  | true =>
    simp only[if_true]
    rw[<- ox]at hh
    obtain⟨old,ho⟩:=Option.isSome_iff_exists.1 hh
    rw[ND M.rt k ho];rfl
 have hm:Go.Proofs.YtnanhmfpikddkaaGreatDoor.used (eM d t other k)=Go.Proofs.YtnanhmfpikddkaaGreatDoor.used (dz d t (gI d t other k)):=rfl
 unfold bL aZ
 omega
theorem cE.aH:Go.Proofs.YtnanhmfpikddkaaGreatDoor.aH (bL d f name t other k)<=Go.Proofs.YtnanhmfpikddkaaGreatDoor.aH d:=by
 have h1:=yM M.ht (gI d t other k)
 have h2:=yM M.hfm (bQ (nd (eM d t other k) f).ah name)
 have h3:=GA (M.yR f) M.yQ
 have h4:(gI d t other k).length<=(nd d t).ah.length+1:=by
  unfold gI
  cases hh:bu (nd d t).ah other with
  | false=>simp only[Bool.false_eq_true,if_false];rw[vS hh];exact Nat.le_refl _
  | true=>simp only[if_true];rw[GD];omega
 have hm:Go.Proofs.YtnanhmfpikddkaaGreatDoor.aH (eM d t other k)=Go.Proofs.YtnanhmfpikddkaaGreatDoor.aH (dz d t (gI d t other k)):=rfl
 unfold bL aZ
 omega
theorem cE.par {j x:Int} (h:cY (bL d f name t other k) j x):(x≠k∧cY d j x)∨(x=k∧j=t):=by
 obtain⟨h1,e,h2,h3⟩:=h
 rw[M.kind]at h1
 rcases M.mem j e h2 with⟨h4,h5⟩|⟨h4,h5⟩
 ·refine .inl ⟨fun hx=>?_,h1,e,h4,h3⟩
  subst hx
  obtain⟨e1,e2⟩:=M.inv.Cf h1 h4 h3 (dV M.get) rfl
  subst e1
  subst e2
  exact h5 rfl rfl
 ·subst h5;exact .inr ⟨h3.symm,h4⟩
theorem cE.after:aG (bL d f name t other k):=by
 refine M.inv.turned ?_ (fun j=>?_) (fun j hj=>?_) ?_
 ·unfold bL aZ eM
  rw[j4,j4]
 ·refine⟨(nd (bL d f name t other k) j).ah,?_,?_,fun e he=>?_,fun h2=>?_⟩
  ·unfold bL aZ
   rw[lW M.hfm]
   split
   ·next e=>subst e
            unfold eM
            rw[lW M.ht]
            split
            ·next e=>subst e;rfl
            ·rfl
   ·unfold eM
    rw[lW M.ht]
    split
    ·next e=>subst e;rfl
    ·rfl
  ·rw[M.ah]
   split
   ·exact(M.yR f).del name
   ·split
    ·exact M.GP
    ·exact(M.inv.node j).rising
  ·rcases M.mem j e he with⟨h1,_⟩|⟨_,h1⟩
   ·exact⟨(M.inv.node j).names e h1,M.inv.tgt j e h1⟩
   ·subst h1;exact⟨M.GM,M.hk,M.k1⟩
  ·rw[M.ah]
   have h3:j≠f:=fun e=>h2 (by subst e;exact M.f2)
   have h4:j≠t:=fun e=>h2 (by subst e;exact M.t2)
   rw[if_neg h3,if_neg h4]
   exact(M.inv.node j).flat h2
 ·have:=M.links j
  have:=M.inv.single j hj
  omega
 ·by_cases h2:(nd d k).kind=2
  ·exact Gv (fun j x hx=>M.par hx) M.inv.oT (M.top h2)
  ·refine Ci (fun j x hx=>?_) M.inv.oT
   rcases M.par hx with h3|⟨h3,_⟩
   ·exact h3.2
   ·subst h3
    have:=hx.1
    rw[M.kind]at this
    exact absurd this h2
theorem cE.yE {R R':RD} {w w':World} {a:Nat} {room:Int} {lk up:Int->Int} (hC:dF R w a d room lk up zp) (hcl:bK d)
 (rep:aS R' w' a (bL d f name t other k) room (Go.Proofs.YtnanhmfpikddkaaGreatDoor.used (bL d f name t other k)) lk (if (nd d k).kind=2 then setAt up k t else up)) :
 dF R' w' a (bL d f name t other k) room lk (if (nd d k).kind=2 then setAt up k t else up) (nR d t other)∧∀j,¬PG (bL d f name t other k) (nR d t other) j:=by
 have hl:=M.links
 have hm:=M.aH
 have NM:∀j,0<nR d t other j->Go.Proofs.YtnanhmfpikddkaaGreatDoor.has d j:=fun j hj=>by
  unfold nR at hj
  cases ho:bk (nd d t).ah other with
  | none=>rw[ho]at hj;simp only at hj;unfold zp at hj;omega
  | some old =>
    rw[ho]at hj
    simp only at hj
    unfold lX at hj
    split at hj
    ·next e=>subst e;exact(M.inv.tgt t _ (dV ho)).1
    ·omega
 refine⟨⟨rep,M.after,fun j hj=>?_,fun j hj=>(M.has j).2 (NM j hj),fun j hj=>?_,?_,fun j hj=>hC.oq j ((M.has j).1 hj)⟩,fun j hj=>?_⟩
 ·have h1:=hC.cnt j ((M.has j).1 hj)
  have h2:=hl j
  unfold zp at h1
  omega
 ·have hj':=(M.has j).1 hj
  obtain⟨u1,u2,u3⟩:=hC.mT j hj'
  by_cases e:j=k
  ·subst e
   refine⟨fun x hx=>?_,fun e1=>absurd e1 M.k1,fun e0=>?_⟩
   ·have hk2:=hx.1
    rw[M.kind]at hk2
    rw[if_pos hk2,mE]
    rcases M.par hx with⟨h1,_⟩|⟨_,h2⟩
    ·exact absurd rfl h1
    ·exact h2.symm
   ·have h1:=hC.cnt j hj'
    have h2:0<Go.Proofs.YtnanhmfpikddkaaGreatDoor.links d j:=by
     have:=(mD (i:=j)).2 ⟨f,(name,j),dV M.get,rfl⟩
     unfold Go.Proofs.YtnanhmfpikddkaaGreatDoor.links
     omega
    omega
  ·have:(if (nd d k).kind=2 then setAt up k t else up) j=up j:=by
    split
    ·exact mU e
    ·rfl
   rw[this]
   refine⟨fun x hx=>?_,u2,u3⟩
   rcases M.par hx with⟨_,h1⟩|⟨h1,_⟩
   ·exact u1 x h1
   ·exact absurd h1 e
 ·have:=hC.small
  unfold aP at *
  omega
 ·obtain⟨g1,g2,g3,g4⟩:=hj
  rw[M.holds]at g4
  have:=hl j
  exact hcl j ⟨(M.has j).1 g1,by omega,g4⟩
end
set_option maxRecDepth 100000
set_option maxHeartbeats 1000000
def cH (d:ag) (room i:Int) (name:ByteArray) (k:Int):Int :=
 if aO d i≠0 then aO d i else if (nd d k).kind=0 then 12 else if (nd d k).kind=2∧0<links d k then 22 else if 32768<=links d k then 24
 else if bw (nd d i).ah name≠0 then bw (nd d i).ah name else if room-used d<name.size then 20 else 0
def bM (d:ag) (room i:Int) (name:ByteArray) (k:Int):ag:=if cH d room i name k=0 then bN d i name k else d
section
variable{R:RD} {w:World} {a:Nat} {d:ag} {room:Int} {lk up:Int->Int}
theorem aS.ze {R1:RD} {w1 w2:World} {d':ag} {us:Int} (h:aS R1 w1 a d' room us lk up) (hT:cW R w R1 w1) (k:aa (fun x=>x=a) w1 w2):cW R w R1 w2 :=
 hT.trans (cW.of (k.mono (fun x _ hx=>by subst hx;exact h.fA)))
theorem Pb {i k:Int} {name:ByteArray} {w1:World} (hC:dF R w a d room lk up zp) (hcl:bK d) (hmax:room<=9223372036854775807) (hi:(nd d i).kind=2) (hk:has d k) (hkl:(nd d k).kind=2->links d k=0)
 (hp:bw (nd d i).ah name=0) (hno:(nd d k).kind=2->¬cU d k i) (hb:aH d+1<=2147483648) (hfit:(used d:Int)+name.size<=room) (hsz:name.size<=4294967296) (ht:lU w w1 ⟨R.g i,5,none⟩ (R.ev i) (gh (nd d i).ah name k)) :
 Calls Tryz.prog 69 #[.pointer (some ⟨a,0,none⟩),.int .i64 name.size] w1 fun e w2=>e=.returned (.bool true)∧w2.cell? ⟨R.g k,0,none⟩=some (.int .i64 (nd d k).kind)∧w2.cell? ⟨R.g k,2,none⟩=some (.int .i64 (links d k))∧w2.cell? ⟨R.g k,6,none⟩=some (.int .i64 (up k)) ∧
  w2.frozen? ⟨R.g k,2,none⟩=false∧w2.frozen? ⟨R.g k,6,none⟩=false ∧
  dn R w a (bN d i name k) room (if (nd d k).kind=2 then(w2.setCell ⟨R.g k,2,none⟩ (.int .i64 ((links d k:Int)+1))).setCell ⟨R.g k,6,none⟩ (.int .i64 i)else w2.setCell ⟨R.g k,2,none⟩ (.int .i64 ((links d k:Int)+1))):=by
 have hh:=mG hC.inv hi
 have ld:=hC.cnt k hk
 have hlk:lk k=links d k:=by rw[ld];unfold zp;rfl
 rw[<- hlk]
 rw[show gh (nd d i).ah name k=bY (nd d i).ah name k from if_pos hp]at ht
 obtain⟨R1,bE,jM,hg1,hb1⟩:=hC.rep.qg hh ht
 have bE:aS R1 w1 a (bN d i name k) room (used d) lk up:=bE
 have bZ:=lg hC.inv hC.small
 refine(rY bE name.size (by omega) (by omega) hmax (by omega) (by omega)).mono fun e w2 ⟨h1,h2,h3⟩=>?_
 rw[show(decide ((name.size:Int)<=room-used d))=true from decide_eq_true (by omega)]at h1
 rw[show oX room (used d) name.size=used d+name.size from if_pos (by omega)]at h2
 have hk1:has (bN d i name k) k:=(qc hh _ k).2 hk
 have hn:=h2.node k hk1
 rw[hg1]at hn
 have rU:(nd (bN d i name k) k).kind=(nd d k).kind:=sW hh _ k
 refine⟨h1,by rw[hn.kind,rU],hn.links,hn.up,hn.fz 2,hn.fz 6,?_⟩
 have oV:=bE.ze jM h3
 have hu:=NJ (k:=k) hh hp
 have j9:=h2.Cn hk1 (lk k+1)
 have eC:aP (bN d i name k):=by unfold aP;rw[Bp hh hp];omega
 have k1:aa R1.F w2 (w2.setCell ⟨R1.g k,2,none⟩ (.int .i64 (lk k+1))):=(aa.refl _ _).setCell (.inl (h2.fN hk1)) _
 rw[<- hg1]
 by_cases hk2:(nd d k).kind=2
 ·rw[if_pos hk2]
  have CE:=j9.Co hk1 i
  refine⟨R1,cK.enter hC hcl hi hk hkl hp hno ?_ eC (by rw[hu];omega) hmax,oV.trans (cW.of (k1.setCell (.inl (j9.fN hk1)) _))⟩
  rw[if_pos hk2,hu]
  exact_mod_cast CE
 ·rw[if_neg hk2]
  refine⟨R1,cK.enter hC hcl hi hk hkl hp hno ?_ eC (by rw[hu];omega) hmax,oV.trans (cW.of k1)⟩
  rw[if_neg hk2,hu]
  exact_mod_cast j9
theorem Pc {i k:Int} {name:ByteArray} {w1:World} (hC:dF R w a d room lk up zp) (hcl:bK d) (wg:(used d:Int)<=room) (hmax:room<=9223372036854775807) (hi:(nd d i).kind=2)
 (hp:bw (nd d i).ah name=0) (hfit:room-used d<name.size) (hsz:name.size<=4294967296) (ht:lU w w1 ⟨R.g i,5,none⟩ (R.ev i) (gh (nd d i).ah name k)) :
 Calls Tryz.prog 69 #[.pointer (some ⟨a,0,none⟩),.int .i64 name.size] w1 fun e w2=>e=.returned (.bool false) ∧
  Calls Tryz.prog 109 #[.pointer (some ⟨R.g i,5,none⟩),.string name] w2 fun e w3=>e=.returned (.int .i64 0)∧dn R w a d room w3:=by
 have hh:=mG hC.inv hi
 obtain⟨hok,aT⟩:=mA.1 hp
 rw[show gh (nd d i).ah name k=bY (nd d i).ah name k from if_pos hp]at ht
 obtain⟨R1,bE,jM,hg1,hb1⟩:=hC.rep.qg hh ht
 have bE:aS R1 w1 a (bN d i name k) room (used d) lk up:=bE
 have bZ:=lg hC.inv hC.small
 refine(rY bE name.size (by omega) (by omega) hmax (by omega) (by omega)).mono fun e w2 ⟨h1,h2,h3⟩=>?_
 rw[show(decide ((name.size:Int)<=room-used d))=false from decide_eq_false (by omega)]at h1
 rw[show oX room (used d) name.size=used d from if_neg (by omega)]at h2
 have hi1:has (bN d i name k) i:=(qc hh _ i).2 hh
 have qR:(nd (bN d i name k) i).ah=bY (nd d i).ah name k:=by unfold bN;rw[mF hh,if_pos rfl]
 have hn:=(h2.node i hi1).dir
 have hlen:=gx hC.small i
 have hl2:=vS (k:=k) aT
 rw[hg1,qR]at hn
 have r7:(nd d i).ah.length<=2147483648:=by
  have h1:=sS bJ (bF hh).1 (bF hh).2
  have:=hC.small
  unfold aP aH at this
  unfold bJ at h1
  unfold bJ at this
  omega
 refine⟨h1,(yu w2 ⟨R.g i,5,none⟩ (R1.ev i) _ name hn (by omega)).mono fun e w3 ⟨h4,h5⟩=>?_⟩
 have hput:bu (bY (nd d i).ah name k) name=true:=by rw[CF aT];simp
 rw[show dI (bY (nd d i).ah name k) name=0 by unfold dI;rw[if_pos hput]]at h4
 rw[Ib (hC.inv.node i).rising aT]at h5
 rw[<- hg1]at h5
 obtain⟨R3,j9,rZ,_,_⟩:=h2.qg hi1 h5
 have hd:aX (bN d i name k) i ((nd (bN d i name k) i).dZ (nd d i).ah)=d:=by
  show dz (dz d i (bY (nd d i).ah name k)) i (nd d i).ah=d
  rw[yN hh,Cd hh]
 rw[hd]at j9
 exact⟨h4,R3,⟨⟨lk,up,hC.re j9⟩,hcl,wg,hmax⟩,(bE.ze jM h3).trans rZ⟩
theorem Ic {i k:Int} {name:ByteArray} {w1:World} (hC:dF R w a d room lk up zp) (hcl:bK d) (wg:(used d:Int)<=room) (hmax:room<=9223372036854775807) (hi:(nd d i).kind=2)
 (hp:bw (nd d i).ah name≠0) (ht:lU w w1 ⟨R.g i,5,none⟩ (R.ev i) (gh (nd d i).ah name k)):dn R w a d room w1:=by
 have hh:=mG hC.inv hi
 rw[show gh (nd d i).ah name k=(nd d i).ah from if_neg hp]at ht
 obtain⟨R1,bE,jM,hg1,hb1⟩:=hC.rep.qg hh ht
 rw[show aX d i ((nd d i).dZ (nd d i).ah)=d from Cd hh]at bE
 exact⟨R1,⟨⟨lk,up,hC.re bE⟩,hcl,wg,hmax⟩,jM⟩
theorem CW (h:cK R w a d room) (i:Int) (name:ByteArray) (k:Int) (hsz:name.size<=4294967296) (hb:aH d+1<=2147483648) (hno:aO d i=0->(nd d k).kind=2->¬cU d k i) :
 Calls Tryz.prog 70 #[.pointer (some ⟨a,0,none⟩),.int .i64 i,.string name,.int .i64 k] w fun e w'=>e=.returned (.int .i64 (cH d room i name k))∧dn R w a (bM d room i name k) room w':=by
 have H:=Lib.hid h
 obtain⟨⟨lk,up,hC⟩,hcl,hfit,hmax⟩:=h
 have hf:=vY hC.rep i
 unfold bM
 by_cases c0:aO d i=0
 case neg =>
  have e:cH d room i name k=aO d i:=if_pos c0
  rw[e,if_neg c0]
  have hp:lf R (aO d i) i=.pointer none:=if_neg c0
  rw[hp]at hf
  clear hC hcl hfit hmax e
  generalize aO d i=er at *
  go_enter Tryz.func70,Tryz.ntmps70
  go_wp2_with(go_at_call 62;refine hf.mono ?_;rintro e w1 ⟨rfl,rfl⟩)
  go_ret
  exact⟨rfl,H.out.same (aa.refl _ _)⟩
 case pos =>
 obtain⟨hi,hk1⟩:=fD c0
 rw[c0]at hf
 have hp:lf R 0 i=.pointer (some ⟨R.g i,0,none⟩):=rfl
 rw[hp]at hf
 have hl:=hC.rep.l
 have dW:=hC.rep.look k
 unfold j7 at dW
 have iZ:∀(P:Int->Prop),P (if (nd d k).kind=0 then 12 else if (nd d k).kind=2∧0<links d k then 22 else if 32768<=links d k then 24
  else if bw (nd d i).ah name≠0 then bw (nd d i).ah name else if room-used d<name.size then 20 else 0)->P (cH d room i name k):=fun P hP=>by
  unfold cH;rw[if_neg (by simpa using c0)];exact hP
 by_cases hk:has d k
 case neg =>
  rw[if_neg hk]at dW
  have e:cH d room i name k=12:=iZ (fun x=>x=12) (if_pos (j8 hk))
  rw[e,if_neg (by decide)]
  clear hC hcl hfit hmax e iZ
  go_enter Tryz.func70,Tryz.ntmps70
  go_wp2_with(go_at_call 62;refine hf.mono ?_;rintro e w1 ⟨rfl,rfl⟩)
  go_ret
  exact⟨rfl,H.out.same (aa.refl _ _)⟩
 case pos =>
 rw[if_pos hk]at dW
 have bS:¬(nd d k).kind=0:=hk
 have ja:∀(P:Int->Prop),P (if (nd d k).kind=2∧0<links d k then 22 else if 32768<=links d k then 24
  else if bw (nd d i).ah name≠0 then bw (nd d i).ah name else if room-used d<name.size then 20 else 0)->P (cH d room i name k):=fun P hP=>iZ P (by rw[if_neg bS];exact hP)
 have hn:=hC.rep.node k hk
 have c1:=hn.kind
 have c2:=hn.links
 have ld:=hC.cnt k hk
 have hlk:lk k=links d k:=by rw[ld];unfold zp;rfl
 rw[hlk]at c2
 by_cases d1:(nd d k).kind=2∧0<links d k
 ·have e:cH d room i name k=22:=ja (fun x=>x=22) (if_pos d1)
  rw[e,if_neg (by decide)]
  obtain⟨d2,d3⟩:=d1
  rw[d2]at c1
  have Pf:(0:Int)<(links d k:Int):=by omega
  clear hC hcl hfit hmax e iZ ja hn ld hlk bS hno d2 d3
  generalize(links d k:Int)=ng at *
  go_enter Tryz.func70,Tryz.ntmps70
  go_wp2_with(go_at_call 62;refine hf.mono ?_;rintro e w1 ⟨rfl,rfl⟩)
  go_ret
  exact⟨rfl,H.out.same (aa.refl _ _)⟩
 have jb:∀(P:Int->Prop),P (if 32768<=links d k then 24
  else if bw (nd d i).ah name≠0 then bw (nd d i).ah name else if room-used d<name.size then 20 else 0)->P (cH d room i name k):=fun P hP=>ja P (by rw[if_neg d1];exact hP)
 have oC:(nd d k).kind≠2∨((nd d k).kind=2∧(links d k:Int)=0):=by
  by_cases e2:(nd d k).kind=2
  ·exact .inr ⟨e2,by have:=Nat.eq_zero_of_not_pos (fun h=>d1 ⟨e2,h⟩);omega⟩
  ·exact .inl e2
 have hlen:=gx hC.small i
 have m6:=(hC.rep.node i hi).dir
 have hput:=Lib.hid (FU w ⟨R.g i,5,none⟩ (R.ev i) (nd d i).ah name k m6 (by omega))
 by_cases d2:32768<=links d k
 ·have e:cH d room i name k=24:=jb (fun x=>x=24) (if_pos d2)
  rw[e,if_neg (by decide)]
  have wu:(links d k:Int) ≥ 32768:=by omega
  have d3:(nd d k).kind≠2:=oC.elim id (fun h=>by have:=h.2;omega)
  clear hC hcl hfit hmax e iZ ja jb hn ld hlk bS hno d1 oC d2 hput m6 hlen
  generalize(links d k:Int)=ng at *
  go_enter Tryz.func70,Tryz.ntmps70
  go_wp2_with(go_at_call 62;refine hf.mono ?_;rintro e w1 ⟨rfl,rfl⟩)
  go_ret
  exact⟨rfl,H.out.same (aa.refl _ _)⟩
 have qq:∀(P:Int->Prop),P (if bw (nd d i).ah name≠0 then bw (nd d i).ah name else if room-used d<name.size then 20 else 0)->P (cH d room i name k):=fun P hP=>jb P (by rw[if_neg d2];exact hP)
 have wu:¬(32768<=(links d k:Int)):=by omega
 have CX:(32768<=(links d k:Int))=False:=by simp;omega
 by_cases d3:bw (nd d i).ah name=0
 case neg =>
  have e:cH d room i name k=bw (nd d i).ah name:=qq (fun x=>x=bw (nd d i).ah name) (if_pos d3)
  rw[e,if_neg d3]
  have HP:=Lib.hid (fun(w1:World)=>Ic (w1:=w1) (k:=k) hC hcl hfit hmax hk1 d3)
  clear hC hcl hfit hmax e iZ ja jb qq hn ld hlk bS hno d1 d2 m6 hlen
  generalize bw (nd d i).ah name=pe at *
  generalize(links d k:Int)=ng at *
  rcases oC with d4|⟨d4,d5⟩
  case' inl=>generalize(nd d k).kind=kd at *
  case' inr=>rw[d4]at c1;subst d5
  all_goals
   go_enter Tryz.func70,Tryz.ntmps70
   go_wp2_with(first|(go_at_call 62;refine hf.mono ?_;rintro e w1 ⟨rfl,rfl⟩)|(go_at_call 108;refine hput.out.mono ?_;rintro e w1 ⟨rfl,ht⟩))
   go_ret
   exact⟨rfl,HP.out w1 ht⟩
 case pos =>
 have s9:∀(P:Int->Prop),P (if room-used d<name.size then 20 else 0)->P (cH d room i name k):=fun P hP=>qq P (by rw[if_neg (by simpa using d3)];exact hP)
 rw[d3]at hput
 have hkl:(nd d k).kind=2->links d k=0:=fun e=>oC.elim (fun h=>absurd e h) (fun h=>by have:=h.2;omega)
 by_cases d4:room-used d<name.size
 ·have e:cH d room i name k=20:=s9 (fun x=>x=20) (if_pos d4)
  rw[e,if_neg (by decide)]
  have HP:=Lib.hid (fun(w1:World)=>Pc (w1:=w1) (k:=k) hC hcl hfit hmax hk1 d3 d4 hsz)
  clear hC hcl hfit hmax e iZ ja jb qq s9 hn ld hlk bS hno d1 d2 m6 hlen hkl d4 d3
  generalize(links d k:Int)=ng at *
  rcases oC with d4|⟨d4,d5⟩
  case' inl=>generalize(nd d k).kind=kd at *
  case' inr=>rw[d4]at c1;subst d5
  all_goals
   go_enter Tryz.func70,Tryz.ntmps70
   go_wp2_with(first|(go_at_call 62;refine hf.mono ?_;rintro e w1 ⟨rfl,rfl⟩)|(go_at_call 108;refine hput.out.mono ?_;rintro e w1 ⟨rfl,ht⟩)|(go_at_call 69;refine(HP.out _ ht).mono ?_;rintro e w2 ⟨rfl,qW⟩)|(go_at_call 109;refine qW.mono ?_;rintro e w3 ⟨rfl,hend⟩))
   go_ret
   exact⟨rfl,hend⟩
 ·have e:cH d room i name k=0:=s9 (fun x=>x=0) (if_neg d4)
  rw[e,if_pos rfl]
  have HP:=Lib.hid (fun(w1:World)=>Pb (w1:=w1) hC hcl hmax hk1 hk hkl d3 (hno c0) hb (by omega) hsz)
  clear hC hcl hfit hmax e iZ ja jb qq s9 hn ld hlk bS hno d1 d2 m6 hlen hkl d4 d3 hb
  have hwr:wrap64 ((links d k:Int)+1)=(links d k:Int)+1:=IntWalk.wrap64_in _ (by omega)
  generalize(links d k:Int)=ng at *
  rcases oC with d4|⟨d4,d5⟩
  case' inl=>generalize(nd d k).kind=kd at *
  case' inr=>rw[d4]at c1 HP;subst d5
  all_goals
   go_enter Tryz.func70,Tryz.ntmps70
   go_wp2_with(first|(go_at_call 62;refine hf.mono ?_;rintro e w1 ⟨rfl,rfl⟩)|(go_at_call 108;refine hput.out.mono ?_;rintro e w1 ⟨rfl,ht⟩)|(go_at_call 69;refine(HP.out _ ht).mono ?_;rintro e w2 ⟨rfl,f0,f2,f6,z2,z6,hend⟩;have gm:=Lib.hid hend;clear hend))
   go_ret
   refine⟨rfl,?_⟩
   have hz:=gm.out
   first|(rw[if_neg d4]at hz;exact hz)|(rw[if_pos trivial]at hz;exact hz)
end
set_option maxRecDepth 100000
set_option maxHeartbeats 1000000
def gF (d:ag) (i:Int) (name:ByteArray):Int:=if bH d i name≠0 then bH d i name else if (nd d (aN d i name)).ah≠[]then 16 else 0
noncomputable def iU (d:ag) (i:Int) (name:ByteArray):ag:=if gF d i name=0 then gc (aZ d i name)else d
section
variable{R:RD} {w:World} {a:Nat} {d:ag} {room:Int} {lk up:Int->Int}
theorem mI {d:ag} {i:Int} {name:ByteArray} (h:bH d i name=0):aO d i=0∧bk (nd d i).ah name=some (aN d i name):=by
 unfold bH at h
 unfold aN
 split at h
 ·next e=>exact absurd h e
 ·next e =>
  split at h
  ·next e2 =>
   obtain⟨k,hk⟩:=Option.isSome_iff_exists.1 e2
   rw[if_neg e,hk]
   exact⟨Classical.not_not.1 e,rfl⟩
  ·cases h
theorem Od {i k:Int} {name:ByteArray} {w0 w1:World} (hC:dF R w0 a d room lk up zp) (hcl:bK d) (hfit:(used d:Int)<=room) (hmax:room<=9223372036854775807) (hi:(nd d i).kind=2)
 (hg:bk (nd d i).ah name=some k) (ht:lU w0 w1 ⟨R.g i,5,none⟩ (R.ev i) (bQ (nd d i).ah name)) :
 w1.cell? ⟨a,2,none⟩=some (.int .i64 (used d))∧w1.frozen? ⟨a,2,none⟩=false ∧
 Calls Tryz.prog 122 #[.pointer (some ⟨a,0,none⟩),.int .i64 k] (w1.setCell ⟨a,2,none⟩ (.int .i64 ((used d:Int)-name.size))) fun e w2=>e=.returned (.tuple #[])∧dn R w0 a (gc (aZ d i name)) room w2:=by
 have hh:=mG hC.inv hi
 obtain⟨R1,bE,jM,hg1,hb1⟩:=hC.rep.qg hh ht
 have bE:aS R1 w1 a (aZ d i name) room (used d) lk up:=bE
 have hu:=GI hC.inv hh hg
 have gK:=bE.uu ((used d:Int)-name.size)
 have e:(used d:Int)-name.size=(used (aZ d i name):Nat):=by omega
 rw[e]at gK ⊢
 obtain⟨oy,hno⟩:=hC.drop hcl hi hg gK
 refine⟨bE.used,bE.fz 2,(GZ _ R1 _ a (aZ d i name) room lk up (lX k) k rfl oy (GK k) hno).mono ?_⟩
 rintro e w2 ⟨rfl,R',d',fT,up',h1,h2,h3,h4⟩
 rw[GL]at h1 h2
 have oV:cW R w0 R1 (w1.setCell ⟨a,2,none⟩ (.int .i64 (used (aZ d i name):Nat))):=jM.trans (cW.of ((aa.refl R1.F w1).setCell (p:=⟨a,2,none⟩) (.inl bE.fA) _))
 exact⟨rfl,R',yF h1 h2 h3 (by omega) hmax,oV.trans h4⟩
theorem G0 (h:cK R w a d room) (i:Int) (name:ByteArray) :
 Calls Tryz.prog 88 #[.pointer (some ⟨a,0,none⟩),.int .i64 i,.string name] w fun e w'=>e=.returned (.int .i64 (gF d i name))∧dn R w a (iU d i name) room w':=by
 have H:=Lib.hid h
 obtain⟨⟨lk,up,hC⟩,hcl,hfit,hmax⟩:=h
 have hlen:=gx hC.small
 have eB:=y8 hC.rep i name (hlen i)
 unfold iU
 by_cases c0:bH d i name=0
 case neg =>
  have e:gF d i name=bH d i name:=if_pos c0
  rw[e,if_neg c0]
  clear hC hcl hfit hmax e
  generalize bH d i name=er at *
  generalize aN d i name=k at *
  go_enter Tryz.func88,Tryz.ntmps88
  go_wp2_with(go_at_call 114;refine eB.mono ?_;rintro e w1 ⟨rfl,hk⟩)
  go_ret
  exact⟨rfl,H.out.same hk⟩
 case pos =>
 obtain⟨f0,hget⟩:=mI c0
 have hE:∀(P:Int->Prop),P (if (nd d (aN d i name)).ah≠[]then 16 else 0)->P (gF d i name):=fun P hP=>by
  unfold gF;rw[if_neg (by simpa using c0)];exact hP
 rw[c0]at eB
 generalize hkk:aN d i name=k at *
 obtain⟨hi,hi2⟩:=fD f0
 have hk:=(hC.inv.tgt i _ (dV hget)).1
 have HL:=Lib.hid (fun(w1:World) (hk1:aa af w w1)=>(⟨(hC.rep.ai hk1).l,(hC.rep.ai hk1).look k,(hC.rep.ai hk1).look i,((hC.rep.ai hk1).node k hk).kind⟩:_∧_∧_∧_))
 unfold j7 at HL
 rw[if_pos hk,if_pos hi]at HL
 have uw:=(hC.inv.node k).flat
 have Cx:=Lib.hid (fun(w1:World) (hk1:aa af w w1)=>BA (fun _=>True) w1 ⟨R.g k,5,none⟩ (R.ev k) (nd d k).ah (((hC.rep.ai hk1).node k hk).dir.any (fun _ _=>trivial)))
 have bZ:=lg hC.inv hC.small
 have qh:=Lib.hid (fun(w1:World) (hk1:aa af w w1)=>yu w1 ⟨R.g i,5,none⟩ (R.ev i) (nd d i).ah name ((hC.rep.ai hk1).node i hi).dir (by have:=hlen i;omega))
 have gL:name.size<=used d:=by
  have:=GI hC.inv hi hget
  omega
 have HP:=Lib.hid (fun(w1 w2:World) (hk1:aa af w w1)=>Od (w0:=w1) (w1:=w2) (hC.keep hk1 (fun _ _ h=>h.elim)) hcl hfit hmax hi2 hget)
 have aT:dI (nd d i).ah name=0:=by unfold dI;rw[if_pos (kX hget)]
 rw[aT]at qh
 by_cases d1:(nd d k).ah=[]
 case neg =>
  have e:gF d i name=16:=hE (fun x=>x=16) (if_pos d1)
  rw[e,if_neg (by decide)]
  have k2:(nd d k).kind=2:=Classical.byContradiction (fun h=>d1 (uw h))
  rw[k2]at HL
  have hpos:(0:Int)<(nd d k).ah.length:=by
   have:=List.length_pos_iff.2 d1
   omega
  clear hC hcl hfit hmax e hE uw bZ qh gL HP hlen aT d1
  generalize((nd d k).ah.length:Int)=ln at *
  go_enter Tryz.func88,Tryz.ntmps88
  go_wp2_with(first|(go_at_call 114;refine eB.mono ?_;rintro e w1 ⟨rfl,hk1⟩;obtain⟨l1,l2,l3,l4⟩:=HL.out w1 hk1)|(go_at_call 60;refine(Cx.out _ hk1).mono ?_;rintro e w2 ⟨rfl,rfl⟩))
  go_ret
  exact⟨rfl,H.out.same hk1⟩
 case pos =>
  have e:gF d i name=0:=hE (fun x=>x=0) (if_neg (by simpa using d1))
  rw[e,if_pos rfl]
  rw[d1]at Cx
  have hwr:wrap64 ((used d:Int)-name.size)=(used d:Int)-name.size:=IntWalk.wrap64_in _ (by omega)
  clear hC hcl hfit hmax e hE uw bZ hlen aT d1 gL
  generalize(used d:Int)=us at *
  by_cases k2:(nd d k).kind=2
  case' pos=>rw[k2]at HL
  case' neg=>generalize(nd d k).kind=kd at *
  all_goals
   go_enter Tryz.func88,Tryz.ntmps88
   go_wp2_with(first|(go_at_call 114;refine eB.mono ?_;rintro e w1 ⟨rfl,hk1⟩;obtain⟨l1,l2,l3,l4⟩:=HL.out w1 hk1)|(go_at_call 60;refine(Cx.out _ hk1).mono ?_;rintro e w2 ⟨rfl,rfl⟩)|(go_at_call 109;refine(qh.out _ hk1).mono ?_;rintro e w2 ⟨rfl,ht⟩;obtain⟨u1,u2,qi⟩:=HP.out _ _ hk1 ht;have qj:=Lib.hid qi;clear qi)|(go_at_call 122;refine qj.out.mono ?_;rintro e w3 ⟨rfl,hend⟩))
   go_ret
   exact⟨rfl,hend.after hk1⟩
end
theorem ou.trans {P:Int->Int->Prop} {a b c:Int} (h:ou P a b) (k:ou P b c):ou P a c:=by
 induction k with
 | self=>exact h
 | step hp _ ih=>exact .step hp ih
theorem NN {P:Int->Int->Prop} {i:Int} (h:Acc P i):∀j,P j i->ou P i j->False:=by
 induction h with
 | intro i _ ih =>
   intro j hj ha
   cases ha with
   | self=>exact ih i hj i hj .self
   | step hp h2=>exact ih j hj _ hp (ou.trans (.step hj .self) h2)
theorem NP {α:Type} {p q:α->Bool} {l:List α} (h:∀x∈l,p x=true->q x=true) (he:∃x∈l,q x=true∧p x=false):l.countP p<l.countP q:=by
 induction l with
 | nil=>obtain⟨x,hx,_⟩:=he;cases hx
 | cons a l ih =>
   rw[List.countP_cons,List.countP_cons]
   have hle:l.countP p<=l.countP q:=List.countP_mono_left (fun x hx=>h x (List.mem_cons_of_mem _ hx))
   obtain⟨x,hx,h1,h2⟩:=he
   rcases List.mem_cons.1 hx with rfl|hx
   ·rw[h1,h2];simp;omega
   ·have:=ih (fun x hx=>h x (List.mem_cons_of_mem _ hx)) ⟨x,hx,h1,h2⟩
    have ha:=h a List.mem_cons_self
    cases h3:p a with
    | false=>simp only[Bool.false_eq_true,if_false,Nat.add_zero];omega
    | true=>rw[ha h3];simp only[if_true];omega
open Classical in
/-- How many directories are i, or above i. -/
noncomputable def j5 (d:ag) (i:Int):Nat:=(List.range d.length).countP fun(k:Nat)=>decide (cU d (k:Int) i)
theorem yS (d:ag) (i:Int):j5 d i<=d.length:=by
 unfold j5
 have:=List.countP_le_length (p:=fun k=>@decide (cU d ((k:Nat):Int) i) (Classical.propDecidable _)) (l:=List.range d.length)
 rw[List.length_range]at this
 exact this
theorem yT {d:ag} (h:aG d) {i j:Int} (hp:cY d j i):j5 d j<j5 d i:=by
 unfold j5
 have hi:has d i:=by unfold has;rw[hp.1];decide
 have hr:=bF hi
 refine NP (fun x _ hx=>?_) ⟨i.toNat,List.mem_range.2 hr.2,?_,?_⟩
 ·simp only[decide_eq_true_eq]at hx ⊢
  exact .step hp hx
 ·simp only[decide_eq_true_eq]
  rw[Int.toNat_of_nonneg hr.1]
  exact .self
 ·simp only[decide_eq_false_iff_not]
  rw[Int.toNat_of_nonneg hr.1]
  exact fun ha=>NN (h.oT i) j hp ha
theorem NQ {d:ag} {i:Int} (hi:has d i):0<j5 d i:=by
 have hr:=bF hi
 unfold j5
 rw[List.countP_pos_iff]
 refine⟨i.toNat,List.mem_range.2 hr.2,?_⟩
 simp only[decide_eq_true_eq]
 rw[Int.toNat_of_nonneg hr.1]
 exact .self
theorem cY.dir {d:ag} (h:aG d) {j i:Int} (hp:cY d j i):(nd d j).kind=2:=by
 obtain⟨_,e,he,_⟩:=hp
 refine Classical.byContradiction fun hk=>?_
 rw[(h.node j).flat hk]at he;cases he
theorem yU {d:ag} {k i:Int} (hno:∀j,¬cY d j i):cU d k i↔k=i:=by
 constructor
 ·intro h
  cases h with
  | self=>rfl
  | step hp _=>exact absurd hp (hno _)
 ·rintro rfl;exact .self
theorem GQ {d:ag} (h:aG d) {k i j:Int} (hp:cY d j i) (hne:k≠i):cU d k i↔cU d k j:=by
 constructor
 ·intro ha
  cases ha with
  | self=>exact absurd rfl hne
  | step vV h2=>rw[h.uq hp vV];exact h2
 ·exact .step hp
theorem GR {d:ag} (h:aG d) (j:Int):¬cY d j 1:=fun⟨_,e,he,h2⟩=>(h.tgt j e he).2 h2
theorem GS {d:ag} {i:Int} (hc:cnt d i=0) (j:Int):¬cY d j i:=fun⟨_,e,he,h2⟩=>by
 have:=mD.2 ⟨j,e,he,h2⟩
 omega
def kY (d:ag) (i u:Int):Prop:=(cnt d i=0∧u=1)∨∃e,e∈(nd d u).ah∧e.2=i
theorem kY.par {d:ag} {i u:Int} (h:kY d i u) (hk:(nd d i).kind=2):(cnt d i=0∧u=1)∨cY d u i:=by
 rcases h with h|⟨e,h1,h2⟩
 ·exact .inl h
 ·exact .inr ⟨hk,e,h1,h2⟩
set_option maxRecDepth 100000
set_option maxHeartbeats 1000000
def mZ (d:ag) (k old:Int):Int :=
 if (nd d k).kind=2∧(nd d old).kind≠2 then 14 else if (nd d k).kind≠2∧(nd d old).kind=2 then 15 else if (nd d old).ah≠[]then 16 else 0
section
variable{R:RD} {w:World} {a:Nat} {d:ag} {room us:Int} {lk up:Int->Int}
theorem Ol (h:aS R w a d room us lk up) (hI:aG d) (k old:Int) (hk:has d k) (ho:has d old) :
 Calls Tryz.prog 128 #[.pointer (some ⟨a,0,none⟩),.pointer (some ⟨R.g k,0,none⟩),.pointer (some ⟨R.g old,0,none⟩)] w fun e w'=>e=.returned (.int .i64 (mZ d k old))∧w=w':=by
 have c0:=(h.node k hk).kind
 have d0:=(h.node old ho).kind
 have hlen:=Lib.hid (BA (fun _=>True) w ⟨R.g old,5,none⟩ (R.ev old) (nd d old).ah ((h.node old ho).dir.any (fun _ _=>trivial)))
 have uw:=(hI.node old).flat
 unfold mZ
 have he:(nd d old).ah≠[]↔0<(nd d old).ah.length:=by rw[List.length_pos_iff]
 have dS:(nd d old).kind≠2->¬0<(nd d old).ah.length:=fun h2=>by rw[uw h2];simp
 simp only[he]
 clear h hI he uw
 generalize(nd d old).ah.length=ln at *
 generalize(nd d k).kind=kk at *
 generalize(nd d old).kind=ko at *
 have hb:∀x:Int,(x=2∧(x==2)=true∧(x != 2)=false)∨(x≠2∧(x==2)=false∧(x != 2)=true):=fun x=>by
  by_cases h:x=2
  ·exact .inl ⟨h,by simpa using h,by simpa using h⟩
  ·exact .inr ⟨h,by simpa using h,by simpa using h⟩
 have hl:(0<ln∧(0:Int)<(ln:Int))∨(¬0<ln∧¬(0:Int)<(ln:Int)):=by omega
 rcases hb kk with⟨a1,a2,a3⟩|⟨a1,a2,a3⟩<;>rcases hb ko with⟨b1,b2,b3⟩|⟨b1,b2,b3⟩<;>rcases hl with⟨l1,l2⟩|⟨l1,l2⟩
 all_goals first|exact absurd l1 (dS b1)|skip
 all_goals
  simp only[a1,b1,l1,ne_eq,not_true_eq_false,not_false_eq_true,and_true,and_false,true_and,false_and,if_true,if_false]
  clear hb dS
  (try subst a1)
  (try subst b1)
  go_enter Tryz.func128,Tryz.ntmps128
  go_wp2_with(go_at_call 60;refine hlen.out.mono ?_;rintro e w1 ⟨rfl,rfl⟩)
  go_ret
  exact⟨rfl,rfl⟩
open Classical in
noncomputable def sY (d:ag) (x:Int):Nat:=if x=0 then 0 else j5 d x+1
def Om (w w':World) (e:Ending) (P:Prop):Prop:=∃b:Bool,e=.returned (.bool b)∧(b=true↔P)∧w=w'
theorem Oo (hI:aG d) (cA:BN d lk up) (ld:∀i,has d i->lk i=(links d i:Nat)) (top i x:Int) (hx:(nd d x).kind=2) (hne:x≠top) (h1:x≠1) (hiff:cU d top x↔cU d top i) :
 (((nd d (up x)).kind=2∧(cU d top (up x)↔cU d top i))∨(up x=0∧¬cU d top i))∧sY d (up x)<sY d x:=by
 have hh:=mG hI hx
 have hp:=hI.pos hh
 obtain⟨u1,u2,u3⟩:=cA x hh
 have gH:sY d x=j5 d x+1:=by unfold sY;rw[if_neg (by omega)]
 by_cases hc:cnt d x=0
 ·have h0:=u3 (by rw[ld x hh];unfold links;rw[hc,if_neg h1];rfl)
  refine⟨.inr ⟨h0,fun ha=>?_⟩,?_⟩
  ·exact hne ((yU (GS hc)).1 (hiff.2 ha)).symm
  ·rw[h0,gH];unfold sY;rw[if_pos rfl];omega
 ·obtain⟨j,e,he,h2⟩:=mD.1 (Nat.pos_of_ne_zero hc)
  have hP:cY d j x:=⟨hx,e,he,h2⟩
  have hu:=u1 j hP
  rw[hu]
  have hl:=yT hI hP
  refine⟨.inl ⟨hP.dir hI,?_⟩,?_⟩
  ·rw[<- hiff,GQ hI hP (fun e=>hne e.symm)]
  ·rw[gH];unfold sY;split<;>omega
theorem Oq {bR:Int->Nat} (hC:dF R w a d room lk up bR) (hz:bR=zp) (i top:Int) (hi:(nd d i).kind=2) (ht:has d top) (Ot:top≠1) :
 Calls Tryz.prog 127 #[.pointer (some ⟨a,0,none⟩),.int .i64 i,.int .i64 top] w fun e w'=>Om w w' e (cU d top i):=by
 subst hz
 have hl:=hC.rep.l
 have dJ:=Lib.hid hC.rep.look
 have HN:=Lib.hid hC.rep.node
 have ld:∀i,has d i->lk i=(links d i:Nat):=fun j hj=>by have:=hC.cnt j hj;unfold zp at this;exact this
 have HS:=Lib.hid (Oo hC.inv hC.mT ld top i)
 have HI:=Lib.hid hC.inv
 have nS:top≠0:=fun e=>by subst e;unfold has at ht;rw[hC.inv.zero]at ht;exact ht rfl
 have HT:Hid (¬cU d top 1):=fun ha=>Ot ((yU (GR HI.out)).1 ha)
 clear hC ld
 go_enter Tryz.func127,Tryz.ntmps127
 go_wp2
 refine Bn 0 (fun a' w'=>∃x:Int,∃(u3 u4 u5 u7 u8 u9 G6 G7 G8 G9 Hf Hg u16 Hj Ho Hr Ht Hu Hv Hw Hy Hz H6:Value),a'={ tmps:=#[.pointer (some ⟨a,0,none⟩),.int .i64 x,.int .i64 top,u3,u4,u5,.bool false,u7,u8,u9,G6,G7,G8,G9,Hf,Hg,u16,Hj,Ho,Hr,Ht,Hu,Hv,Hw,Hy,Hz,H6],defers:=[] }∧w'=w∧(((nd d x).kind=2∧(cU d top x↔cU d top i))∨(x=0∧¬cU d top i))) (fun a' _=>sY d (intOf (a'.tmps.getD 1 undef))) rfl ?_ ?_
 ·intro HJ
  have vZ:=Lib.hid HJ
  clear HJ
  go_wp2
  go_step3
  go_step
  go_step
  refine vZ.out _ _ ?_
  exact⟨i,_,_,_,_,_,_,_,_,_,_,_,_,_,_,_,_,_,_,_,_,_,_,_,rfl,rfl,.inl ⟨hi,Iff.rfl⟩⟩
 ·rintro a' w1 ⟨x,u3,u4,u5,u7,u8,u9,G6,G7,G8,G9,Hf,Hg,u16,Hj,Ho,Hr,Ht,Hu,Hv,Hw,Hy,Hz,H6,rfl,rfl,hx⟩
  have Hx:=Lib.hid hx
  by_cases e1:x=top
  ·have hb:(x==top)=true:=by simpa using e1
   have He:=Lib.hid e1
   clear e1 hx
   go_wp2
   simp only[Exit.jump]
   go_ret
   refine⟨true,rfl,⟨fun _=>?_,fun _=>rfl⟩,rfl⟩
   rcases Hx.out with⟨h1,h2⟩|⟨h1,h2⟩
   ·rw[<- h2,He.out];exact .self
   ·exact absurd (He.out.symm.trans h1) nS
  ·have hb:(x==top)=false:=by simpa using e1
   have hlk:=dJ.out x
   unfold j7 at hlk
   have He:=Lib.hid e1
   clear e1
   by_cases hh:has d x
   ·rw[if_pos hh]at hlk
    have cA:=(HN.out x hh).up
    have hx2:=hx.resolve_right (fun h=>by have:=h.1;subst this;unfold has at hh;rw[HI.out.zero]at hh;exact hh rfl)
    have v8:=Lib.hid hx2
    clear hx hx2 hh
    by_cases e2:x=1
    ·have hb1:(x==1)=true:=by simpa using e2
     have sZ:=Lib.hid e2
     clear e2
     go_wp2
     simp only[Exit.jump]
     go_ret
     refine⟨false,rfl,⟨(fun h=>by cases h),fun h=>?_⟩,rfl⟩
     have:=v8.out.2.2 h
     rw[sZ.out]at this
     exact absurd this HT.out
    ·have hb1:(x==1)=false:=by simpa using e2
     have sZ:=Lib.hid e2
     clear e2
     have hst:=HS.out x v8.out.1 He.out sZ.out v8.out.2
     go_wp2
     go_step3
     refine⟨rfl,⟨up x,_,_,_,_,_,_,_,_,_,_,_,_,_,_,_,_,_,_,_,_,_,_,_,rfl,rfl,hst.1⟩,?_⟩
     simpa[intOf]using hst.2
   ·rw[if_neg hh]at hlk
    have hx2:x=0∧¬cU d top i:=by
     rcases hx with⟨h1,_⟩|h
     ·exact absurd (mG HI.out h1) hh
     ·exact h
    have v8:=Lib.hid hx2
    clear hx hx2 hh
    go_wp2
    simp only[Exit.jump]
    go_ret
    exact⟨false,rfl,⟨(fun h=>by cases h),fun h=>absurd h v8.out.2⟩,rfl⟩
end
set_option maxRecDepth 100000
set_option maxHeartbeats 1000000
def lZ (d:ag) (room:Int) (t:Int) (other name:ByteArray):Int :=
 if bu (nd d t).ah other=true then 0 else if bw (nd d t).ah other≠0 then bw (nd d t).ah other else if room-used d<(other.size:Int)-name.size then 20 else 0
theorem cE.mk' {d:ag} {f t k:Int} {name other:ByteArray} (hI:aG d) (f2:(nd d f).kind=2) (t2:(nd d t).kind=2) (hg:bk (nd d f).ah name=some k) (hne:bk (nd d t).ah other≠some k)
 (hp:bu (nd d t).ah other=false->bw (nd d t).ah other=0) (top:(nd d k).kind=2->¬cU d k t):cE d f name t other k :=
 ⟨hI,f2,t2,hg,fun⟨h1,h2⟩=>hne (by rw[<- h1,<- h2];exact hg),hp,top⟩
theorem rX {s:ByteArray} (h:fJ s=true):s.size<=255:=by
 simp[fJ]at h
 omega
section
variable{R:RD} {w:World} {a:Nat} {d:ag} {room us:Int} {lk up:Int->Int} {f t k:Int} {name other:ByteArray}
theorem cE.CA (M:cE d f name t other k):name.size<=255:=rX ((M.inv.node f).names _ (dV M.get))
theorem cE.H8 (M:cE d f name t other k):other.size<=255:=rX M.GM
theorem cE.Ou (M:cE d f name t other k) (hs:aP d) (j:Int):(nd (eM d t other k) j).ah.length<4294967295:=by
 have h1:∀i,(nd d i).ah.length<=2147483648:=fun i=>by
  by_cases hh:0<=i∧i.toNat<d.length
  ·have h1:=sS bJ hh.1 hh.2
   unfold aP Go.Proofs.YtnanhmfpikddkaaGreatDoor.aH at hs
   unfold bJ at hs h1
   omega
  ·rw[pV hh];decide
 unfold eM
 rw[mF M.ht]
 have:=h1 t
 have:=h1 j
 split
 ·unfold gI
  cases hh:bu (nd d t).ah other with
  | false=>simp only[Bool.false_eq_true,if_false];rw[vS hh];omega
  | true=>simp only[if_true];rw[GD];omega
 ·omega
def za (R:RD) (w:World) (a:Nat) (d:ag) (room:Int) (f:Int) (name:ByteArray) (t:Int) (other:ByteArray) (k:Int) (w2:World):Prop :=
 (∀old,bk (nd d t).ah other=some old->Calls Tryz.prog 122 #[.pointer (some ⟨a,0,none⟩),.int .i64 old] w2 fun e w3=>e=.returned (.tuple #[])∧dn R w a (gc (bL d f name t other k)) room w3) ∧
 (bk (nd d t).ah other=none->dn R w a (gc (bL d f name t other k)) room w2)
theorem H9 {R1:RD} {w1:World} {iY:Int} (M:cE d f name t other k) (hC:dF R w a d room lk up zp) (hcl:bK d) (hmax:room<=9223372036854775807)
 (bE:aS R1 w1 a (eM d t other k) room iY lk up) (hT:cW R w R1 w1) (hg:R1.g=R.g) (gL:iY-name.size=used (bL d f name t other k)) (hfit:(used (bL d f name t other k):Int)<=room) :
 w1.cell? ⟨a,0,none⟩=some (.map (some R1.b))∧(Instr.lookup 109 (.map (some R1.b)) (.int .i64 f) false).run Tryz.prog w1=.ok (.pointer (some ⟨R.g f,0,none⟩)) w1 ∧
 Calls Tryz.prog 109 #[.pointer (some ⟨R.g f,5,none⟩),.string name] w1 fun e w2=>e=.returned (.int .i64 0)∧w2.cell? ⟨a,2,none⟩=some (.int .i64 iY)∧w2.frozen? ⟨a,2,none⟩=false ∧
  w2.cell? ⟨R.g k,0,none⟩=some (.int .i64 (nd d k).kind)∧w2.cell? ⟨R.g k,6,none⟩=some (.int .i64 (up k))∧w2.frozen? ⟨R.g k,6,none⟩=false ∧
  za R w a d room f name t other k (if (nd d k).kind=2 then(w2.setCell ⟨a,2,none⟩ (.int .i64 (iY-name.size))).setCell ⟨R.g k,6,none⟩ (.int .i64 t)else w2.setCell ⟨a,2,none⟩ (.int .i64 (iY-name.size))):=by
 have hfm:=M.hfm
 have hlk:=bE.look f
 unfold j7 at hlk
 rw[if_pos hfm,hg]at hlk
 have hn:=(bE.node f hfm).dir
 rw[hg]at hn
 refine⟨bE.l,hlk,(yu w1 ⟨R.g f,5,none⟩ (R1.ev f) _ name hn (M.Ou hC.small f)).mono fun e w2 ⟨h4,h5⟩=>?_⟩
 rw[show dI (nd (eM d t other k) f).ah name=0 by unfold dI;rw[if_pos (kX M.yQ)]]at h4
 rw[<- hg]at h5
 obtain⟨R2,gK,oV,gR,hb2⟩:=bE.qg hfm h5
 have gK:aS R2 w2 a (bL d f name t other k) room iY lk up:=gK
 have hk2:has (bL d f name t other k) k:=(M.has k).2 M.hk
 have hnk:=gK.node k hk2
 rw[gR,hg]at hnk
 have j9:=gK.uu (iY-name.size)
 have kk:aa R2.F w2 (w2.setCell ⟨a,2,none⟩ (.int .i64 (iY-name.size))):=(aa.refl R2.F w2).setCell (p:=⟨a,2,none⟩) (.inl gK.fA) _
 refine⟨h4,gK.used,gK.fz 2,by rw[hnk.kind,M.kind],hnk.up,hnk.fz 6,?_⟩
 have key:∀W,aS R2 W a (bL d f name t other k) room (used (bL d f name t other k)) lk (if (nd d k).kind=2 then setAt up k t else up)->aa R2.F w2 W->za R w a d room f name t other k W:=by
  intro W Ov Ow
  have Ia:cW R w R2 W:=(hT.trans oV).trans (cW.of Ow)
  obtain⟨oy,hno⟩:=M.yE hC hcl Ov
  refine⟨fun old ho=>?_,fun ho=>?_⟩
  ·have hpe:nR d t other=lX old:=by unfold nR;rw[ho]
   rw[hpe]at oy hno
   refine(GZ _ R2 _ a (bL d f name t other k) room lk _ (lX old) old rfl oy (GK old) hno).mono ?_
   rintro e w3 ⟨rfl,R',d',fT,up',h1,h2,h3,h4⟩
   rw[GL]at h1 h2
   exact⟨rfl,R',yF h1 h2 h3 hfit hmax,Ia.trans h4⟩
  ·have hpe:nR d t other=zp:=by unfold nR;rw[ho]
   rw[hpe]at oy hno
   exact⟨R2,yF oy hno (cJ.refl _) hfit hmax,Ia⟩
 have e1:(used (bL d f name t other k):Int)=iY-name.size:=gL.symm
 by_cases hkk:(nd d k).kind=2
 ·rw[if_pos hkk]
  rw[<- hg,<- gR]
  have CE:=j9.Co hk2 t
  refine key _ ?_ (kk.setCell (.inl (j9.fN hk2)) _)
  rw[if_pos hkk,e1]
  exact CE
 ·rw[if_neg hkk]
  refine key _ ?_ kk
  rw[if_neg hkk,e1]
  exact j9
theorem Ox {old:Int} {w1:World} (M:cE d f name t other k) (hC:dF R w a d room lk up zp) (hcl:bK d) (hfit:(used d:Int)<=room) (hmax:room<=9223372036854775807) (ho:bk (nd d t).ah other=some old)
 (ht:lU w w1 ⟨R.g t,5,none⟩ (R.ev t) (eW (nd d t).ah other k)) :
 ∃R1:RD,R1.b=R.b∧w1.cell? ⟨a,0,none⟩=some (.map (some R1.b))∧(Instr.lookup 109 (.map (some R1.b)) (.int .i64 f) false).run Tryz.prog w1=.ok (.pointer (some ⟨R.g f,0,none⟩)) w1 ∧
 Calls Tryz.prog 109 #[.pointer (some ⟨R.g f,5,none⟩),.string name] w1 fun e w2=>e=.returned (.int .i64 0)∧w2.cell? ⟨a,2,none⟩=some (.int .i64 (used d))∧w2.frozen? ⟨a,2,none⟩=false ∧
  w2.cell? ⟨R.g k,0,none⟩=some (.int .i64 (nd d k).kind)∧w2.cell? ⟨R.g k,6,none⟩=some (.int .i64 (up k))∧w2.frozen? ⟨R.g k,6,none⟩=false ∧
  za R w a d room f name t other k (if (nd d k).kind=2 then(w2.setCell ⟨a,2,none⟩ (.int .i64 ((used d:Int)-name.size))).setCell ⟨R.g k,6,none⟩ (.int .i64 t)else w2.setCell ⟨a,2,none⟩ (.int .i64 ((used d:Int)-name.size))):=by
 have e:eW (nd d t).ah other k=gI d t other k:=by unfold gI;rw[if_pos (kX ho)]
 rw[e]at ht
 obtain⟨R1,bE,jM,hg1,hb1⟩:=hC.rep.qg M.ht ht
 have bE:aS R1 w1 a (eM d t other k) room (used d) lk up:=bE
 have hu:=M.used
 rw[if_pos (kX ho)]at hu
 exact⟨R1,hb1,H9 M hC hcl hmax bE jM hg1 (by omega) (by omega)⟩
theorem Oy {w1:World} (M:cE d f name t other k) (hC:dF R w a d room lk up zp) (hcl:bK d) (hfit:(used d:Int)<=room) (hmax:room<=9223372036854775807) (ho:bk (nd d t).ah other=none)
 (hroom:(other.size:Int)-name.size<=room-used d) (ht:lU w w1 ⟨R.g t,5,none⟩ (R.ev t) (gh (nd d t).ah other k)) :
 Calls Tryz.prog 69 #[.pointer (some ⟨a,0,none⟩),.int .i64 ((other.size:Int)-name.size)] w1 fun e w2=>e=.returned (.bool true)∧w2.cell? ⟨a,2,none⟩=some (.int .i64 ((used d:Int)+((other.size:Int)-name.size)))∧w2.frozen? ⟨a,2,none⟩=false ∧
 ∃b:Nat,∃W:World,W=w2.setCell ⟨a,2,none⟩ (.int .i64 ((used d:Int)+other.size))∧W.cell? ⟨a,0,none⟩=some (.map (some b))∧(Instr.lookup 109 (.map (some b)) (.int .i64 f) false).run Tryz.prog W=.ok (.pointer (some ⟨R.g f,0,none⟩)) W ∧
 Calls Tryz.prog 109 #[.pointer (some ⟨R.g f,5,none⟩),.string name] W fun e w2=>e=.returned (.int .i64 0)∧w2.cell? ⟨a,2,none⟩=some (.int .i64 ((used d:Int)+other.size))∧w2.frozen? ⟨a,2,none⟩=false ∧
  w2.cell? ⟨R.g k,0,none⟩=some (.int .i64 (nd d k).kind)∧w2.cell? ⟨R.g k,6,none⟩=some (.int .i64 (up k))∧w2.frozen? ⟨R.g k,6,none⟩=false ∧
  za R w a d room f name t other k (if (nd d k).kind=2 then(w2.setCell ⟨a,2,none⟩ (.int .i64 ((used d:Int)+other.size-name.size))).setCell ⟨R.g k,6,none⟩ (.int .i64 t)else w2.setCell ⟨a,2,none⟩ (.int .i64 ((used d:Int)+other.size-name.size))):=by
 have hh:bu (nd d t).ah other=false:=by rw[<- ox,ho];rfl
 have hp:=M.put hh
 have e:gh (nd d t).ah other k=gI d t other k:=by unfold gI gh;rw[if_pos hp,hh];simp
 rw[e]at ht
 obtain⟨R1,bE,jM,hg1,hb1⟩:=hC.rep.qg M.ht ht
 have bE:aS R1 w1 a (eM d t other k) room (used d) lk up:=bE
 have hu:=M.used
 rw[hh]at hu
 simp only[Bool.false_eq_true,if_false]at hu
 have hs1:=M.CA
 have hs2:=M.H8
 refine(rY bE ((other.size:Int)-name.size) (by omega) (by omega) hmax (by omega) (by omega)).mono fun e w2 ⟨h1,h2,h3⟩=>?_
 rw[show(decide ((other.size:Int)-name.size<=room-used d))=true from decide_eq_true (by omega)]at h1
 rw[show oX room (used d) ((other.size:Int)-name.size)=used d+((other.size:Int)-name.size)from if_pos (by omega)]at h2
 have oV:=bE.ze jM h3
 have j9:=h2.uu ((used d:Int)+other.size)
 have rZ:cW R w R1 (w2.setCell ⟨a,2,none⟩ (.int .i64 ((used d:Int)+other.size))):=oV.trans (cW.of ((aa.refl R1.F w2).setCell (p:=⟨a,2,none⟩) (.inl h2.fA) _))
 obtain⟨f1,f2,f3⟩:=H9 M hC hcl hmax j9 rZ hg1 (by omega) (by omega)
 exact⟨h1,h2.used,h2.fz 2,R1.b,_,rfl,f1,f2,f3⟩
theorem Oz {i k:Int} {name:ByteArray} {w1:World} {n:Int} (hC:dF R w a d room lk up zp) (hcl:bK d) (wg:(used d:Int)<=room) (hmax:room<=9223372036854775807) (hi:(nd d i).kind=2)
 (hp:bw (nd d i).ah name=0) (hfit:room-used d<n) (hn1:n<=4611686018427387904) (ht:lU w w1 ⟨R.g i,5,none⟩ (R.ev i) (gh (nd d i).ah name k)) :
 Calls Tryz.prog 69 #[.pointer (some ⟨a,0,none⟩),.int .i64 n] w1 fun e w2=>e=.returned (.bool false) ∧
  Calls Tryz.prog 109 #[.pointer (some ⟨R.g i,5,none⟩),.string name] w2 fun e w3=>e=.returned (.int .i64 0)∧dn R w a d room w3:=by
 have hh:=mG hC.inv hi
 obtain⟨hok,aT⟩:=mA.1 hp
 rw[show gh (nd d i).ah name k=bY (nd d i).ah name k from if_pos hp]at ht
 obtain⟨R1,bE,jM,hg1,hb1⟩:=hC.rep.qg hh ht
 have bE:aS R1 w1 a (bN d i name k) room (used d) lk up:=bE
 have bZ:=lg hC.inv hC.small
 refine(rY bE n (by omega) (by omega) hmax (by omega) (by omega)).mono fun e w2 ⟨h1,h2,h3⟩=>?_
 rw[show(decide (n<=room-used d))=false from decide_eq_false (by omega)]at h1
 rw[show oX room (used d) n=used d from if_neg (by omega)]at h2
 have hi1:has (bN d i name k) i:=(qc hh _ i).2 hh
 have qR:(nd (bN d i name k) i).ah=bY (nd d i).ah name k:=by unfold bN;rw[mF hh,if_pos rfl]
 have hn:=(h2.node i hi1).dir
 have hlen:=gx hC.small i
 have hl2:=vS (k:=k) aT
 rw[hg1,qR]at hn
 have r7:(nd d i).ah.length<=2147483648:=by
  have h1:=sS bJ (bF hh).1 (bF hh).2
  have:=hC.small
  unfold aP aH at this
  unfold bJ at h1
  unfold bJ at this
  omega
 refine⟨h1,(yu w2 ⟨R.g i,5,none⟩ (R1.ev i) _ name hn (by omega)).mono fun e w3 ⟨h4,h5⟩=>?_⟩
 have hput:bu (bY (nd d i).ah name k) name=true:=by rw[CF aT];simp
 rw[show dI (bY (nd d i).ah name k) name=0 by unfold dI;rw[if_pos hput]]at h4
 rw[Ib (hC.inv.node i).rising aT]at h5
 rw[<- hg1]at h5
 obtain⟨R3,j9,rZ,_,_⟩:=h2.qg hi1 h5
 have hd:aX (bN d i name k) i ((nd (bN d i name k) i).dZ (nd d i).ah)=d:=by
  show dz (dz d i (bY (nd d i).ah name k)) i (nd d i).ah=d
  rw[yN hh,Cd hh]
 rw[hd]at j9
 exact⟨h4,R3,⟨⟨lk,up,hC.re j9⟩,hcl,wg,hmax⟩,(bE.ze jM h3).trans rZ⟩
noncomputable def zh (d:ag) (room:Int) (f:Int) (name:ByteArray) (t:Int) (other:ByteArray) (k:Int):ag:=if lZ d room t other name=0 then gc (bL d f name t other k)else d
theorem OA (h:cK R w a d room) (f:Int) (name:ByteArray) (t:Int) (other:ByteArray) (k:Int) (h0:bH d f name=0) (hkk:aN d f name=k) (nS:aO d t=0) (fE:(nd d k).kind=2->¬cU d k t) (hne:bk (nd d t).ah other≠some k) (hos:other.size<=4294967296) :
 Calls Tryz.prog 129 #[.pointer (some ⟨a,0,none⟩),.int .i64 f,.string name,.int .i64 t,.string other] w fun e w'=>e=.returned (.int .i64 (lZ d room t other name))∧dn R w a (zh d room f name t other k) room w':=by
 obtain⟨⟨lk,up,hC⟩,hcl,hfit,hmax⟩:=h
 have hlen:=gx hC.small
 have eB:=y8 hC.rep f name (hlen f)
 rw[h0,hkk]at eB
 obtain⟨f0,hget⟩:=mI h0
 rw[hkk]at hget
 obtain⟨hf,dS⟩:=fD f0
 obtain⟨ht,cy⟩:=fD nS
 have hk:has d k:=(hC.inv.tgt f _ (dV hget)).1
 have bZ:=lg hC.inv hC.small
 have HL:=Lib.hid (fun(w1:World) (hk1:aa af w w1)=>(⟨(hC.rep.ai hk1).l,(hC.rep.ai hk1).look k,(hC.rep.ai hk1).look t⟩:_∧_∧_))
 unfold j7 at HL
 rw[if_pos hk,if_pos ht]at HL
 have uz:=Lib.hid (fun(w1:World) (hk1:aa af w w1)=>BB (fun _=>True) w1 ⟨R.g t,5,none⟩ (R.ev t) (nd d t).ah other (((hC.rep.ai hk1).node t ht).dir.any (fun _ _=>trivial)) (by have:=hlen t;omega))
 have hput:=Lib.hid (fun(w1:World) (hk1:aa af w w1)=>FU w1 ⟨R.g t,5,none⟩ (R.ev t) (nd d t).ah other k ((hC.rep.ai hk1).node t ht).dir (by have:=hlen t;omega))
 have hset:=Lib.hid (fun(w1:World) (hk1:aa af w w1)=>MJ w1 ⟨R.g t,5,none⟩ (R.ev t) (nd d t).ah other k ((hC.rep.ai hk1).node t ht).dir (by have:=hlen t;omega))
 unfold zh
 cases ho:bk (nd d t).ah other with
 | some old =>
   have hh:=kX ho
   have e:lZ d room t other name=0:=if_pos hh
   rw[e,if_pos rfl]
   have M:cE d f name t other k:=cE.mk' hC.inv dS cy hget hne (fun h=>by rw[hh]at h;cases h) fE
   have hs1:=M.CA
   have hu:=M.used
   rw[if_pos hh]at hu
   have hwr:wrap64 ((used d:Int)-name.size)=(used d:Int)-name.size:=IntWalk.wrap64_in _ (by omega)
   have HP:=Lib.hid (fun(w1 w2:World) (hk1:aa af w w1)=>Ox (w:=w1) (w1:=w2) M (hC.keep hk1 (fun _ _ h=>h.elim)) hcl hfit hmax ho)
   have aT:dI (nd d t).ah other=0:=by unfold dI;rw[if_pos hh]
   rw[aT]at hset
   rw[ho]at uz
   have HO:=Lib.hid ho
   clear hC hcl hfit hmax e bZ hlen M hs1 hu aT hh hne fE hget ho h0 hkk nS f0 hf dS ht cy hk
   generalize(used d:Int)=us at *
   have aM:((nd d k).kind=2)∨((nd d k).kind≠2):=Classical.em _
   rcases aM with aM|aM
   case' inl=>simp only[aM,if_true]at HP;clear aM
   case' inr=>simp only[aM,if_false]at HP;generalize(nd d k).kind=kd at *
   all_goals
    go_enter Tryz.func129,Tryz.ntmps129
    go_wp2_with(first|(go_at_call 114;refine eB.mono ?_;rintro e w1 ⟨rfl,hk1⟩;obtain⟨l1,l2,l3⟩:=HL.out w1 hk1;have q2:=fun(n:Nat)=>(HL.out (w1.drewN n) (hk1.drewN n)).2.1;have q3:=fun(n:Nat)=>(HL.out (w1.drewN n) (hk1.drewN n)).2.2)|(go_quiet (fail))|(go_at_call 126;refine(uz.out _ (hk1.drewN _)).mono ?_;rintro e w2 ⟨rfl,hk2⟩;replace hk2:=(hk1.drewN _).trans hk2)|(go_at_call 156;refine(hset.out _ hk2).mono ?_;rintro e w3 ⟨rfl,s5⟩;obtain⟨R1,-,m1,m2,qW⟩:=HP.out _ _ hk2 s5;have CG:=Lib.hid qW;clear qW)|(go_at_call 109;refine CG.out.mono ?_;rintro e w4 ⟨rfl,n1,n2,n3,n4,n5,hend⟩;have gm:=Lib.hid (hend.1 _ HO.out);clear hend)|(go_at_call 122;refine gm.out.mono ?_;rintro e w5 ⟨rfl,hend⟩))
    go_ret
    exact⟨rfl,hend.after hk2⟩
 | none =>
   have hh:bu (nd d t).ah other=false:=by rw[<- ox,ho];rfl
   have ke:¬(bu (nd d t).ah other=true):=by rw[hh];decide
   rw[ho]at uz
   have iZ:∀(P:Int->Prop),P (if bw (nd d t).ah other≠0 then bw (nd d t).ah other else if room-used d<(other.size:Int)-name.size then 20 else 0)->P (lZ d room t other name):=fun P hP=>by
    unfold lZ;rw[if_neg ke];exact hP
   have hns:name.size<=255:=rX ((hC.inv.node f).names _ (dV hget))
   have hwd:wrap64 ((other.size:Int)-name.size)=(other.size:Int)-name.size:=IntWalk.wrap64_in _ (by omega)
   by_cases d3:bw (nd d t).ah other=0
   case neg =>
    have e:lZ d room t other name=bw (nd d t).ah other:=iZ (fun x=>x=bw (nd d t).ah other) (if_pos d3)
    rw[e,if_neg d3]
    have HP:=Lib.hid (fun(w1 w2:World) (hk1:aa af w w1)=>Ic (w:=w1) (w1:=w2) (k:=k) (hC.keep hk1 (fun _ _ h=>h.elim)) hcl hfit hmax cy d3)
    clear hC hcl hfit hmax e bZ hlen hh ke iZ hns hwd hne fE hget ho h0 hkk nS f0 hf dS ht cy hk hset
    generalize bw (nd d t).ah other=pe at *
    go_enter Tryz.func129,Tryz.ntmps129
    go_wp2_with(first|(go_at_call 114;refine eB.mono ?_;rintro e w1 ⟨rfl,hk1⟩;obtain⟨l1,l2,l3⟩:=HL.out w1 hk1;have q2:=fun(n:Nat)=>(HL.out (w1.drewN n) (hk1.drewN n)).2.1;have q3:=fun(n:Nat)=>(HL.out (w1.drewN n) (hk1.drewN n)).2.2)|(go_quiet (fail))|(go_at_call 126;refine(uz.out _ (hk1.drewN _)).mono ?_;rintro e w2 ⟨rfl,hk2⟩;replace hk2:=(hk1.drewN _).trans hk2)|(go_at_call 108;refine(hput.out _ hk2).mono ?_;rintro e w3 ⟨rfl,s5⟩;have hend:=HP.out _ _ hk2 s5))
    go_ret
    exact⟨rfl,hend.after hk2⟩
   case pos =>
   have ja:∀(P:Int->Prop),P (if room-used d<(other.size:Int)-name.size then 20 else 0)->P (lZ d room t other name):=fun P hP=>iZ P (by rw[if_neg (by simpa using d3)];exact hP)
   rw[d3]at hput
   by_cases d4:room-used d<(other.size:Int)-name.size
   ·have e:lZ d room t other name=20:=ja (fun x=>x=20) (if_pos d4)
    rw[e,if_neg (by decide)]
    have HP:=Lib.hid (fun(w1 w2:World) (hk1:aa af w w1)=>Oz (w:=w1) (w1:=w2) (k:=k) (n:=(other.size:Int)-name.size) (hC.keep hk1 (fun _ _ h=>h.elim)) hcl hfit hmax cy d3 d4 (by omega))
    clear hC hcl hfit hmax e bZ hlen hh ke iZ ja hns hne fE hget ho h0 hkk nS f0 hf dS ht cy hk hset d3 d4
    go_enter Tryz.func129,Tryz.ntmps129
    go_wp2_with(first|(go_at_call 114;refine eB.mono ?_;rintro e w1 ⟨rfl,hk1⟩;obtain⟨l1,l2,l3⟩:=HL.out w1 hk1;have q2:=fun(n:Nat)=>(HL.out (w1.drewN n) (hk1.drewN n)).2.1;have q3:=fun(n:Nat)=>(HL.out (w1.drewN n) (hk1.drewN n)).2.2)|(go_quiet (fail))|(go_at_call 126;refine(uz.out _ (hk1.drewN _)).mono ?_;rintro e w2 ⟨rfl,hk2⟩;replace hk2:=(hk1.drewN _).trans hk2)|(go_at_call 108;refine(hput.out _ hk2).mono ?_;rintro e w3 ⟨rfl,s5⟩)|(go_at_call 69;refine(HP.out _ _ hk2 s5).mono ?_;rintro e w4 ⟨rfl,qW⟩)|(go_at_call 109;refine qW.mono ?_;rintro e w5 ⟨rfl,hend⟩))
    go_ret
    exact⟨rfl,hend.after hk2⟩
   ·have e:lZ d room t other name=0:=ja (fun x=>x=0) (if_neg d4)
    rw[e,if_pos rfl]
    have M:cE d f name t other k:=cE.mk' hC.inv dS cy hget hne (fun _=>d3) fE
    have hs1:=M.CA
    have hs2:=M.H8
    have hwr:wrap64 ((used d:Int)+other.size-name.size)=(used d:Int)+other.size-name.size:=IntWalk.wrap64_in _ (by omega)
    have lp:wrap64 ((used d:Int)+((other.size:Int)-name.size)+name.size)=(used d:Int)+other.size:=by rw[IntWalk.wrap64_in _ (by omega)];omega
    have HP:=Lib.hid (fun(w1 w2:World) (hk1:aa af w w1)=>Oy (w:=w1) (w1:=w2) M (hC.keep hk1 (fun _ _ h=>h.elim)) hcl hfit hmax ho (by omega))
    have HO:=Lib.hid ho
    clear hC hcl hfit hmax e bZ hlen hh ke iZ ja hns hne fE hget ho h0 hkk nS f0 hf dS ht cy hk hset d3 d4 M hs1 hs2
    generalize(used d:Int)=us at *
    have aM:((nd d k).kind=2)∨((nd d k).kind≠2):=Classical.em _
    rcases aM with aM|aM
    case' inl=>simp only[aM,if_true]at HP;clear aM
    case' inr=>simp only[aM,if_false]at HP;generalize(nd d k).kind=kd at *
    all_goals
     go_enter Tryz.func129,Tryz.ntmps129
     go_wp2_with(first|(go_at_call 114;refine eB.mono ?_;rintro e w1 ⟨rfl,hk1⟩;obtain⟨l1,l2,l3⟩:=HL.out w1 hk1;have q2:=fun(n:Nat)=>(HL.out (w1.drewN n) (hk1.drewN n)).2.1;have q3:=fun(n:Nat)=>(HL.out (w1.drewN n) (hk1.drewN n)).2.2)|(go_quiet (fail))|(go_at_call 126;refine(uz.out _ (hk1.drewN _)).mono ?_;rintro e w2 ⟨rfl,hk2⟩;replace hk2:=(hk1.drewN _).trans hk2)|(go_at_call 108;refine(hput.out _ hk2).mono ?_;rintro e w3 ⟨rfl,s5⟩)|(go_at_call 69;refine(HP.out _ _ hk2 s5).mono ?_;rintro e w4 ⟨rfl,u1,u2,b,W,hW,m1,m2,qW⟩;have CG:=Lib.hid qW;clear qW;subst hW)|(go_at_call 109;refine CG.out.mono ?_;rintro e w5 ⟨rfl,n1,n2,n3,n4,n5,hend⟩;have gm:=Lib.hid (hend.2 HO.out);clear hend))
     go_ret
     exact⟨rfl,gm.out.after hk2⟩
end
set_option maxRecDepth 100000
set_option maxHeartbeats 1000000
def l5 (d:ag) (room:Int) (t:Int) (other name:ByteArray) (k:Int):Int :=
 match bk (nd d t).ah other with
 | some old=>if old=k then 0 else mZ d k old
 | none=>lZ d room t other name
open Classical in
noncomputable def jA (d:ag) (room:Int) (f:Int) (name:ByteArray) (t:Int) (other:ByteArray):Int :=
 if bH d f name≠0 then bH d f name else if aO d t≠0 then aO d t
 else if (nd d (aN d f name)).kind=2∧cU d (aN d f name) t then 23 else l5 d room t other name (aN d f name)
noncomputable def iJ (d:ag) (room:Int) (f:Int) (name:ByteArray) (t:Int) (other:ByteArray):ag :=
 if jA d room f name t other=0∧bk (nd d t).ah other≠some (aN d f name)then gc (bL d f name t other (aN d f name))else d
section
variable{R:RD} {w:World} {a:Nat} {d:ag} {room:Int}
theorem wh {f t:Int} {name other:ByteArray} (h:bH d f name≠0):jA d room f name t other=bH d f name:=by unfold jA;rw[if_pos h]
theorem wj {f t:Int} {name other:ByteArray} (h:bH d f name=0) (h2:aO d t≠0):jA d room f name t other=aO d t:=by
 unfold jA;rw[if_neg (by simpa using h),if_pos h2]
theorem wo {f t:Int} {name other:ByteArray} (h:bH d f name=0) (h2:aO d t=0) (h3:(nd d (aN d f name)).kind=2∧cU d (aN d f name) t):jA d room f name t other=23:=by
 unfold jA;rw[if_neg (by simpa using h),if_neg (by simpa using h2),if_pos h3]
theorem CH {f t:Int} {name other:ByteArray} (h:bH d f name=0) (h2:aO d t=0) (h3:¬((nd d (aN d f name)).kind=2∧cU d (aN d f name) t)):jA d room f name t other=l5 d room t other name (aN d f name):=by
 unfold jA;rw[if_neg (by simpa using h),if_neg (by simpa using h2),if_neg h3]
theorem qX {f t:Int} {name other:ByteArray} (h:jA d room f name t other≠0):iJ d room f name t other=d:=by unfold iJ;rw[if_neg (fun e=>h e.1)]
theorem OC (h:cK R w a d room) (f:Int) (name:ByteArray) (t:Int) (other:ByteArray) (hos:other.size<=4294967296) :
 Calls Tryz.prog 91 #[.pointer (some ⟨a,0,none⟩),.int .i64 f,.string name,.int .i64 t,.string other] w fun e w'=>e=.returned (.int .i64 (jA d room f name t other))∧dn R w a (iJ d room f name t other) room w':=by
 have H:=Lib.hid h
 obtain⟨⟨lk,up,hC⟩,hcl,hfit,hmax⟩:=h
 have hlen:=gx hC.small
 have eB:=y8 hC.rep f name (hlen f)
 by_cases c0:bH d f name=0
 case neg =>
  rw[qX (by rw[wh c0];exact c0),wh c0]
  clear hC hcl hfit hmax
  generalize bH d f name=er at *
  generalize aN d f name=k at *
  go_enter Tryz.func91,Tryz.ntmps91
  go_wp2_with(go_at_call 114;refine eB.mono ?_;rintro e w1 ⟨rfl,hk⟩)
  go_ret
  exact⟨rfl,H.out.same hk⟩
 case pos =>
 obtain⟨f0,hget⟩:=mI c0
 obtain⟨hf,dS⟩:=fD f0
 have hk:=(hC.inv.tgt f _ (dV hget)).1
 have hk1:=(hC.inv.tgt f _ (dV hget)).2
 have hF:=Lib.hid (fun(w1:World) (hk1:aa af w w1)=>vY (hC.rep.ai hk1) t)
 rw[c0]at eB
 by_cases c1:aO d t=0
 case neg =>
  rw[qX (by rw[wj c0 c1];exact c1),wj c0 c1]
  have hp:lf R (aO d t) t=.pointer none:=if_neg c1
  rw[hp]at hF
  clear hC hcl hfit hmax
  generalize aO d t=er at *
  generalize aN d f name=k at *
  go_enter Tryz.func91,Tryz.ntmps91
  go_wp2_with(first|(go_at_call 114;refine eB.mono ?_;rintro e w1 ⟨rfl,hk⟩)|(go_at_call 62;refine(hF.out _ hk).mono ?_;rintro e w2 ⟨rfl,rfl⟩))
  go_ret
  exact⟨rfl,H.out.same hk⟩
 case pos =>
 obtain⟨ht,cy⟩:=fD c1
 rw[c1]at hF
 have hp:lf R 0 t=.pointer (some ⟨R.g t,0,none⟩):=rfl
 rw[hp]at hF
 have HL:=Lib.hid (fun(w1:World) (hk1:aa af w w1)=>(⟨(hC.rep.ai hk1).l,(hC.rep.ai hk1).look (aN d f name),((hC.rep.ai hk1).node _ hk).kind⟩:_∧_∧_))
 unfold j7 at HL
 rw[if_pos hk]at HL
 have hG:=Lib.hid (fun(w1:World) (hk1:aa af w w1)=>BB (fun _=>True) w1 ⟨R.g t,5,none⟩ (R.ev t) (nd d t).ah other (((hC.rep.ai hk1).node t ht).dir.any (fun _ _=>trivial)) (by have:=hlen t;omega))
 have hB:=Lib.hid (fun(w1:World) (fK:aa af w w1)=>Oq (hC.keep fK (fun _ _ h=>h.elim)) rfl t (aN d f name) cy hk hk1)
 by_cases c2:(nd d (aN d f name)).kind=2∧cU d (aN d f name) t
 ·rw[qX (by rw[wo c0 c1 c2];decide),wo c0 c1 c2]
  have kf:Hid (∀(w1:World),aa af w w1->Calls Tryz.prog 127 #[.pointer (some ⟨a,0,none⟩),.int .i64 t,.int .i64 (aN d f name)] w1 fun e w'=>e=.returned (.bool true)∧w1=w'):=fun w1 fK=>by
   refine(hB.out w1 fK).mono ?_
   rintro e w' ⟨b,rfl,hb,rfl⟩
   rw[hb.2 c2.2]
   exact⟨rfl,rfl⟩
  rw[c2.1]at HL
  clear hC hcl hfit hmax hB hget c0 f0 hk hk1 c2
  generalize aN d f name=k at *
  generalize bk (nd d t).ah other=og at *
  cases og
  all_goals
   go_enter Tryz.func91,Tryz.ntmps91
   go_wp2_with(first|(go_at_call 114;refine eB.mono ?_;rintro e w1 ⟨rfl,hk1⟩;obtain⟨l1,l2,l3⟩:=HL.out w1 hk1)|(go_at_call 62;refine(hF.out _ hk1).mono ?_;rintro e w2 ⟨rfl,rfl⟩)|(go_at_call 126;refine(hG.out _ hk1).mono ?_;rintro e w2 ⟨rfl,hk2⟩;replace hk2:=hk1.trans hk2;obtain⟨m1,m2,m3⟩:=HL.out w2 hk2)|(go_at_call 127;refine(kf.out _ hk2).mono ?_;rintro e w3 ⟨rfl,rfl⟩))
   go_ret
   exact⟨rfl,H.out.same hk2⟩
 ·have kf:Hid ((nd d (aN d f name)).kind=2->∀(w1:World),aa af w w1->Calls Tryz.prog 127 #[.pointer (some ⟨a,0,none⟩),.int .i64 t,.int .i64 (aN d f name)] w1 fun e w'=>e=.returned (.bool false)∧w1=w'):=fun h2 w1 fK=>by
   refine(hB.out w1 fK).mono ?_
   rintro e w' ⟨b,rfl,hb,rfl⟩
   cases b with
   | false=>exact⟨rfl,rfl⟩
   | true=>exact absurd ⟨h2,hb.1 rfl⟩ c2
  have e2:=CH (room:=room) (other:=other) c0 c1 c2
  have fE:(nd d (aN d f name)).kind=2->¬cU d (aN d f name) t:=fun h2 ha=>c2 ⟨h2,ha⟩
  have zi:=Lib.hid (fun(w1:World) (hk1:aa af w w1) (o:Int)=>(hC.rep.ai hk1).look o)
  have zj:=Lib.hid (fun(w1:World) (hk1:aa af w w1) (o:Int) (ho:has d o)=>Ol (hC.rep.ai hk1) hC.inv (aN d f name) o hk ho)
  have nT:=Lib.hid (fun(w1:World) (hk1:aa af w w1) (hne:bk (nd d t).ah other≠some (aN d f name))=>OA (H.out.ai hk1) f name t other (aN d f name) c0 rfl c1 fE hne hos)
  have hD:iJ d room f name t other=if l5 d room t other name (aN d f name)=0∧bk (nd d t).ah other≠some (aN d f name)then gc (bL d f name t other (aN d f name))else d:=by unfold iJ;rw[e2]
  rw[hD,e2]
  have aM:((nd d (aN d f name)).kind=2)∨((nd d (aN d f name)).kind==2)=false:=by
   by_cases h:(nd d (aN d f name)).kind=2
   ·exact .inl h
   ·exact .inr (by simpa using h)
  cases ho:bk (nd d t).ah other with
  | none =>
    rw[ho]at hG nT
    replace nT:=Lib.hid (fun(w1:World) (hk1:aa af w w1)=>nT.out w1 hk1 (fun h=>by cases h))
    unfold zh at nT
    have hE:l5 d room t other name (aN d f name)=lZ d room t other name:=by unfold l5;rw[ho]
    simp only[hE,ne_eq,reduceCtorEq,not_false_eq_true,and_true]
    clear hE
    clear hC hcl hfit hmax hB hget c0 f0 hk hk1 c2 hD e2 fE zj zi dS cy ho hf hlen
    generalize lZ d room t other name=me at *
    generalize(if me=0 then gc (bL d f name t other (aN d f name))else d)=d2 at *
    generalize aN d f name=k at *
    rcases aM with aM|aM
    case' inl=>rw[aM]at HL;replace kf:=Lib.hid (kf.out aM);clear aM
    case' inr=>clear kf;generalize(nd d k).kind=kd at *
    all_goals
     go_enter Tryz.func91,Tryz.ntmps91
     go_wp2_with(first|(go_at_call 114;refine eB.mono ?_;rintro e w1 ⟨rfl,hk1⟩;obtain⟨l1,l2,l3⟩:=HL.out w1 hk1)|(go_at_call 62;refine(hF.out _ hk1).mono ?_;rintro e w2 ⟨rfl,rfl⟩)|(go_at_call 126;refine(hG.out _ hk1).mono ?_;rintro e w2 ⟨rfl,hk2⟩;replace hk2:=hk1.trans hk2;obtain⟨m1,m2,m3⟩:=HL.out w2 hk2)|(go_at_call 127;refine(kf.out _ hk2).mono ?_;rintro e w3 ⟨rfl,rfl⟩)|(go_at_call 129;refine(nT.out _ hk2).mono ?_;rintro e w3 ⟨rfl,hend⟩))
     go_ret
     exact⟨rfl,hend.after hk2⟩
  | some old =>
    have hold:=(hC.inv.tgt t _ (dV ho)).1
    rw[ho]at hG nT
    by_cases c3:old=aN d f name
    ·subst c3
     have hE:l5 d room t other name (aN d f name)=0:=by unfold l5;rw[ho];exact if_pos rfl
     simp only[hE,ne_eq,not_true_eq_false,and_false,if_false]
     clear hE
     clear hC hcl hfit hmax hB hget c0 f0 hk hk1 c2 hD e2 fE zj zi dS cy ho hf hlen nT hold
     generalize aN d f name=k at *
     rcases aM with aM|aM
     case' inl=>rw[aM]at HL;replace kf:=Lib.hid (kf.out aM);clear aM
     case' inr=>clear kf;generalize(nd d k).kind=kd at *
     all_goals
      go_enter Tryz.func91,Tryz.ntmps91
      go_wp2_with(first|(go_at_call 114;refine eB.mono ?_;rintro e w1 ⟨rfl,hk1⟩;obtain⟨l1,l2,l3⟩:=HL.out w1 hk1)|(go_at_call 62;refine(hF.out _ hk1).mono ?_;rintro e w2 ⟨rfl,rfl⟩)|(go_at_call 126;refine(hG.out _ hk1).mono ?_;rintro e w2 ⟨rfl,hk2⟩;replace hk2:=hk1.trans hk2;obtain⟨m1,m2,m3⟩:=HL.out w2 hk2)|(go_at_call 127;refine(kf.out _ hk2).mono ?_;rintro e w3 ⟨rfl,rfl⟩))
      go_ret
      exact⟨rfl,H.out.same hk2⟩
    ·have hE:l5 d room t other name (aN d f name)=mZ d (aN d f name) old:=by unfold l5;rw[ho];exact if_neg c3
     simp only[hE]
     clear hE
     have oY:(old==aN d f name)=false:=by simpa using c3
     have zm:=Lib.hid (fun(w1:World) (hk1:aa af w w1)=>zi.out w1 hk1 old)
     unfold j7 at zm
     rw[if_pos hold]at zm
     have CI:=Lib.hid (fun(w1:World) (hk1:aa af w w1)=>zj.out w1 hk1 old hold)
     replace nT:=Lib.hid (fun(w1:World) (hk1:aa af w w1)=>nT.out w1 hk1 (fun h=>c3 (by cases h;rfl)))
     have hme:lZ d room t other name=0:=if_pos (kX ho)
     unfold zh at nT
     rw[hme,if_pos rfl]at nT
     have hne:(some old≠some (aN d f name))=True:=by simp[c3]
     simp only[hne,and_true]
     clear hC hcl hfit hmax hB hget c0 f0 hk hk1 c2 hD e2 fE zj zi dS cy ho hf hlen hold c3 hme hne
     by_cases c4:mZ d (aN d f name) old=0
     case neg =>
      rw[if_neg c4]
      clear nT
      generalize mZ d (aN d f name) old=ge at *
      generalize aN d f name=k at *
      rcases aM with aM|aM
      case' inl=>rw[aM]at HL;replace kf:=Lib.hid (kf.out aM);clear aM
      case' inr=>clear kf;generalize(nd d k).kind=kd at *
      all_goals
       go_enter Tryz.func91,Tryz.ntmps91
       go_wp2_with(first|(go_at_call 114;refine eB.mono ?_;rintro e w1 ⟨rfl,hk1⟩;obtain⟨l1,l2,l3⟩:=HL.out w1 hk1)|(go_at_call 62;refine(hF.out _ hk1).mono ?_;rintro e w2 ⟨rfl,rfl⟩)|(go_at_call 126;refine(hG.out _ hk1).mono ?_;rintro e w2 ⟨rfl,hk2⟩;replace hk2:=hk1.trans hk2;obtain⟨m1,m2,m3⟩:=HL.out w2 hk2;have m4:=zm.out w2 hk2)|(go_at_call 127;refine(kf.out _ hk2).mono ?_;rintro e w3 ⟨rfl,rfl⟩)|(go_at_call 128;refine(CI.out _ hk2).mono ?_;rintro e w3 ⟨rfl,rfl⟩))
       go_ret
       exact⟨rfl,H.out.same hk2⟩
     case pos =>
      rw[if_pos c4,c4]
      rw[c4]at CI
      generalize gc (bL d f name t other (aN d f name))=d2 at *
      generalize aN d f name=k at *
      rcases aM with aM|aM
      case' inl=>rw[aM]at HL;replace kf:=Lib.hid (kf.out aM);clear aM
      case' inr=>clear kf;generalize(nd d k).kind=kd at *
      all_goals
       go_enter Tryz.func91,Tryz.ntmps91
       go_wp2_with(first|(go_at_call 114;refine eB.mono ?_;rintro e w1 ⟨rfl,hk1⟩;obtain⟨l1,l2,l3⟩:=HL.out w1 hk1)|(go_at_call 62;refine(hF.out _ hk1).mono ?_;rintro e w2 ⟨rfl,rfl⟩)|(go_at_call 126;refine(hG.out _ hk1).mono ?_;rintro e w2 ⟨rfl,hk2⟩;replace hk2:=hk1.trans hk2;obtain⟨m1,m2,m3⟩:=HL.out w2 hk2;have m4:=zm.out w2 hk2)|(go_at_call 127;refine(kf.out _ hk2).mono ?_;rintro e w3 ⟨rfl,rfl⟩)|(go_at_call 128;refine(CI.out _ hk2).mono ?_;rintro e w3 ⟨rfl,rfl⟩)|(go_at_call 129;refine(nT.out _ hk2).mono ?_;rintro e w3 ⟨rfl,hend⟩))
       go_ret
       exact⟨rfl,hend.after hk2⟩
end
structure jH where
 kind:Int
 mode:Int
 holds:Int
 data:ByteArray
 p:Option Addr
 n:Nat
 c:Nat
def pK:hU jH where
 enc:=fun r=>[.int .i64 r.kind,.int .i64 r.mode,.int .i64 r.holds,.string r.data,.slice r.p r.n r.c]
 k:=5
 pos:=by decide
 len:=fun _=>rfl
 one:=fun x v hv=>by simp at hv;rcases hv with rfl|rfl|rfl|rfl|rfl<;>rfl
structure xB (S:Nat->Prop) (w:World) (r:jH) (x:Nd):Prop where
 kind:r.kind=x.kind
 mode:r.mode=x.mode
 holds:r.holds=x.holds
 data:r.data=x.data
 n:r.n=x.ah.length
 ah:bt aK S w r.p r.c x.ah
structure aI (S:Nat->Prop) (w:World) (p:Option Addr) (c:Nat) (d:ag):Prop where
 rows:∃rows:List jH,rows.length=d.length∧bt pK S w p c rows∧∀(i:Nat) (r:jH),rows[i]?=some r->xB S w r (nd d i)
def aE (p:Option Addr) (c:Nat) (d:ag) (room:Int):Value:=.agg #[.slice p d.length c,.int .i64 room]
def sD (S:Nat->Prop) (w:World) (v:Value) (d:ag) (room:Int):Prop:=∃p c,v=aE p c d room∧aI S w p c d
section
variable{S:Nat->Prop} {w w':World} {p:Option Addr} {c:Nat} {d:ag} {room:Int} {v:Value}
theorem xB.cN {S' F:Nat->Prop} {r:jH} {x:Nd} (h:xB S w r x) (k:aa F w w') (hF:∀g,S g->g<w.heap.size->¬F g) (hS:∀g,S g->g<w.heap.size->S' g):xB S' w' r x :=
 ⟨h.kind,h.mode,h.holds,h.data,h.n,h.ah.cN k hF hS⟩
theorem aI.cN {S' F:Nat->Prop} (h:aI S w p c d) (k:aa F w w') (hF:∀g,S g->g<w.heap.size->¬F g) (hS:∀g,S g->g<w.heap.size->S' g):aI S' w' p c d:=by
 obtain⟨rows,h1,h2,h3⟩:=h.rows
 exact⟨rows,h1,h2.cN k hF hS,fun i r hi=>(h3 i r hi).cN k hF hS⟩
theorem aI.ai (h:aI S w p c d) (k:aa af w w'):aI S w' p c d:=h.cN k (fun _ _ _ h=>h) (fun _ h _=>h)
theorem sD.cN {S' F:Nat->Prop} (h:sD S w v d room) (k:aa F w w') (hF:∀g,S g->g<w.heap.size->¬F g) (hS:∀g,S g->g<w.heap.size->S' g):sD S' w' v d room:=by
 obtain⟨p,c,rfl,h⟩:=h
 exact⟨p,c,rfl,h.cN k hF hS⟩
theorem sD.ai (h:sD S w v d room) (k:aa af w w'):sD S w' v d room:=h.cN k (fun _ _ _ h=>h) (fun _ h _=>h)
theorem aI.row (h:aI S w p c d) {i:Nat} (hi:i<d.length) :
 ∃g off q n m,p=some ⟨g,off,none⟩∧S g∧g<w.heap.size∧w.cell? ⟨g,off+i*5,none⟩=some (.int .i64 (nd d i).kind)∧w.cell? ⟨g,off+i*5+1,none⟩=some (.int .i64 (nd d i).mode) ∧
  w.cell? ⟨g,off+i*5+2,none⟩=some (.int .i64 (nd d i).holds)∧w.cell? ⟨g,off+i*5+3,none⟩=some (.string (nd d i).data)∧w.cell? ⟨g,off+i*5+4,none⟩=some (.slice q n m) ∧
  n=(nd d i).ah.length∧bt aK S w q m (nd d i).ah:=by
 obtain⟨rows,h1,h2,h3⟩:=h.rows
 obtain⟨r,hr⟩:∃r,rows[i]?=some r:=⟨_,List.getElem?_eq_getElem (by omega)⟩
 have hR:=h3 i r hr
 obtain⟨g,off,hp,hS,hg,hc⟩:=h2.at hr
 refine⟨g,off,r.p,r.n,r.c,hp,hS,hg,?_,?_,?_,?_,?_,hR.n,hR.ah⟩
 ·have:=hc 0 _ rfl;rw[hR.kind]at this;exact this
 ·have:=hc 1 _ rfl;rw[hR.mode,<- Nat.add_assoc]at this;exact this
 ·have:=hc 2 _ rfl;rw[hR.holds,<- Nat.add_assoc]at this;exact this
 ·have:=hc 3 _ rfl;rw[hR.data,<- Nat.add_assoc]at this;exact this
 ·have:=hc 4 _ rfl;rw[<- Nat.add_assoc]at this;exact this
theorem aI.cap (h:aI S w p c d):d.length<=c:=by
 obtain⟨rows,h1,h2,h3⟩:=h.rows
 have:=h2.cap
 omega
theorem aI.max (h:aI S w p c d):c<=maxLen:=by
 obtain⟨rows,h1,h2,h3⟩:=h.rows
 exact h2.max
end
set_option maxRecDepth 100000
set_option maxHeartbeats 2000000
section
variable{S:Nat->Prop} {w:World} {p:Option Addr} {c:Nat} {d:ag} {room:Int}
theorem rA (h:aI S w p c d) (hz:nd d 0=Nd.gone) (i:Int) :
 Calls Tryz.prog 30 #[aE p c d room,.int .i64 i] w fun e w'=>e=.returned (.bool (decide (has d i)))∧aa af w w':=by
 unfold aE
 by_cases h1:i<1
 ·have hno:¬has d i:=fun hh=>by
   have:=bF hh
   have h0:i=0:=by omega
   subst h0
   unfold has at hh;rw[hz]at hh;exact hh rfl
  rw[decide_eq_false hno]
  go_enter Tryz.func30,Tryz.ntmps30
  go_wp2
  go_ret
  exact⟨rfl,(aa.refl _ _).alloc _⟩
 by_cases h2:(d.length:Int)<=i
 ·have hno:¬has d i:=fun hh=>by have:=bF hh;omega
  rw[decide_eq_false hno]
  go_enter Tryz.func30,Tryz.ntmps30
  go_wp2
  go_ret
  exact⟨rfl,(aa.refl _ _).alloc _⟩
 obtain⟨k,rfl⟩:∃k:Nat,i=(k:Int):=⟨i.toNat,by omega⟩
 have hk:k<d.length:=by omega
 obtain⟨g,off,q,n,m,rfl,hS,hg,c0,c1,c2,c3,c4,hn,hsl⟩:=h.row hk
 have hcap:=h.cap
 have hmax:=h.max
 unfold maxLen at hmax
 have e:decide (has d (k:Int))=((nd d k).kind != 0):=by
  unfold has
  by_cases hh:(nd d k).kind=0
  ·simp[hh]
  ·simp[hh]
 rw[e]
 clear h e c1 c2 c3 c4 hsl hn hz
 generalize(nd d k).kind=kd at *
 go_enter Tryz.func30,Tryz.ntmps30
 go_wp2
 go_ret
 exact⟨rfl,(aa.refl _ _).alloc _⟩
theorem AR (f:Nd->Nat) (d:ag) (k:Nat) (hk:k<d.length):cu f (d.take (k+1))=cu f (d.take k)+f (nd d k):=by
 have hg:d[k]?=some (nd d k):=by have:=sU (d:=d) (i:=k) (by omega) (by omega);simpa using this
 rw[List.take_add_one,hg]
 simp only[Option.toList,uk]
theorem ET (f:Nd->Nat) (d:ag) (k:Nat):cu f (d.take k)<=cu f d:=by
 have:cu f d=cu f (d.take k)+cu f (d.drop k):=by
  unfold cu
  rw[<- List.sum_append_nat,<- List.map_append,List.take_append_drop]
 omega
theorem LH (es:List aD) (i:Int) (k:Nat) (x:aD) (h:es[k]?=some x):gi i (es.take (k+1))=gi i (es.take k)+if x.2=i then 1 else 0:=by
 unfold gi
 rw[List.take_add_one,h]
 simp[List.countP_append,List.countP_cons]
theorem TZ (es:List aD) (k:Nat):cQ (es.take k)<=cQ es:=by
 have:cQ es=cQ (es.take k)+cQ (es.drop k):=by
  unfold cQ
  rw[<- List.sum_append_nat,<- List.map_append,List.take_append_drop]
 omega
theorem T9 (es:List aD) (i:Int):gi i es<=es.length:=List.countP_le_length
theorem Ua (d:ag) (i:Int):cnt d i<=aH d:=by
 induction d with
 | nil=>simp[cnt,cu]
 | cons a d ih =>
   simp only[cnt,aH,cu,List.map_cons,List.sum_cons]at ih ⊢
   have:eY i a<=bJ a:=by
    unfold eY bJ
    have:=List.countP_le_length (p:=fun e:aD=>decide (e.2=i)) (l:=a.ah)
    omega
   omega
theorem EU (hz:nd d 0=Nd.gone) (h2:1<=d.length) (f:Nd->Nat) (hf:f Nd.gone=0):cu f (d.take 1)=0:=by
 have:=AR f d 0 (by omega)
 rw[show cu f (d.take 0)=0 from rfl]at this
 rw[this]
 show 0+f (nd d 0)=0
 rw[hz,hf]
theorem DA (h:aI S w p c d) (hz:nd d 0=Nd.gone) (h2:1<=d.length) (hs:aP d) (i:Int) :
 Calls Tryz.prog 31 #[aE p c d room,.int .i64 i] w fun e w'=>e=.returned (.int .i64 (links d i))∧aa af w w':=by
 have hcap:=h.cap
 have hmax:=h.max
 unfold maxLen at hmax
 have hs0:=hs
 unfold aP at hs
 have hcm:=Ua d i
 have hlen:=jm d
 have h0:=EU hz h2 (eY i) rfl
 unfold aE
 obtain⟨n0,hl,hn0⟩:∃n0:Nat,links d i=n0+cnt d i∧(((i==1)=true∧n0=1)∨((i==1)=false∧n0=0)):=by
  unfold links
  by_cases h1:i=1
  ·exact⟨1,by rw[if_pos h1],.inl ⟨by simpa using h1,rfl⟩⟩
  ·exact⟨0,by rw[if_neg h1],.inr ⟨by simpa using h1,rfl⟩⟩
 rw[hl]
 have hn1:n0<=1:=by omega
 have H0:=Lib.hid h0
 have Ub:=Lib.hid hcm
 have Uc:=Lib.hid hlen
 clear hl hz h0 hcm hlen
 have key:∀(k:Nat),k<d.length->∃g off q n m,p=some ⟨g,off,none⟩∧g<w.heap.size∧w.cell? ⟨g,off+k*5+4,none⟩=some (.slice q n m)∧n=(nd d k).ah.length∧bt aK S w q m (nd d k).ah ∧
  cu (eY i) (d.take (k+1))=cu (eY i) (d.take k)+gi i (nd d k).ah∧cu (eY i) (d.take (k+1))<=cnt d i∧(nd d k).ah.length<4294967295:=fun k hk=>by
  obtain⟨g,off,q,n,m,hp,_,hg,_,_,_,_,c4,hn,hsl⟩:=h.row hk
  exact⟨g,off,q,n,m,hp,hg,c4,hn,hsl,AR _ _ _ hk,ET _ _ _,gx hs0 k⟩
 have Hk:=Lib.hid key
 clear key h hs0
 rcases hn0 with⟨h1,hn0⟩|⟨h1,hn0⟩
 all_goals
  go_enter Tryz.func31,Tryz.ntmps31
  have Ud:=Lib.hid hn0
  clear hn0
  go_wp2
  clear h1
  go_loop [5,6] (fun s x=>∃k:Nat,1<=k∧k<=d.length∧x=.int .i64 k∧s=.int .i64 ((n0+cu (eY i) (d.take k):Nat):Int)) (fun _ x=>d.length-(intOf x).toNat)
  case atStart=>exact⟨1,Nat.le_refl _,h2,rfl,by rw[H0.out,Ud.out];rfl⟩
  case round =>
   obtain⟨k,hk1,hk2,rfl,rfl⟩:=hrel
   by_cases hlt:k<d.length
   ·obtain⟨g,off,q,n,m,rfl,hg,c4,hn,hsl,hs1,hs2,hel⟩:=Hk.out k hlt
    have vo:=Lib.hid hs1
    have Hn:=Lib.hid hn
    have hb1:cu (eY i) (d.take (k+1))<=2147483648:=by have:=Ub.out;omega
    rw[hs1]at hb1
    clear hs1 hs2
    subst hn
    clear Hn Hk
    generalize(nd d k).ah=es at *
    generalize cu (eY i) (d.take k)=A at *
    go_wp2
    go_loop [5,7] (fun s x=>∃t:Nat,t<=es.length∧x=.int .i64 t∧s=.int .i64 ((n0+(A+gi i (es.take t)):Nat):Int)) (fun _ x=>es.length-(intOf x).toNat)
    case atStart=>exact⟨0,Nat.zero_le _,rfl,by simp[gi]⟩
    case round =>
     obtain⟨t,ht,rfl,rfl⟩:=hrel
     by_cases pU:t<es.length
     ·obtain⟨x,hx⟩:∃x,es[t]?=some x:=⟨_,List.getElem?_eq_getElem pU⟩
      obtain⟨g2,off2,rfl,_,gR,e0,e1⟩:=hsl.iW hx
      have Hx:=Lib.hid (LH es i t x hx)
      have hle:=T9 (es.take t) i
      have u6:=hsl.cap
      have m9:=hsl.max
      unfold maxLen at m9
      rw[List.length_take]at hle
      clear hx
      by_cases he:x.2=i
      ·have hb:(x.2==i)=true:=by simpa using he
       have He:=Lib.hid he
       clear he
       go_wp2
       go_round
       case rel=>exact⟨t+1,by omega,by go_num,by rw[Hx.out,if_pos He.out];go_num⟩
       case measure=>simp[intOf];omega
      ·have hb:(x.2==i)=false:=by simpa using he
       have He:=Lib.hid he
       clear he
       go_wp2
       go_round
       case rel=>exact⟨t+1,by omega,by go_num,by rw[Hx.out,if_neg He.out];rfl⟩
       case measure=>simp[intOf];omega
     ·obtain rfl:t=es.length:=by omega
      rw[List.take_length]
      go_wp2
      go_round
      case rel=>exact⟨k+1,by omega,by omega,by go_num,by rw[vo.out]⟩
      case measure=>simp[intOf];omega
   ·obtain rfl:k=d.length:=by omega
    rw[List.take_length]
    go_wp2
    go_ret
    exact⟨rfl,(aa.refl _ _).alloc _⟩
theorem rD (h:aI S w p c d) (hz:nd d 0=Nd.gone) (h2:1<=d.length) (hI:aG d) (hs:aP d) :
 Calls Tryz.prog 26 #[aE p c d room] w fun e w'=>e=.returned (.int .i64 (used d))∧aa af w w':=by
 have hcap:=h.cap
 have hmax:=h.max
 unfold maxLen at hmax
 have bZ:=lg hI hs
 have hlen:=jm d
 have h0:=EU hz h2 dU rfl
 have hs0:=hs
 unfold aP at hs
 unfold aE
 have key:∀(k:Nat),k<d.length->∃g off q n m,p=some ⟨g,off,none⟩∧g<w.heap.size∧w.cell? ⟨g,off+k*5+3,none⟩=some (.string (nd d k).data)∧w.cell? ⟨g,off+k*5+4,none⟩=some (.slice q n m)∧n=(nd d k).ah.length∧bt aK S w q m (nd d k).ah ∧
  cu dU (d.take (k+1))=cu dU (d.take k)+((nd d k).data.size+cQ (nd d k).ah)∧cu dU (d.take (k+1))<=used d∧(nd d k).ah.length<4294967295:=fun k hk=>by
  obtain⟨g,off,q,n,m,hp,_,hg,_,_,_,c3,c4,hn,hsl⟩:=h.row hk
  exact⟨g,off,q,n,m,hp,hg,c3,c4,hn,hsl,AR _ _ _ hk,ET _ _ _,gx hs0 k⟩
 have Hk:=Lib.hid key
 have H0:=Lib.hid h0
 have Ue:=Lib.hid bZ
 have Uc:=Lib.hid hlen
 clear key h hz h0 bZ hlen hs0 hI
 go_enter Tryz.func26,Tryz.ntmps26
 go_wp2
 go_loop [3,4] (fun s x=>∃k:Nat,1<=k∧k<=d.length∧x=.int .i64 k∧s=.int .i64 ((cu dU (d.take k):Nat):Int)) (fun _ x=>d.length-(intOf x).toNat)
 case atStart=>exact⟨1,Nat.le_refl _,h2,rfl,by rw[H0.out];rfl⟩
 case round =>
  obtain⟨k,hk1,hk2,rfl,rfl⟩:=hrel
  by_cases hlt:k<d.length
  ·obtain⟨g,off,q,n,m,rfl,hg,c3,c4,hn,hsl,hs1,hs2,hel⟩:=Hk.out k hlt
   have vo:=Lib.hid hs1
   have hb1:((cu dU (d.take (k+1)):Nat):Int)<=9007199254740992:=by have:=Ue.out;omega
   rw[hs1]at hb1
   clear hs1 hs2
   subst hn
   clear Hk
   generalize(nd d k).ah=es at *
   generalize(nd d k).data=dt at *
   generalize cu dU (d.take k)=A at *
   go_wp2
   go_loop [3,5] (fun s x=>∃t:Nat,t<=es.length∧x=.int .i64 t∧s=.int .i64 ((A+(dt.size+cQ (es.take t)):Nat):Int)) (fun _ x=>es.length-(intOf x).toNat)
   case atStart=>exact⟨0,Nat.zero_le _,rfl,by simp[cQ]⟩
   case round =>
    obtain⟨t,ht,rfl,rfl⟩:=hrel
    by_cases pU:t<es.length
    ·obtain⟨x,hx⟩:∃x,es[t]?=some x:=⟨_,List.getElem?_eq_getElem pU⟩
     obtain⟨g2,off2,rfl,_,gR,e0,e1⟩:=hsl.iW hx
     have hx1:=Gc es t x hx
     have hle:=TZ es (t+1)
     have u6:=hsl.cap
     have m9:=hsl.max
     unfold maxLen at m9
     rw[hx1]at hle
     have Hx:=Lib.hid hx1
     clear hx hx1
     go_wp2
     go_round
     case rel=>exact⟨t+1,by omega,by go_num,by rw[Hx.out];go_num⟩
     case measure=>simp[intOf];omega
    ·obtain rfl:t=es.length:=by omega
     rw[List.take_length]
     go_wp2
     go_round
     case rel=>exact⟨k+1,by omega,by omega,by go_num,by rw[vo.out]⟩
     case measure=>simp[intOf];omega
  ·obtain rfl:k=d.length:=by omega
   rw[List.take_length]
   go_wp2
   go_ret
   exact⟨rfl,(aa.refl _ _).alloc _⟩
theorem Uf (d:ag):count d<=d.length:=by
 induction d with
 | nil=>simp[count,cu]
 | cons a d ih =>
   simp only[count,cu,List.map_cons,List.sum_cons,List.length_cons]at ih ⊢
   have:iX a<=1:=by unfold iX;split<;>omega
   omega
theorem Lx (h:aI S w p c d) (hz:nd d 0=Nd.gone) (h2:1<=d.length) (hs:aP d) :
 Calls Tryz.prog 152 #[aE p c d room] w fun e w'=>e=.returned (.int .i64 (count d))∧aa af w w':=by
 have hcap:=h.cap
 have hmax:=h.max
 unfold maxLen at hmax
 have hlen:=jm d
 have h0:=EU hz h2 iX rfl
 unfold aP at hs
 have hcl:=Uf d
 have Hh:=Lib.hid (fun(wx:World) (hk:aa af w wx) (k:Nat)=>rA (room:=room) (h.ai hk) hz (k:Int))
 have Hs:=Lib.hid (fun(k:Nat) (hk:k<d.length)=>(⟨AR iX d k hk,ET iX d (k+1)⟩:_∧_))
 have H0:=Lib.hid h0
 have Hl:=Lib.hid hlen
 clear h hz h0 hlen
 unfold aE at *
 go_enter Tryz.func152,Tryz.ntmps152
 go_wp2
 go_loopw [3,4] (fun s x wr=>∃k:Nat,1<=k∧k<=d.length∧x=.int .i64 k∧s=.int .i64 ((cu iX (d.take k):Nat):Int)∧aa af (w.alloc (.cells #[.slice p d.length c,.int .i64 room] 37)) wr) (fun _ x _=>d.length-(intOf x).toNat)
 case atStart=>exact⟨1,Nat.le_refl _,h2,rfl,by rw[H0.out];rfl,aa.refl _ _⟩
 case round =>
  rename_i wr
  obtain⟨k,hk1,hk2,rfl,rfl,hkp⟩:=hrel
  have cV:=Lib.hid hkp
  have vr:=Lib.hid (((aa.refl af w).alloc (.cells #[.slice p d.length c,.int .i64 room] 37)).trans hkp)
  have b0:wr.cell? ⟨w.heap.size,0,none⟩=some (.slice p d.length c):=(hkp.cell (p:=⟨w.heap.size,0,none⟩) (by simp) (fun h=>h)).trans (cell_of_row _ _ _ _ _ (0,0) (heap_alloc_new w _))
  have b1:wr.cell? ⟨w.heap.size,1,none⟩=some (.int .i64 room):=(hkp.cell (p:=⟨w.heap.size,1,none⟩) (by simp) (fun h=>h)).trans (cell_of_row _ _ _ _ _ (0,0) (heap_alloc_new w _))
  clear hkp
  by_cases hlt:k<d.length
  ·obtain⟨hs1,hs2⟩:=Hs.out k hlt
   have vo:=Lib.hid hs1
   have hb1:cu iX (d.take (k+1))<=2147483648:=by have:=Hl.out;have:cu iX (d.take (k+1))<=d.length:=Nat.le_trans hs2 hcl;omega
   rw[hs1]at hb1
   clear hs1 hs2
   have hh:=Hh.out wr vr.out k
   by_cases he:has d (k:Int)
   ·have e1:iX (nd d (k:Int))=1:=if_neg he
    rw[decide_eq_true he]at hh
    rw[e1]at hb1
    have HH:=Lib.hid hh
    have E1:=Lib.hid e1
    clear hh e1
    go_wp2_with(go_at_call 30;refine HH.out.mono ?_;rintro e w2 ⟨rfl,hk2⟩)
    go_roundw
    case rel=>exact⟨k+1,by omega,by omega,by go_num,by rw[vo.out,E1.out];go_num,cV.out.trans hk2⟩
    case measure=>simp[intOf];omega
   ·have e1:iX (nd d (k:Int))=0:=if_pos (j8 he)
    rw[decide_eq_false he]at hh
    rw[e1]at hb1
    have HH:=Lib.hid hh
    have E1:=Lib.hid e1
    clear hh e1
    go_wp2_with(go_at_call 30;refine HH.out.mono ?_;rintro e w2 ⟨rfl,hk2⟩)
    go_roundw
    case rel=>exact⟨k+1,by omega,by omega,by go_num,by rw[vo.out,E1.out];rfl,cV.out.trans hk2⟩
    case measure=>simp[intOf];omega
  ·obtain rfl:k=d.length:=by omega
   rw[List.take_length]
   go_wp2
   go_ret
   exact⟨rfl,vr.out⟩
end
set_option maxRecDepth 100000
set_option maxHeartbeats 1000000
def qp (d:ag) (i x:Int) (s:ByteArray):Nat:=max (nd d i).data.size (x.toNat+s.size)
def iK (d:ag) (room i x:Int) (s:ByteArray):Int :=
 if dM d i≠0 then dM d i else if x<0 then 10 else if s.size=0 then 0 else if 4194304<x then 18 else if 4194304-x<s.size then 18 else if room-used d<qp d i x s-(nd d i).data.size then 20 else 0
def iw (n:Nd) (x:Nat) (s:ByteArray):Nd:=n.dN (over (n.data++cX (max n.data.size (x+s.size)-n.data.size)) x s)
def iy (d:ag) (room i x:Int) (s:ByteArray):ag:=if iK d room i x s=0∧s.size≠0 then aX d i (iw (nd d i) x.toNat s)else d
theorem O2 {P:Program} {ops:Array Oper} {o:Oper} {a:Act} {w:World} {K:Act->World->Prop} {Q:Exit->Act->World->Prop} {E:Prop}
 (hg:o.guard=none) (s x:Operand) (t tn:TypeId) (hop:o.op=Op.call { callee:=Callee.builtin Builtin.append,args:=#[s,x],argTypes:=#[t,tn] })
 {vs vx v':Value} {w':World} (hr:(Builtin.append_ #[t,tn] o.type #[vs,vx]).run P w=.ok v' w') (hs:a.eval s=vs) (hx:a.eval x=vx)
 (hK:K (a.put o.dst v') w'):if Region.wanted o (yielded ops a.tmps)=true then Oper.wp P o a w K Q else E:=by
 have hw:Region.wanted o (yielded ops a.tmps)=true:=by simp[Region.wanted,hg]
 rw[if_pos hw]
 unfold Oper.wp
 simp[execOp,hop,resolve,invoke,builtin,hs,hx,hr,Result.andThen]
 exact hK
section
variable{R:RD} {w:World} {a:Nat} {d:ag} {room:Int}
theorem O3 {d:ag} {i:Int} (hi:has d i) (n:Nd):nd (aX d i n) i=n:=by
 have hr:=bF hi
 rw[gu hr.1 hr.2,if_pos rfl]
theorem O4 {d:ag} {i:Int} (hi:has d i) {n:Nd} (hn:n.kind≠0) (m:Nd):aX (aX d i n) i m=aX d i m:=by
 have hr:=bF hi
 have hi2:has (aX d i n) i:=(mC hi hn i).2 hi
 have hr2:=bF hi2
 apply List.ext_getElem?
 intro j
 unfold aX
 rw[if_pos hr.1,if_pos hr.1,if_pos hr.1,List.set_set]
theorem O5 {lk up:Int->Int} {iY:Int} {w1 w2 w4:World} {i:Int} {v:Value} {x:Nat} {s:ByteArray} (hC:dF R w a d room lk up zp) (hcl:bK d) (hi:has d i) (hk1:(nd d i).kind=1) (hmax:room<=9223372036854775807)
 (hx:x+s.size<=4194304) (h0:0<s.size) (gL:iY=((used (aX d i (iw (nd d i) x s)):Nat):Int)) (hfit:iY<=room)
 (bE:aS R w1 a d room iY lk up) (hk1:aa (fun x=>x=a) w w1)
 (ho:eu (fun _=>True) w2 v ((nd d i).data++cX (max (nd d i).data.size (x+s.size)-(nd d i).data.size))) (hk2:aa (fun g=>(R.dv i).ownBlock=some g) w1 w2) (hv:∀g,v.ownBlock=some g->(R.dv i).ownBlock=some g∨w1.heap.size<=g)
 (q6:eu (fun _=>True) w4 v (over ((nd d i).data++cX (max (nd d i).data.size (x+s.size)-(nd d i).data.size)) x s)) (bB:aa (fun g=>v.ownBlock=some g) (w2.setCell ⟨R.g i,4,none⟩ v) w4) :
 dn R w a (aX d i (iw (nd d i) x s)) room w4:=by
 obtain⟨R',gK,hT,hg',_,CU⟩:=bE.dN hi hk2 ho hv
 have hn0:((nd d i).dN ((nd d i).data++cX (max (nd d i).data.size (x+s.size)-(nd d i).data.size))).kind≠0:=hi
 have hi2:=(mC hi hn0 i).2 hi
 have j9:=gK.Ob hi2 (s:=over ((nd d i).data++cX (max (nd d i).data.size (x+s.size)-(nd d i).data.size)) x s) (by rw[CU];exact bB) (by rw[CU];exact q6)
 rw[O3 hi,O4 hi hn0]at j9
 have hsz:(over ((nd d i).data++cX (max (nd d i).data.size (x+s.size)-(nd d i).data.size)) x s).size=max (nd d i).data.size (x+s.size):=by
  have h1:((nd d i).data++cX (max (nd d i).data.size (x+s.size)-(nd d i).data.size)).size=max (nd d i).data.size (x+s.size):=by rw[ByteArray.size_append,sO];omega
  rw[yt (by rw[h1];omega),h1]
 have hds:=(hC.inv.node i).data
 subst gL
 refine⟨R',cK.turn hC hcl hi ((hC.inv.node i).dN hi (by omega) (s:=over ((nd d i).data++cX (max (nd d i).data.size (x+s.size)-(nd d i).data.size)) x s) (by rw[hsz];omega)) rfl rfl (fun e=>e) j9 ?_ hfit hmax,?_⟩
 ·have:=oh (n:=iw (nd d i) x s) hi
  have e:bJ (iw (nd d i) x s)=bJ (nd d i):=rfl
  have:=hC.small
  unfold aP at *
  unfold iw at *
  omega
 ·have k3:aa R'.F (w2.setCell ⟨R.g i,4,none⟩ v) w4:=(aa.refl _ _).step bB (fun g hg=>.inl (by
   have:=gK.jq i hi2 g (by rw[CU];exact hg)
   unfold RD.F
   rw[this]
   exact fun h=>by cases h))
  exact((cW.of (hk1.mono (fun g _ e=>by subst e;exact hC.rep.fA))).trans hT).trans (cW.of k3)
theorem O6 {lk up:Int->Int} {iY:Int} {w1:World} {i:Int} {x:Nat} {s:ByteArray} {p:Option Addr} {cap:Nat} (hC:dF R w a d room lk up zp) (hcl:bK d) (hi:has d i) (hk1:(nd d i).kind=1) (hmax:room<=9223372036854775807)
 (hx:x+s.size<=4194304) (h0:0<s.size) (gL:iY=((used (aX d i (iw (nd d i) x s)):Nat):Int)) (hfit:iY<=room)
 (bE:aS R w1 a d room iY lk up) (hk1:aa (fun x=>x=a) w w1) (hv:R.dv i=.slice p (nd d i).data.size cap) :
 ∃p' n' c' w2 w4,w1.drew.cell? ⟨R.g i,4,none⟩=some (.slice p (nd d i).data.size cap)∧w1.drew.frozen? ⟨R.g i,4,none⟩=false∧w2.cell? ⟨R.g i,4,none⟩=some (.slice p (nd d i).data.size cap)∧w2.frozen? ⟨R.g i,4,none⟩=false ∧
  (Builtin.append_ #[113,3] 113 #[.slice p (nd d i).data.size cap,.int .i64 ((max (nd d i).data.size (x+s.size)-(nd d i).data.size:Nat):Int)]).run Tryz.prog w1.drew=.ok (.slice p' n' c') w2 ∧
  (Instr.slice 113 (.slice p' n' c') (some (.int .i64 x)) none none).run Tryz.prog (w2.setCell ⟨R.g i,4,none⟩ (.slice p' n' c'))=.ok (.slice (jK 1 p' c' x) (n'-x) (c'-x)) (w2.setCell ⟨R.g i,4,none⟩ (.slice p' n' c')) ∧
  (Builtin.copy_ #[113,9] 3 #[.slice (jK 1 p' c' x) (n'-x) (c'-x),.string s]).run Tryz.prog (w2.setCell ⟨R.g i,4,none⟩ (.slice p' n' c'))=.ok (goInt s.size) w4 ∧
  R.g i<w1.drew.heap.size∧dn R w a (aX d i (iw (nd d i) x s)) room w4:=by
 have bE:=bE.ai ((aa.refl af w1).drew)
 have hk1:=hk1.drew
 have hn1:=bE.node i hi
 have hsz:((nd d i).data++cX (max (nd d i).data.size (x+s.size)-(nd d i).data.size)).size=max (nd d i).data.size (x+s.size):=by rw[ByteArray.size_append,sO];omega
 have hds:=(hC.inv.node i).data
 obtain⟨v',w2,hz,mR,hk2,hv2⟩:=hn1.own.zeros (P:=Tryz.prog) (t:=113) (tn:=3) (e:=5) 113 Tryz.underlying113 Tryz.underlying3 (i:=(Tryz.prog.info? 5).get!) (by kernel_rfl) (by kernel_rfl) (by kernel_rfl) (by kernel_rfl) (max (nd d i).data.size (x+s.size)-(nd d i).data.size) (by omega) trivial
 have hgd:=bE.vX hi
 have Cq:¬v'.ownBlock=some (R.g i):=fun e=>by
  rcases hv2 _ e with h1|h1
  ·exact hgd h1
  ·have:=hn1.lt;omega
 have hc2:w2.cell? ⟨R.g i,4,none⟩=w1.cell? ⟨R.g i,4,none⟩:=hk2.cell (p:=⟨R.g i,4,none⟩) hn1.lt hgd
 have dS:w2.frozen? ⟨R.g i,4,none⟩=w1.frozen? ⟨R.g i,4,none⟩:=hk2.frozen (p:=⟨R.g i,4,none⟩) hn1.lt hgd
 have nU:=hn1.data
 obtain⟨p',c',hv'⟩:=mR.form
 have m9:=mR.small
 have nQ:eu (fun _=>True) (w2.setCell ⟨R.g i,4,none⟩ v') v' ((nd d i).data++cX (max (nd d i).data.size (x+s.size)-(nd d i).data.size)) :=
  mR.keep (cB w2 ⟨R.g i,4,none⟩ v') (fun g hg e=>by
   have e':g=R.g i:=e
   subst e';exact Cq hg)
 obtain⟨w4,CV,q6,bB⟩:=nQ.over (P:=Tryz.prog) (t:=113) (tn:=9) (e:=5) 3 Tryz.underlying113 (i:=(Tryz.prog.info? 5).get!) (by kernel_rfl) (by kernel_rfl) hv' x s h0 (by rw[hsz];omega)
 have hsl:=run_slice_l (P:=Tryz.prog) 113 5 1 Tryz.underlying113 (by kernel_rfl) p' ((nd d i).data++cX (max (nd d i).data.size (x+s.size)-(nd d i).data.size)).size c' x (by rw[hsz];omega) (w2.setCell ⟨R.g i,4,none⟩ v') (by rw[hsz];omega)
 have hend:=O5 hC hcl hi (by assumption) hmax hx h0 gL hfit bE hk1 mR hk2 hv2 q6 bB
 rw[hv]at hz nU
 subst hv'
 exact⟨p',_,c',w2,w4,nU,hn1.fz 4,hc2.trans nU,dS.trans (hn1.fz 4),hz,hsl,CV,hn1.lt,hend⟩
theorem O7 (h:cK R w a d room) (i:Int) (X:Nat) (s:ByteArray) (he:iK d room i X s=0) (h0:s.size≠0) :
 Calls Tryz.prog 136 #[.pointer (some ⟨a,0,none⟩),.int .i64 i,.int .i64 X,.string s] w fun e w'=>e=.returned (.int .i64 0)∧dn R w a (aX d i (iw (nd d i) X s)) room w':=by
 have H:=Lib.hid h
 obtain⟨⟨lk,up,hC⟩,hcl,hfit,hmax⟩:=h
 unfold iK at he
 split at he
 ·next e=>exact absurd he e
 next gy =>
 split at he;· cases he
 split at he;· cases he
 split at he;· cases he
 split at he;· cases he
 next c1 c2 c3 c4 =>
 have hf:=Ct hC.rep i
 have hfe:dM d i=0:=Classical.not_not.1 gy
 obtain⟨hi,hk1⟩:=m8 hfe
 rw[hfe]at hf
 have hp:lf R 0 i=.pointer (some ⟨R.g i,0,none⟩):=rfl
 rw[hp]at hf
 have hn:=hC.rep.node i hi
 obtain⟨p,cap,hv⟩:=hn.own.form
 have nU:=hn.data
 rw[hv]at nU
 have bZ:=lg hC.inv hC.small
 have hds:=(hC.inv.node i).data
 unfold qp at c4
 rw[Int.toNat_natCast]at c4
 have hX:X+s.size<=4194304:=by omega
 have gH:max ((nd d i).data.size:Int) ((X:Int)+(s.size:Int))-((nd d i).data.size:Int)=((max (nd d i).data.size (X+s.size)-(nd d i).data.size:Nat):Int):=by omega
 have gL:(used d:Int)+((max (nd d i).data.size (X+s.size)-(nd d i).data.size:Nat):Int)=((used (aX d i (iw (nd d i) X s)):Nat):Int):=by
  have:=uo (n:=iw (nd d i) X s) hi
  have e:dU (iw (nd d i) X s)=dU (nd d i)+(max (nd d i).data.size (X+s.size)-(nd d i).data.size):=by
   unfold dU iw
   simp only[Nd.dN]
   have h1:((nd d i).data++cX (max (nd d i).data.size (X+s.size)-(nd d i).data.size)).size=max (nd d i).data.size (X+s.size):=by rw[ByteArray.size_append,sO];omega
   rw[yt (by rw[h1];omega),h1]
   omega
  omega
 have Iv:(used d:Int)+((max (nd d i).data.size (X+s.size)-(nd d i).data.size:Nat):Int)<=room:=by omega
 have htake:=rY hC.rep (max ((nd d i).data.size:Int) ((X:Int)+(s.size:Int))-((nd d i).data.size:Int)) (by omega) hfit hmax (by omega) (by omega)
 rw[show decide (max ((nd d i).data.size:Int) ((X:Int)+(s.size:Int))-((nd d i).data.size:Int)<=room-used d)=true from decide_eq_true (by omega),show oX room (used d) (max ((nd d i).data.size:Int) ((X:Int)+(s.size:Int))-((nd d i).data.size:Int))=(used d:Int)+((max (nd d i).data.size (X+s.size)-(nd d i).data.size:Nat):Int)from by rw[gH];exact if_pos (by omega)]at htake
 have hne:(s.toList==[])=false:=beq_false_of_ne (fun e=>h0 ((toList_nil s).1 e))
 have hap:¬R.g i=a:=fun e=>by have:=hC.rep.lY i hi;rw[e,hC.rep.jn]at this;cases this
 have hgl:=hn.lt
 have hfz:=hn.fz 4
 have jB:(X:Int)<=4194304:=by omega
 have hs2:(s.size:Int)<=4194304-(X:Int):=by omega
 have O8:((nd d i).data.size:Int)<=4194304:=by omega
 have HG:=Lib.hid (fun(w1:World) (bE:aS R w1 a d room ((used d:Int)+((max (nd d i).data.size (X+s.size)-(nd d i).data.size:Nat):Int)) lk up) (gU:aa (fun x=>x=a) w w1)=>O6 hC hcl hi hk1 hmax hX (by omega) gL Iv bE gU hv)
 clear hC hcl hfit hmax bZ hds hX gL Iv c1 c2 c3 c4 gy hfe hn he h0 hi hk1 hv H
 generalize(nd d i).data.size=ds at *
 generalize hkk:((max ds (X+s.size)-ds:Nat):Int)=kk at *
 rw[gH]at htake
 have oB:IntKind.i64.wrap kk=kk:=by rw[IntKind.wrap_i64];omega
 clear hkk
 go_enter Tryz.func136,Tryz.ntmps136
 go_wp2_with(first|(go_at_call 116;refine hf.mono ?_;rintro e w1 ⟨rfl,rfl⟩)|(go_at_call 69;refine htake.mono ?_;rintro e w1 ⟨rfl,bE,hk1⟩;obtain⟨p',n',c',w2,w4,e1,f1,e2,f2,q1,q2,q3,q4,hend⟩:=HG.out w1 bE hk1;simp only[World.cell?_drew,World.frozen?_drew]at e1 f1))
 go_region_law (refine O2 rfl (.tmp 62) (.tmp 69) _ _ rfl q1 (by simp[Act.eval,Act.put]) (by simp[Act.eval,Act.put,oB]) ?_)
 all_goals go_wp2
 all_goals
  go_ret
  exact⟨rfl,hend⟩
theorem O9 (h:cK R w a d room) (i x:Int) (s:ByteArray) (hsz:s.size<=4294967296) (he:¬(iK d room i x s=0∧s.size≠0)) :
 Calls Tryz.prog 136 #[.pointer (some ⟨a,0,none⟩),.int .i64 i,.int .i64 x,.string s] w fun e w'=>e=.returned (.int .i64 (iK d room i x s))∧dn R w a d room w':=by
 have H:=Lib.hid h
 obtain⟨⟨lk,up,hC⟩,hcl,hfit,hmax⟩:=h
 have hf:=Ct hC.rep i
 unfold iK at he ⊢
 by_cases c0:dM d i=0
 case neg =>
  rw[if_pos c0]
  have hp:lf R (dM d i) i=.pointer none:=if_neg c0
  rw[hp]at hf
  clear hC hcl hfit hmax he
  generalize dM d i=er at hf c0
  go_enter Tryz.func136,Tryz.ntmps136
  go_wp2_with(go_at_call 116;refine hf.mono ?_;rintro e w1 ⟨rfl,rfl⟩)
  go_ret
  exact⟨rfl,H.out.same (aa.refl _ _)⟩
 case pos =>
 rw[if_neg (by simpa using c0)]at he ⊢
 obtain⟨hi,hk1⟩:=m8 c0
 rw[c0]at hf
 have hp:lf R 0 i=.pointer (some ⟨R.g i,0,none⟩):=rfl
 rw[hp]at hf
 by_cases c1:x<0
 ·rw[if_pos c1]
  clear hC hcl hfit hmax he
  go_enter Tryz.func136,Tryz.ntmps136
  go_wp2_with(go_at_call 116;refine hf.mono ?_;rintro e w1 ⟨rfl,rfl⟩)
  go_ret
  exact⟨rfl,H.out.same (aa.refl _ _)⟩
 rw[if_neg c1]at he ⊢
 by_cases c2:s.size=0
 ·rw[if_pos c2]
  have hs:s=⟨#[]⟩:=ByteArray.ext (Array.eq_empty_of_size_eq_zero c2)
  subst hs
  clear hC hcl hfit hmax he
  go_enter Tryz.func136,Tryz.ntmps136
  go_wp2_with(go_at_call 116;refine hf.mono ?_;rintro e w1 ⟨rfl,rfl⟩)
  go_ret
  exact⟨rfl,H.out.same (aa.refl _ _)⟩
 rw[if_neg c2]at he ⊢
 have hne:(s.toList==[])=false:=beq_false_of_ne (fun e=>c2 ((toList_nil s).1 e))
 by_cases c3:4194304<x
 ·rw[if_pos c3]
  clear hC hcl hfit hmax he
  go_enter Tryz.func136,Tryz.ntmps136
  go_wp2_with(go_at_call 116;refine hf.mono ?_;rintro e w1 ⟨rfl,rfl⟩)
  go_ret
  exact⟨rfl,H.out.same (aa.refl _ _)⟩
 rw[if_neg c3]at he ⊢
 by_cases c4:4194304-x<s.size
 ·rw[if_pos c4]
  clear hC hcl hfit hmax he
  go_enter Tryz.func136,Tryz.ntmps136
  go_wp2_with(go_at_call 116;refine hf.mono ?_;rintro e w1 ⟨rfl,rfl⟩)
  go_ret
  exact⟨rfl,H.out.same (aa.refl _ _)⟩
 rw[if_neg c4]at he ⊢
 obtain⟨X,rfl⟩:∃X:Nat,x=(X:Int):=⟨x.toNat,by omega⟩
 by_cases c5:room-used d<qp d i X s-(nd d i).data.size
 case neg =>
  rw[if_neg c5]at he
  exact absurd ⟨rfl,c2⟩ he
 rw[if_pos c5]
 unfold qp at c5
 rw[Int.toNat_natCast]at c5
 have hn:=hC.rep.node i hi
 obtain⟨p,cap,hv⟩:=hn.own.form
 have nU:=hn.data
 rw[hv]at nU
 have bZ:=lg hC.inv hC.small
 have hds:=(hC.inv.node i).data
 have gH:max ((nd d i).data.size:Int) ((X:Int)+(s.size:Int))-((nd d i).data.size:Int)=((max (nd d i).data.size (X+s.size)-(nd d i).data.size:Nat):Int):=by omega
 have htake:=rY hC.rep ((max (nd d i).data.size (X+s.size)-(nd d i).data.size:Nat):Int) (by omega) hfit hmax (by omega) (by omega)
 rw[show decide (((max (nd d i).data.size (X+s.size)-(nd d i).data.size:Nat):Int)<=room-used d)=false from decide_eq_false (by omega),show oX room (used d) ((max (nd d i).data.size (X+s.size)-(nd d i).data.size:Nat):Int)=(used d:Int)from if_neg (by omega)]at htake
 have hfa:=hC.rep.fA
 have HE:=Lib.hid (fun(w1:World) (hR:aS R w1 a d room (used d) lk up) (hk:aa (fun x=>x=a) w w1)=>(⟨R,⟨⟨lk,up,hC.re hR⟩,hcl,hfit,hmax⟩,cW.of (hk.mono (fun x _ hx=>by subst hx;exact hfa))⟩:dn R w a d room w1))
 have O8:((nd d i).data.size:Int)<=4194304:=by omega
 clear hC hcl hfit hmax bZ hds c5 c0 hn he hi hk1 hv H
 generalize(nd d i).data.size=ds at *
 generalize hkk:((max ds (X+s.size)-ds:Nat):Int)=kk at *
 have oB:IntKind.i64.wrap kk=kk:=by rw[IntKind.wrap_i64];omega
 clear hkk
 go_enter Tryz.func136,Tryz.ntmps136
 go_wp2_with(first|(go_at_call 116;refine hf.mono ?_;rintro e w1 ⟨rfl,rfl⟩)|(go_at_call 69;refine htake.mono ?_;rintro e w1 ⟨rfl,bE,hk1⟩))
 go_ret
 exact⟨rfl,HE.out _ bE hk1⟩
theorem Pa (h:cK R w a d room) (i x:Int) (s:ByteArray) (hsz:s.size<=4294967296) :
 Calls Tryz.prog 136 #[.pointer (some ⟨a,0,none⟩),.int .i64 i,.int .i64 x,.string s] w fun e w'=>e=.returned (.int .i64 (iK d room i x s))∧dn R w a (iy d room i x s) room w':=by
 unfold iy
 by_cases he:iK d room i x s=0∧s.size≠0
 ·rw[if_pos he,he.1]
  have hx:¬x<0:=fun hx=>by
   have h1:=he.1
   unfold iK at h1
   split at h1
   ·next e=>exact e h1
   ·cases h1
  obtain⟨X,rfl⟩:∃X:Nat,x=(X:Int):=⟨x.toNat,by omega⟩
  rw[Int.toNat_natCast]
  exact O7 h i X s he.1 he.2
 ·rw[if_neg he];exact O9 h i x s hsz he
end
set_option maxRecDepth 100000
set_option maxHeartbeats 2000000
structure vn (S:Nat->Prop) (w:World) (g off k:Nat) (x:Nd) (q:Option Addr) (m:Nat):Prop where
 lt:g<w.heap.size
 c0:w.cell? ⟨g,off+k*5,none⟩=some (.int .i64 x.kind)
 c1:w.cell? ⟨g,off+k*5+1,none⟩=some (.int .i64 x.mode)
 c2:w.cell? ⟨g,off+k*5+2,none⟩=some (.int .i64 x.holds)
 c3:w.cell? ⟨g,off+k*5+3,none⟩=some (.string x.data)
 c4:w.cell? ⟨g,off+k*5+4,none⟩=some (.slice q x.ah.length m)
 sl:bt aK S w q m x.ah
theorem vn.ai {S:Nat->Prop} {w w':World} {g off k:Nat} {x:Nd} {q:Option Addr} {m:Nat} (h:vn S w g off k x q m) (hk:aa af w w'):vn S w' g off k x q m :=
 ⟨Nat.lt_of_lt_of_le h.lt hk.size,(hk.cell (p:=⟨g,_,none⟩) h.lt (fun h=>h)).trans h.c0,(hk.cell (p:=⟨g,_,none⟩) h.lt (fun h=>h)).trans h.c1,(hk.cell (p:=⟨g,_,none⟩) h.lt (fun h=>h)).trans h.c2,
   (hk.cell (p:=⟨g,_,none⟩) h.lt (fun h=>h)).trans h.c3,(hk.cell (p:=⟨g,_,none⟩) h.lt (fun h=>h)).trans h.c4,h.sl.ai hk⟩
theorem boxed {w w1:World} {cs:Array Value} {T:TypeId} (hk:aa af (w.alloc (.cells cs T)) w1) (j:Nat) (v:Value) (hv:cs[j]?=some v):w1.cell? ⟨w.heap.size,j,none⟩=some v:=by
 have hn:=heap_alloc_new w (.cells cs T)
 have h4:=(hk.block w.heap.size (by simp) (fun h=>h)).trans hn
 rw[cell_of_row w1 _ j _ T (0,0) h4]
 exact hv
section
variable{S:Nat->Prop} {w:World} {p:Option Addr} {c:Nat} {d:ag} {room:Int}
theorem aI.rowAt (h:aI S w p c d) {k:Nat} (hk:k<d.length):∃g off q m,p=some ⟨g,off,none⟩∧S g∧vn S w g off k (nd d k) q m:=by
 obtain⟨g,off,q,n,m,hp,hS,hg,c0,c1,c2,c3,c4,hn,hsl⟩:=h.row hk
 subst hn
 exact⟨g,off,q,m,hp,hS,hg,c0,c1,c2,c3,c4,hsl⟩
theorem eP {i:Int} (h:has d i):∃k:Nat,i=(k:Int)∧k<d.length:=by
 have:=bF h
 exact⟨i.toNat,by omega,this.2⟩
theorem qB (h:aI S w p c d) (hz:nd d 0=Nd.gone) (i:Int) :
 Calls Tryz.prog 119 #[aE p c d room,.int .i64 i] w fun e w'=>e=.returned (.int .i64 (aO d i))∧aa af w w':=by
 have hcap:=h.cap
 have hmax:=h.max
 unfold maxLen at hmax
 have hal:aa af w (w.alloc (.cells #[.slice p d.length c,.int .i64 room] 37)):=(aa.refl _ _).alloc _
 have hh:=rA (room:=room) (h.ai hal) hz i
 unfold aO
 by_cases hi:has d i
 ·rw[if_neg hi]
  rw[decide_eq_true hi]at hh
  obtain⟨k,rfl,hk⟩:=eP hi
  obtain⟨g,off,q,m,rfl,hS,hrow⟩:=h.rowAt hk
  have HR:=Lib.hid hrow
  have HH:=Lib.hid hh
  have HA:=Lib.hid hal
  clear hh hrow h hz hi hal
  unfold aE at *
  by_cases h2:(nd d (k:Int)).kind=2
  ·rw[if_pos h2]
   go_enter Tryz.func119,Tryz.ntmps119
   go_wp2_with(go_at_call 30;refine HH.out.mono ?_;rintro e w1 ⟨rfl,hk1⟩;have b0:w1.cell? ⟨w.heap.size,0,none⟩=some (.slice (some ⟨g,off,none⟩) d.length c):=boxed hk1 0 _ rfl;have hr1:=HR.out.ai (HA.out.trans hk1);have c0:=hr1.c0)
   go_ret
   exact⟨rfl,HA.out.trans hk1⟩
  ·rw[if_neg h2]
   go_enter Tryz.func119,Tryz.ntmps119
   go_wp2_with(go_at_call 30;refine HH.out.mono ?_;rintro e w1 ⟨rfl,hk1⟩;have b0:w1.cell? ⟨w.heap.size,0,none⟩=some (.slice (some ⟨g,off,none⟩) d.length c):=boxed hk1 0 _ rfl;have hr1:=HR.out.ai (HA.out.trans hk1);have c0:=hr1.c0)
   go_ret
   exact⟨rfl,HA.out.trans hk1⟩
 ·rw[if_pos (j8 hi)]
  rw[decide_eq_false hi]at hh
  have HH:=Lib.hid hh
  have HA:=Lib.hid hal
  clear hh h hz hi hal
  unfold aE at *
  go_enter Tryz.func119,Tryz.ntmps119
  go_wp2_with(go_at_call 30;refine HH.out.mono ?_;rintro e w1 ⟨rfl,hk1⟩)
  go_ret
  exact⟨rfl,HA.out.trans hk1⟩
theorem AL (h:aI S w p c d) (hI:aG d) (i:Int) :
 Calls Tryz.prog 157 #[aE p c d room,.int .i64 i] w fun e w'=>e=.returned (.int .i64 (dM d i))∧aa af w w':=by
 have hcap:=h.cap
 have hmax:=h.max
 unfold maxLen at hmax
 have hal:aa af w (w.alloc (.cells #[.slice p d.length c,.int .i64 room] 37)):=(aa.refl _ _).alloc _
 have hh:=rA (room:=room) (h.ai hal) hI.zero i
 unfold dM
 by_cases hi:has d i
 ·rw[if_neg hi]
  rw[decide_eq_true hi]at hh
  have bS:=(hI.node i).um
  have aV:=(hI.node i).pZ
  have hi0:(nd d i).kind≠0:=hi
  obtain⟨k,rfl,hk⟩:=eP hi
  obtain⟨g,off,q,m,rfl,hS,hrow⟩:=h.rowAt hk
  have HR:=Lib.hid hrow
  have HH:=Lib.hid hh
  have HA:=Lib.hid hal
  have HC:=Lib.hid (fun(w1:World) (hk1:aa af w w1)=>(hrow.ai hk1).c0)
  clear hh hrow h hi hal hI
  unfold aE at *
  have xk:(nd d (k:Int)).kind=2∨(nd d (k:Int)).kind=3∨(nd d (k:Int)).kind=1:=by omega
  clear bS aV hi0
  rcases xk with h2|h2|h2
  all_goals
   rw[h2]at HC ⊢
   simp only[Int.reduceEq,if_true,if_false]
   clear h2
   go_enter Tryz.func157,Tryz.ntmps157
   go_wp2_with(go_at_call 30;refine HH.out.mono ?_;rintro e w1 ⟨rfl,hk1⟩;have b0:w1.cell? ⟨w.heap.size,0,none⟩=some (.slice (some ⟨g,off,none⟩) d.length c):=boxed hk1 0 _ rfl;have hr1:=HR.out.ai (HA.out.trans hk1);have c0:=HC.out _ (HA.out.trans hk1);have hgl:=hr1.lt)
   go_ret
   exact⟨rfl,HA.out.trans hk1⟩
 ·rw[if_pos (j8 hi)]
  rw[decide_eq_false hi]at hh
  have HH:=Lib.hid hh
  have HA:=Lib.hid hal
  clear hh h hi hal hI
  unfold aE at *
  go_enter Tryz.func157,Tryz.ntmps157
  go_wp2_with(go_at_call 30;refine HH.out.mono ?_;rintro e w1 ⟨rfl,hk1⟩)
  go_ret
  exact⟨rfl,HA.out.trans hk1⟩
theorem Ug {es:List aD} (hr:cq es) (name:ByteArray):(bk es name=none∧mB es name=-1)∨∃(t:Nat) (x:aD),es[t]?=some x∧bk es name=some x.2∧mB es name=(t:Int):=by
 cases hg:bk es name with
 | none =>
   have hh:bu es name=false:=by rw[<- ox,hg];rfl
   exact .inl ⟨rfl,by unfold mB;rw[hh];rfl⟩
 | some k =>
   obtain⟨h1,_⟩:=C6 hr hg
   exact .inr ⟨_,_,h1,rfl,by unfold mB;rw[kX hg];rfl⟩
theorem nC (h:aI S w p c d) (hI:aG d) (i:Int) (name:ByteArray) :
 Calls Tryz.prog 123 #[aE p c d room,.int .i64 i,.string name] w fun e w'=>e=.returned (.tuple #[.int .i64 (aN d i name),.int .i64 (bH d i name)])∧aa af w w':=by
 have hcap:=h.cap
 have hmax:=h.max
 unfold maxLen at hmax
 have hal:aa af w (w.alloc (.cells #[.slice p d.length c,.int .i64 room] 37)):=(aa.refl _ _).alloc _
 have hh:=qB (room:=room) (h.ai hal) hI.zero i
 have HA:=Lib.hid hal
 by_cases f0:aO d i=0
 ·obtain⟨hi,hi2⟩:=fD f0
  rw[f0]at hh
  have HH:=Lib.hid hh
  have hris:=(hI.node i).rising
  obtain⟨k,rfl,hk⟩:=eP hi
  obtain⟨g,off,q,m,rfl,hS,hrow⟩:=h.rowAt hk
  have u6:=hrow.sl.cap
  have m9:=hrow.sl.max
  unfold maxLen at m9
  have HF:=Lib.hid (fun(w1:World) (hk1:aa af w w1)=>xh S w1 q m (nd d (k:Int)).ah name (hrow.sl.ai hk1) hris)
  have HC:=Lib.hid (fun(w1:World) (hk1:aa af w w1)=>(⟨(hrow.ai hk1).c4,(hrow.ai hk1).lt⟩:_∧_))
  rcases Ug hris name with⟨g1,g2⟩|⟨t,x,hx,g1,g2⟩
  ·have e1:bH d k name=12:=by unfold bH;rw[if_neg (by simpa using f0),g1];rfl
   have e2:aN d k name=0:=by unfold aN;rw[if_neg (by simpa using f0),g1];rfl
   rw[e1,e2]
   rw[g2]at HF
   clear hh h hal hI e1 e2 g1 g2 f0 hi hi2 hris hrow
   generalize(nd d (k:Int)).ah=es at *
   unfold aE at *
   go_enter Tryz.func123,Tryz.ntmps123
   go_wp2_with(first|(go_at_call 119;refine HH.out.mono ?_;rintro e w1 ⟨rfl,hk1⟩;have b0:w1.cell? ⟨w.heap.size,0,none⟩=some (.slice (some ⟨g,off,none⟩) d.length c):=boxed hk1 0 _ rfl;obtain⟨c4,hgl⟩:=HC.out _ (HA.out.trans hk1))|(go_at_call 155;refine(HF.out _ (HA.out.trans hk1)).mono ?_;rintro e w2 ⟨rfl,rfl⟩))
   go_ret2
   exact⟨rfl,HA.out.trans hk1⟩
  ·have e1:bH d k name=0:=by unfold bH;rw[if_neg (by simpa using f0),g1];rfl
   have e2:aN d k name=x.2:=by unfold aN;rw[if_neg (by simpa using f0),g1];rfl
   rw[e1,e2]
   rw[g2]at HF
   obtain⟨g3,Wq,rfl,_,oQ,a0,a1⟩:=hrow.sl.iW hx
   have ht:=(List.getElem?_eq_some_iff.1 hx).1
   have HX:=Lib.hid (fun(w1:World) (hk1:aa af w w1)=>(⟨(hk1.cell (p:=⟨g3,_,none⟩) oQ (fun h=>h)).trans a1,Nat.lt_of_lt_of_le oQ hk1.size⟩:w1.cell? ⟨g3,_,none⟩=_∧g3<w1.heap.size))
   clear hh h hal hI e1 e2 g1 g2 f0 hi hi2 hris hrow hx a0 a1
   generalize(nd d (k:Int)).ah=es at *
   unfold aE at *
   go_enter Tryz.func123,Tryz.ntmps123
   go_wp2_with(first|(go_at_call 119;refine HH.out.mono ?_;rintro e w1 ⟨rfl,hk1⟩;have b0:w1.cell? ⟨w.heap.size,0,none⟩=some (.slice (some ⟨g,off,none⟩) d.length c):=boxed hk1 0 _ rfl;obtain⟨c4,hgl⟩:=HC.out _ (HA.out.trans hk1);obtain⟨x1,x2⟩:=HX.out _ (HA.out.trans hk1))|(go_at_call 155;refine(HF.out _ (HA.out.trans hk1)).mono ?_;rintro e w2 ⟨rfl,rfl⟩))
   go_ret2
   exact⟨rfl,HA.out.trans hk1⟩
 ·have e1:bH d i name=aO d i:=if_pos f0
  have e2:aN d i name=0:=if_pos f0
  rw[e1,e2]
  have HH:=Lib.hid hh
  clear hh h hal hI e1 e2
  unfold aE at *
  generalize aO d i=er at *
  go_enter Tryz.func123,Tryz.ntmps123
  go_wp2_with(go_at_call 119;refine HH.out.mono ?_;rintro e w1 ⟨rfl,hk1⟩)
  go_ret2
  exact⟨rfl,HA.out.trans hk1⟩
end
set_option maxRecDepth 100000
set_option maxHeartbeats 2000000
section
variable{S:Nat->Prop} {w:World} {p:Option Addr} {c:Nat} {d:ag} {room:Int}
theorem Uh (d:ag) (i:Int) (hz:nd d 0=Nd.gone) (h:∀k:Nat,1<=k->k<d.length->gi i (nd d k).ah=0):cnt d i=0:=by
 rcases Nat.eq_zero_or_pos (cnt d i)with h0|h0
 ·exact h0
 ·obtain⟨j,e,he,hi⟩:=mD.1 h0
  have hr:0<=j∧j.toNat<d.length:=by
   by_cases hh:0<=j∧j.toNat<d.length
   ·exact hh
   ·rw[pV hh]at he;cases he
  have h1:1<=j.toNat:=by
   by_cases hj:j=0
   ·subst hj;rw[hz]at he;cases he
   ·omega
  have:=h j.toNat h1 hr.2
  rw[Int.toNat_of_nonneg hr.1]at this
  have:=Gw.2 ⟨e,he,hi⟩
  omega
theorem EV (h:aI S w p c d) (hz:nd d 0=Nd.gone) (h2:1<=d.length) (hs:aP d) (i:Int) :
 Calls Tryz.prog 65 #[aE p c d room,.int .i64 i] w fun e w'=>∃u,e=.returned (.int .i64 u)∧kY d i u∧aa af w w':=by
 have hcap:=h.cap
 have hmax:=h.max
 unfold maxLen at hmax
 have hs0:=hs
 unfold aP at hs
 have hlen:=jm d
 have HZ:=Lib.hid hz
 have key:∀(k:Nat),k<d.length->∃g off q m,p=some ⟨g,off,none⟩∧vn S w g off k (nd d k) q m∧(nd d k).ah.length<4294967295:=fun k hk=>by
  obtain⟨g,off,q,m,hp,_,hr⟩:=h.rowAt hk
  exact⟨g,off,q,m,hp,hr,gx hs0 k⟩
 have Hk:=Lib.hid key
 have HA:Hid (aa af w (w.alloc (.cells #[.slice p d.length c,.int .i64 room] 37))):=(aa.refl _ _).alloc _
 clear key h hz hs0
 unfold aE
 go_enter Tryz.func65,Tryz.ntmps65
 go_wp2
 go_loop [5] (fun x=>∃k:Nat,1<=k∧k<=d.length∧x=.int .i64 k∧∀k':Nat,1<=k'->k'<k->gi i (nd d k').ah=0) (fun x=>d.length-(intOf x).toNat)
 case atStart=>exact⟨1,Nat.le_refl _,h2,rfl,fun k' h1 h2=>by omega⟩
 case round =>
  obtain⟨k,hk1,hk2,rfl,hno⟩:=hrel
  have Hno:=Lib.hid hno
  clear hno
  by_cases hlt:k<d.length
  ·obtain⟨g,off,q,m,rfl,hrow,hel⟩:=Hk.out k hlt
   have hsl:=hrow.sl
   have c4:=hrow.c4
   have hg:=hrow.lt
   clear hrow
   clear Hk
   have HE:Hid (∀t:Nat,t<=(nd d (k:Int)).ah.length->True):=fun _ _=>trivial
   generalize hes:(nd d (k:Int)).ah=es at *
   have LI:=Lib.hid hes
   clear hes HE
   go_wp2
   go_loop [6] (fun x=>∃t:Nat,t<=es.length∧x=.int .i64 t∧gi i (es.take t)=0) (fun x=>es.length-(intOf x).toNat)
   case atStart=>exact⟨0,Nat.zero_le _,rfl,rfl⟩
   case round =>
    obtain⟨t,ht,rfl,hnm⟩:=hrel
    have vL:=Lib.hid hnm
    clear hnm
    by_cases pU:t<es.length
    ·obtain⟨x,hx⟩:∃x,es[t]?=some x:=⟨_,List.getElem?_eq_getElem pU⟩
     obtain⟨g2,off2,rfl,_,gR,e0,e1⟩:=hsl.iW hx
     have Hx:=Lib.hid hx
     have u6:=hsl.cap
     have m9:=hsl.max
     unfold maxLen at m9
     clear hx
     by_cases he:x.2=i
     ·have hb:(x.2==i)=true:=by simpa using he
      have He:=Lib.hid he
      clear he
      go_wp2
      go_ret
      refine⟨(k:Int),rfl,.inr ⟨x,?_,He.out⟩,HA.out⟩
      rw[LI.out]
      exact List.mem_of_getElem? Hx.out
     ·have hb:(x.2==i)=false:=by simpa using he
      have He:=Lib.hid he
      clear he
      go_wp2
      go_round
      case rel=>exact⟨t+1,by omega,by go_num,by rw[LH es i t x Hx.out,if_neg He.out,vL.out]⟩
      case measure=>simp[intOf];omega
    ·obtain rfl:t=es.length:=by omega
     go_wp2
     go_round
     case rel =>
      refine⟨k+1,by omega,by omega,by go_num,fun k' h1 h3=>?_⟩
      by_cases e:k'=k
      ·subst e
       have:=vL.out
       rw[List.take_length]at this
       rw[LI.out];exact this
      ·exact Hno.out k' h1 (by omega)
     case measure=>simp[intOf];omega
  ·obtain rfl:k=d.length:=by omega
   go_wp2
   go_ret
   exact⟨1,rfl,.inl ⟨Uh d i HZ.out Hno.out,rfl⟩,HA.out⟩
def Ui (w w':World) (e:Ending) (P:Prop):Prop:=∃b:Bool,e=.returned (.bool b)∧(b=true↔P)∧aa af w w'
theorem Tp (h:aI S w p c d) (hI:aG d) (hs:aP d) (i top:Int) (hi:(nd d i).kind=2) (ht:top≠1) :
 Calls Tryz.prog 130 #[aE p c d room,.int .i64 i,.int .i64 top] w fun e w'=>Ui w w' e (cU d top i):=by
 have hcap:=h.cap
 have hmax:=h.max
 unfold maxLen at hmax
 have hlen:=jm d
 have h2:=hI.two
 have HU:=Lib.hid (fun(w1:World) (hk:aa af w w1) (x:Int)=>EV (room:=room) (h.ai hk) hI.zero (by omega) hs x)
 have HI:=Lib.hid hI
 have Wr:=yS d i
 unfold aP at hs
 clear h hI
 unfold aE at *
 have HT:Hid (¬cU d top 1):=fun ha=>ht ((yU (GR HI.out)).1 ha)
 go_enter Tryz.func130,Tryz.ntmps130
 go_wp2
 go_loopw [1,7] (fun x s wr=>∃(n:Nat) (id:Int),n<=d.length∧s=.int .i64 n∧x=.int .i64 id∧(nd d id).kind=2∧(cU d top id↔cU d top i)∧(n+j5 d id<=d.length∨id=1)∧aa af (w.alloc (.cells #[.slice p d.length c,.int .i64 room] 37)) wr) (fun _ s _=>d.length+1-(intOf s).toNat)
 case atStart=>exact⟨0,i,Nat.zero_le _,rfl,rfl,hi,Iff.rfl,.inl (by omega),aa.refl _ _⟩
 case round =>
  rename_i wr
  obtain⟨n,id,hn,rfl,rfl,hk2,hiff,hm,hkp⟩:=hrel
  have cV:=Lib.hid hkp
  have vr:=Lib.hid (((aa.refl af w).alloc (.cells #[.slice p d.length c,.int .i64 room] 37)).trans hkp)
  have b0:wr.cell? ⟨w.heap.size,0,none⟩=some (.slice p d.length c):=boxed hkp 0 _ rfl
  have b1:wr.cell? ⟨w.heap.size,1,none⟩=some (.int .i64 room):=boxed hkp 1 _ rfl
  have AU:=Lib.hid hiff
  have Hm:=Lib.hid hm
  have LJ:=Lib.hid hk2
  have hu:=HU.out wr vr.out id
  clear hkp hiff hm hk2
  by_cases e1:id=top
  ·have hb:(id==top)=true:=by simpa using e1
   have He:=Lib.hid e1
   clear e1 hu
   go_wp2
   go_ret
   refine⟨true,rfl,⟨fun _=>AU.out.1 ?_,fun _=>rfl⟩,vr.out⟩
   rw[He.out];exact .self
  ·have hb:(id==top)=false:=by simpa using e1
   have He:=Lib.hid e1
   clear e1
   by_cases e2:id=1
   ·subst e2
    clear hu
    go_wp2
    go_ret
    exact⟨false,rfl,⟨(fun h=>by cases h),fun h=>absurd (AU.out.2 h) HT.out⟩,vr.out⟩
   ·have hb1:(id==1)=false:=by simpa using e2
    have EW:=Lib.hid e2
    have Uj:=Lib.hid hu
    clear e2 hu
    go_wp2_with(go_at_call 65;refine Uj.out.mono ?_;rintro e w2 ⟨u,rfl,cA,hk2⟩)
    have hms:=Hm.out.resolve_right EW.out
    have hps:=NQ (mG HI.out LJ.out)
    go_roundw
    case rel =>
     rcases cA.par LJ.out with⟨hc,rfl⟩|hp
     ·refine⟨n+1,1,by omega,by go_num,rfl,HI.out.root,?_,.inr rfl,cV.out.trans hk2⟩
      have h3:=yU (k:=top) (GS hc)
      exact⟨fun h=>absurd h HT.out,fun h=>absurd (h3.1 (AU.out.2 h)) (fun e=>He.out e.symm)⟩
     ·have hl:=yT HI.out hp
      refine⟨n+1,u,by omega,by go_num,rfl,hp.dir HI.out,?_,.inl (by omega),cV.out.trans hk2⟩
      rw[<- AU.out,GQ HI.out hp (fun e=>He.out e.symm)]
    case measure=>simp[intOf];omega
theorem Lr (h:aI S w p c d) (k old:Int) (hk:has d k) (ho:has d old) :
 Calls Tryz.prog 131 #[aE p c d room,.int .i64 k,.int .i64 old] w fun e w'=>e=.returned (.int .i64 (mZ d k old))∧aa af w w':=by
 have hcap:=h.cap
 have hmax:=h.max
 unfold maxLen at hmax
 have HA:Hid (aa af w (w.alloc (.cells #[.slice p d.length c,.int .i64 room] 37))):=(aa.refl _ _).alloc _
 obtain⟨k,rfl,hk1⟩:=eP hk
 obtain⟨o,rfl,mQ⟩:=eP ho
 obtain⟨g,off,q,m,rfl,hS,hrow⟩:=h.rowAt hk1
 obtain⟨g',off',q',m',hp',_,hrow'⟩:=h.rowAt mQ
 cases hp'
 have c0:=hrow.c0
 have d0:=hrow'.c0
 have d4:=hrow'.c4
 have hgl:=hrow.lt
 have u6:=hrow'.sl.cap
 have m9:=hrow'.sl.max
 unfold maxLen at m9
 unfold mZ
 have he:(nd d (o:Int)).ah≠[]↔0<(nd d (o:Int)).ah.length:=by rw[List.length_pos_iff]
 simp only[he]
 clear h hrow hrow' he hk ho
 generalize(nd d (o:Int)).ah.length=ln at *
 generalize(nd d (k:Int)).kind=kk at *
 generalize(nd d (o:Int)).kind=ko at *
 unfold aE
 have hb:∀x:Int,(x=2∧(x==2)=true∧(x != 2)=false)∨(x≠2∧(x==2)=false∧(x != 2)=true):=fun x=>by
  by_cases h:x=2
  ·exact .inl ⟨h,by simpa using h,by simpa using h⟩
  ·exact .inr ⟨h,by simpa using h,by simpa using h⟩
 have hl:(0<ln∧(0:Int)<(ln:Int))∨(¬0<ln∧¬(0:Int)<(ln:Int)):=by omega
 rcases hb kk with⟨a1,a2,a3⟩|⟨a1,a2,a3⟩<;>rcases hb ko with⟨b1,b2,b3⟩|⟨b1,b2,b3⟩<;>rcases hl with⟨l1,l2⟩|⟨l1,l2⟩
 all_goals
  simp only[a1,b1,l1,ne_eq,not_true_eq_false,not_false_eq_true,and_true,and_false,true_and,false_and,if_true,if_false]
  clear a1 b1 l1 hb
  go_enter Tryz.func131,Tryz.ntmps131
  go_wp2
  go_ret
  exact⟨rfl,HA.out⟩
theorem Uk (k:Nat):cX k++⟨#[0]⟩=cX (k+1):=by
 apply ByteArray.ext
 simp[cX,Array.replicate_succ]
theorem TW (w:World) (n:Nat) (hn:n<=4294967296):Calls Tryz.prog 158 #[.int .i64 n] w fun e w'=>e=.returned (.string (cX n))∧w=w':=by
 have pL:=Lib.hid Uk
 go_enter Tryz.func158,Tryz.ntmps158
 go_wp2
 go_loop [3,4] (fun s x=>∃k:Nat,k<=n∧x=.int .i64 k∧s=.string (cX k)) (fun _ x=>n-(intOf x).toNat)
 case atStart=>exact⟨0,Nat.zero_le _,rfl,rfl⟩
 case round =>
  obtain⟨k,hk,rfl,rfl⟩:=hrel
  by_cases hlt:k<n
  ·have hx:=pL.out k
   have hz:=sO k
   go_wp2
   go_round
   case rel=>exact⟨k+1,by omega,by go_num,by rw[<- hx]⟩
   case measure=>simp[intOf];omega
  ·obtain rfl:k=n:=by omega
   go_wp2
   go_ret
   exact⟨rfl,rfl⟩
end
set_option maxRecDepth 100000
set_option maxHeartbeats 400000
def Ul:jH:=⟨0,0,0,ByteArray.empty,none,0,0⟩
theorem xD:pT Tryz.prog pK 35 57 Ul 64 :=
 .of (.agg #[.int .i64 0,.int .i64 0,.int .i64 0,.string ByteArray.empty,.slice none 0 0]) Tryz.underlying35 (by kernel_rfl) rfl
theorem Ey {w w1:World} {a b:Array Value} {ta tb:TypeId} (hk:aa af ((w.alloc (.cells a ta)).alloc (.cells b tb)) w1) :
 (∀j v,a[j]?=some v->w1.cell? ⟨w.heap.size,j,none⟩=some v)∧(∀j v,b[j]?=some v->w1.cell? ⟨w.heap.size+1,j,none⟩=some v) ∧
 (∀j,w1.frozen? ⟨w.heap.size,j,none⟩=false)∧(∀j,w1.frozen? ⟨w.heap.size+1,j,none⟩=false)∧w.heap.size+2<=w1.heap.size:=by
 have n1:=heap_alloc_new w (.cells a ta)
 have n2:=heap_alloc_new (w.alloc (.cells a ta)) (.cells b tb)
 have s1:(w.alloc (.cells a ta)).heap.size=w.heap.size+1:=by simp
 have s2:((w.alloc (.cells a ta)).alloc (.cells b tb)).heap.size=w.heap.size+2:=by simp
 rw[s1]at n2
 have n1':=(Below.heap_alloc (w.alloc (.cells a ta)) (.cells b tb) w.heap.size (by omega)).trans n1
 have b1:=(hk.block w.heap.size (by omega) (fun h=>h)).trans n1'
 have b2:=(hk.block (w.heap.size+1) (by omega) (fun h=>h)).trans n2
 have:=hk.size
 exact⟨fun j v hv=>by rw[cell_of_row w1 _ j _ ta (0,0) b1];exact hv,fun j v hv=>by rw[cell_of_row w1 _ j _ tb (0,0) b2];exact hv,fun j=>frozen_of_row w1 _ j _ ta b1,fun j=>frozen_of_row w1 _ j _ tb b2,by omega⟩
theorem Um {w w1:World} {a b e:Array Value} {ta tb te:TypeId} (hk:aa af (((w.alloc (.cells a ta)).alloc (.cells b tb)).alloc (.cells e te)) w1) :
 (∀j v,a[j]?=some v->w1.cell? ⟨w.heap.size,j,none⟩=some v)∧(∀j v,b[j]?=some v->w1.cell? ⟨w.heap.size+1,j,none⟩=some v)∧(∀j v,e[j]?=some v->w1.cell? ⟨w.heap.size+2,j,none⟩=some v) ∧
 (∀j,w1.frozen? ⟨w.heap.size,j,none⟩=false)∧(∀j,w1.frozen? ⟨w.heap.size+1,j,none⟩=false)∧(∀j,w1.frozen? ⟨w.heap.size+2,j,none⟩=false)∧w.heap.size+3<=w1.heap.size:=by
 have s2:((w.alloc (.cells a ta)).alloc (.cells b tb)).heap.size=w.heap.size+2:=by simp
 have n3:=heap_alloc_new ((w.alloc (.cells a ta)).alloc (.cells b tb)) (.cells e te)
 rw[s2]at n3
 have s3:(((w.alloc (.cells a ta)).alloc (.cells b tb)).alloc (.cells e te)).heap.size=w.heap.size+3:=by simp
 have b3:=(hk.block (w.heap.size+2) (by omega) (fun h=>h)).trans n3
 obtain⟨h1,h2,h3,h4,_⟩:=Ey (((aa.refl af _).alloc _).trans hk)
 have:=hk.size
 exact⟨h1,h2,fun j v hv=>by rw[cell_of_row w1 _ j _ te (0,0) b3];exact hv,h3,h4,fun j=>frozen_of_row w1 _ j _ te b3,by omega⟩
theorem AK {fn:Func} {p:Tmp} {ty:TypeId} (h:fn.results=#[.cell p ty]) (tmps:Array Value) (P:Program) (w:World) :
 (results fn tmps).run P w=((asAddr (tmps.getD p undef)).run P w).andThen fun a w₁=>(loadVar ty a).run P w₁:=by
 simp only[results,h]
 simp[Sem.run_bind,Result.andThen]
def l9 (w:World) (g o:Nat) (v0 v1 v2 v3 v4:Value):World :=
 ((((w.setCell ⟨g,o,none⟩ v0).setCell ⟨g,o+1,none⟩ v1).setCell ⟨g,o+2,none⟩ v2).setCell ⟨g,o+3,none⟩ v3).setCell ⟨g,o+4,none⟩ v4
theorem EG (w:World) (g o:Nat) (v0 v1 v2 v3 v4:Value):aa (fun x=>x=g) w (l9 w g o v0 v1 v2 v3 v4):=by
 unfold l9
 exact((((cB w ⟨g,o,none⟩ v0).trans (cB _ ⟨g,o+1,none⟩ v1)).trans (cB _ ⟨g,o+2,none⟩ v2)).trans (cB _ ⟨g,o+3,none⟩ v3)).trans (cB _ ⟨g,o+4,none⟩ v4)
theorem Un (w:World) (g o:Nat) (v0 v1 v2 v3 v4:Value):(l9 w g o v0 v1 v2 v3 v4).heap.size=w.heap.size:=by unfold l9;simp[World.setCell]
theorem Own.Uo {e:TypeId} {S:Nat->Prop} {w:World} {g cp k:Nat} {rows:List jH} {r0:jH} (h:Own pK e S w (.slice (some ⟨g,0,none⟩) rows.length cp) rows) (hk:rows[k]?=some r0) (r:jH) :
 Own pK e S (l9 w g (k*5) (.int .i64 r.kind) (.int .i64 r.mode) (.int .i64 r.holds) (.string r.data) (.slice r.p r.n r.c)) (.slice (some ⟨g,0,none⟩) rows.length cp) (rows.set k r):=by
 obtain⟨hkl,hke⟩:=List.getElem?_eq_some_iff.1 hk
 have ln:∀(x:jH),(rows.set k x).length=rows.length:=fun x=>by simp
 have gt:∀(x:jH),(rows.set k x)[k]?=some x:=fun x=>by simp[hkl]
 have st:∀(x y:jH),(rows.set k x).set k y=rows.set k y:=fun x y=>by simp
 have h1:=h.stored k 0 r0 ⟨r.kind,r0.mode,r0.holds,r0.data,r0.p,r0.n,r0.c⟩ (.int .i64 r.kind) hk (by decide) rfl
 rw[<- ln ⟨r.kind,r0.mode,r0.holds,r0.data,r0.p,r0.n,r0.c⟩]at h1
 have h2:=h1.stored k 1 _ ⟨r.kind,r.mode,r0.holds,r0.data,r0.p,r0.n,r0.c⟩ (.int .i64 r.mode) (gt _) (by decide) rfl
 rw[st,ln,<- ln ⟨r.kind,r.mode,r0.holds,r0.data,r0.p,r0.n,r0.c⟩]at h2
 have h3:=h2.stored k 2 _ ⟨r.kind,r.mode,r.holds,r0.data,r0.p,r0.n,r0.c⟩ (.int .i64 r.holds) (gt _) (by decide) rfl
 rw[st,ln,<- ln ⟨r.kind,r.mode,r.holds,r0.data,r0.p,r0.n,r0.c⟩]at h3
 have h4:=h3.stored k 3 _ ⟨r.kind,r.mode,r.holds,r.data,r0.p,r0.n,r0.c⟩ (.string r.data) (gt _) (by decide) rfl
 rw[st,ln,<- ln ⟨r.kind,r.mode,r.holds,r.data,r0.p,r0.n,r0.c⟩]at h4
 have h5:=h4.stored k 4 _ r (.slice r.p r.n r.c) (gt _) (by decide) rfl
 rw[st,ln]at h5
 exact h5
theorem Uq {d:ag} {k:Nat} (hk:k<d.length) (x:Nd) (j:Int):nd (aX d (k:Int) x) j=if j=k then x else nd d j:=gu (by omega) (by omega) x j
section
variable{S:Nat->Prop} {w:World} {p:Option Addr} {c:Nat} {d:ag} {room:Int}
theorem sE (h:aI S w p c d) (hS:∀g,w.heap.size<=g->S g) (k:Nat) (hk:k<d.length) (hl:d.length<=4294967296) (x:Nd) (q:Option Addr) (m:Nat) (hx:bt aK S w q m x.ah) :
 Calls Tryz.prog 121 #[aE p c d room,.int .i64 k,.agg #[.int .i64 x.kind,.int .i64 x.mode,.int .i64 x.holds,.string x.data,.slice q x.ah.length m]] w fun e w' =>
  ∃v',e=.returned v'∧sD S w' v' (aX d k x) room∧aa af w w':=by
 have hcap:=h.cap
 have hmax:=h.max
 obtain⟨rows,hr1,hr2,gX⟩:=h.rows
 have hm2:=hmax
 unfold maxLen at hmax
 unfold aE
 have gT:=fun(wx:World) (hk:aa af w wx)=>(⟨p,c,by rw[hr1],hr2.ai hk⟩:Sl pK S wx (.slice p d.length c) rows)
 obtain⟨v',w',EX,ho',hk',hf'⟩:=FL (S:=fun g=>w.heap.size<=g) xD 35 (Own.nil pK 57 (fun g=>w.heap.size<=g) _)
  (gT (((w.alloc (.cells #[.slice p d.length c,.int .i64 room] 37)).alloc (.cells #[.int .i64 x.kind,.int .i64 x.mode,.int .i64 x.holds,.string x.data,.slice q x.ah.length m] 57)).alloc (.cells #[.slice none 0 0,.int .i64 0] 37))
    ((((aa.refl af w).alloc _).alloc _).alloc _)) (by simp;omega) (by simp;omega) (by simp;omega)
 rw[List.nil_append]at ho'
 have hkk:=hk'.mono (G:=af) (fun _ _ h=>by cases h)
 obtain⟨a1,a2,a3,z1,z2,z3,z4⟩:=Um hkk
 obtain⟨g,cp,cur,hv,cI,hg,CV,hcm,hsz,fZ⟩:=ho'.row (by omega)
 subst hv
 have A0:w'.cell? ⟨w.heap.size,0,none⟩=some (.slice p d.length c):=a1 0 _ rfl
 have A1:w'.cell? ⟨w.heap.size,1,none⟩=some (.int .i64 room):=a1 1 _ rfl
 have B0:w'.cell? ⟨w.heap.size+1,0,none⟩=some (.int .i64 x.kind):=a2 0 _ rfl
 have B1:w'.cell? ⟨w.heap.size+1,1,none⟩=some (.int .i64 x.mode):=a2 1 _ rfl
 have B2:w'.cell? ⟨w.heap.size+1,2,none⟩=some (.int .i64 x.holds):=a2 2 _ rfl
 have B3:w'.cell? ⟨w.heap.size+1,3,none⟩=some (.string x.data):=a2 3 _ rfl
 have B4:w'.cell? ⟨w.heap.size+1,4,none⟩=some (.slice q x.ah.length m):=a2 4 _ rfl
 have C0:w'.cell? ⟨w.heap.size+2,0,none⟩=some (.slice none 0 0):=a3 0 _ rfl
 have C1:w'.cell? ⟨w.heap.size+2,1,none⟩=some (.int .i64 0):=a3 1 _ rfl
 have zg:∀j,w'.frozen? ⟨g,j,none⟩=false:=fun j=>frozen_of_row w' g j cur _ hg
 have hgg:w.heap.size+3<=g:=by
  rcases hf' g rfl with e|e
  ·cases e
  ·simpa using e
 have LK:¬g=w.heap.size:=by omega
 have LL:¬g=w.heap.size+1:=by omega
 have LM:¬g=w.heap.size+2:=by omega
 obtain⟨r0,hr0⟩:∃r,rows[k]?=some r:=⟨_,List.getElem?_eq_getElem (by omega)⟩
 obtain⟨_,_,hgo,_,_,hcc⟩:=ho'.at.at hr0
 cases hgo
 have D0:w'.cell? ⟨g,k*5,none⟩=some (.int .i64 r0.kind):=by have:=hcc 0 _ rfl;rwa [Nat.zero_add]at this
 have D1:w'.cell? ⟨g,k*5+1,none⟩=some (.int .i64 r0.mode):=by have:=hcc 1 _ rfl;rwa [Nat.zero_add]at this
 have D2:w'.cell? ⟨g,k*5+2,none⟩=some (.int .i64 r0.holds):=by have:=hcc 2 _ rfl;rwa [Nat.zero_add]at this
 have D3:w'.cell? ⟨g,k*5+3,none⟩=some (.string r0.data):=by have:=hcc 3 _ rfl;rwa [Nat.zero_add]at this
 have D4:w'.cell? ⟨g,k*5+4,none⟩=some (.slice r0.p r0.n r0.c):=by have:=hcc 4 _ rfl;rwa [Nat.zero_add]at this
 rw[hr1]at EX
 have Ws:d.length<=cp:=by omega
 unfold maxLen at hcm
 have HO:=Lib.hid ho'
 have jR:=Lib.hid hkk
 have Ur:=Lib.hid hr0
 have Us:=Lib.hid hgg
 have LN:=Lib.hid EX
 have Ut:=Lib.hid hr1
 have Uu:=Lib.hid gX
 clear ho' hkk hr0 hcc hk' hf' a1 a2 a3 fZ hsz cI hg hgg hr1 hr2 gX h hm2 gT EX CV
 go_enter Tryz.func121,Tryz.ntmps121
 have AV:¬w.heap.size=g:=by omega
 have Uv:¬w.heap.size+1=g:=by omega
 have AW:¬w.heap.size+2=g:=by omega
 go_upto_region 4 with(at_builtin;go_loud(refine Lib.wpList_append_run_sl _ rfl (.tmp 8) (.tmp 10) _ rfl _ _ rfl rfl LN.out ?_))
 change Code.wp _ _ _ _ (l9 w' g (k*5) (.int .i64 x.kind) (.int .i64 x.mode) (.int .i64 x.holds) (.string x.data) (.slice q x.ah.length m))
 have bX:=EG w' g (k*5) (.int .i64 x.kind) (.int .i64 x.mode) (.int .i64 x.holds) (.string x.data) (.slice q x.ah.length m)
 have zy:=HO.out.Uo Ur.out ⟨x.kind,x.mode,x.holds,x.data,q,x.ah.length,m⟩
 have LO:=Un w' g (k*5) (.int .i64 x.kind) (.int .i64 x.mode) (.int .i64 x.holds) (.string x.data) (.slice q x.ah.length m)
 generalize l9 w' g (k*5) (.int .i64 x.kind) (.int .i64 x.mode) (.int .i64 x.holds) (.string x.data) (.slice q x.ah.length m)=w5 at *
 have Tj:=(bX.cell (p:=⟨w.heap.size,0,none⟩) (by simp only;omega) AV).trans A0
 have Tk:=(bX.cell (p:=⟨w.heap.size,1,none⟩) (by simp only;omega) AV).trans A1
 have Wt:=(bX.cell (p:=⟨w.heap.size+2,0,none⟩) (by simp only;omega) AW).trans C0
 have Wu:=(bX.cell (p:=⟨w.heap.size+2,1,none⟩) (by simp only;omega) AW).trans C1
 have Wv:=fun j=>(bX.frozen (p:=⟨w.heap.size,j,none⟩) (by simp only;omega) AV).trans (z1 j)
 have Ww:=fun j=>(bX.frozen (p:=⟨w.heap.size+2,j,none⟩) (by simp only;omega) AW).trans (z3 j)
 have kM:=Lib.hid bX
 have Uw:=Lib.hid zy
 have Wx:=Lib.hid LO
 have EW:=Lib.hid (⟨LK,LL,LM⟩:_∧_∧_)
 have Hx:=Lib.hid hx
 clear A0 A1 B0 B1 B2 B3 B4 C0 C1 D0 D1 D2 D3 D4 z1 z2 z3 zg bX zy LO HO LN LK LL LM AV Uv AW hx
 go_wp2
 have oB:aa af w w':=((((aa.refl af w).alloc _).alloc _).alloc _).trans jR.out
 have Ux:aa af w w5:=oB.step kM.out (fun b hb=>.inr (by have:=Us.out;omega))
 (try simp only[Exit.inBlock,Exit.then])
 refine bodyPost_ret (v:=.agg #[.slice (some ⟨g,0,none⟩) d.length cp,.int .i64 room]) ?_ rfl ⟨_,rfl,?_⟩
 ·rw[AK rfl]
  go_simp
 ·have k6:aa (fun b=>b=w.heap.size∨b=w.heap.size+2) w5 (((w5.setCell ⟨w.heap.size,0,none⟩ (.slice (some ⟨g,0,none⟩) d.length cp)).setCell ⟨w.heap.size+1+1,0,none⟩ (.slice (some ⟨g,0,none⟩) d.length cp)).setCell ⟨w.heap.size+1+1,1,none⟩ (.int .i64 room)) :=
   ((((cB w5 ⟨w.heap.size,0,none⟩ _).mono (fun b _ hb=>.inl hb)).trans ((cB _ ⟨w.heap.size+1+1,0,none⟩ _).mono (fun b _ hb=>.inr hb))).trans ((cB _ ⟨w.heap.size+1+1,1,none⟩ _).mono (fun b _ hb=>.inr hb)))
  have kF:aa af w (((w5.setCell ⟨w.heap.size,0,none⟩ (.slice (some ⟨g,0,none⟩) d.length cp)).setCell ⟨w.heap.size+1+1,0,none⟩ (.slice (some ⟨g,0,none⟩) d.length cp)).setCell ⟨w.heap.size+1+1,1,none⟩ (.int .i64 room)) :=
   Ux.step k6 (fun b hb=>.inr (by omega))
  refine⟨⟨some ⟨g,0,none⟩,cp,by unfold aE;rw[jl],⟨rows.set k ⟨x.kind,x.mode,x.holds,x.data,q,x.ah.length,m⟩,by rw[List.length_set,jl];exact Ut.out,?_,fun i r hi=>?_⟩⟩,kF⟩
  ·have h1:=Uw.out.keep k6 (fun b hb e=>by
    simp[Value.ownBlock]at hb
    have:=EW.out
    subst hb
    rcases e with e|e
    ·exact this.1 e
    ·exact this.2.2 e)
   have h2:=h1.sl.mono (fun b hb _=>hS b hb)
   have:(rows.set k (⟨x.kind,x.mode,x.holds,x.data,q,x.ah.length,m⟩:jH)).length=rows.length:=by simp
   rw[<- this]at h2
   exact h2.at'
  ·rw[List.getElem?_set]at hi
   rw[Uq hk]
   split at hi
   ·next e =>
    subst e
    rw[if_pos rfl]
    split at hi
    ·cases hi
     exact⟨rfl,rfl,rfl,rfl,rfl,Hx.out.ai kF⟩
    ·cases hi
   ·next e =>
    rw[if_neg (by omega)]
    exact(Uu.out i r hi).cN kF (fun _ _ _ h=>h) (fun _ h _=>h)
end
set_option maxRecDepth 100000
set_option maxHeartbeats 1000000
def K4 (S:Nat->Prop) (w:World) (d:ag) (room id:Int) (e:Ending) (w':World):Prop :=
 ∃p' c' d',e=.returned (aE p' c' d' room)∧aI S w' p' c' d'∧aa af w w'∧cJ d d'∧¬fS d' id∧∀j,fS d' j->fS d j
def AJ (n:Nat):Prop:=∀S w p c d room id,count d=n->aI S w p c d->(∀g,w.heap.size<=g->S g)->aG d->aP d->0<=id->id.toNat<d.length ->
 Calls Tryz.prog 125 #[aE p c d room,.int .i64 id] w (K4 S w d room id)
theorem cJ.oR {d d':ag} {i:Int} (h:fS d i) (k:cJ d d') (hh:has d' i):fS d' i:=by
 induction k with
 | refl=>exact h
 | step j hj _ ih =>
   by_cases e:i=j
   ·subst e
    have:=(cJ.was ‹_› hh).1
    exact absurd rfl ((jZ hj.1).1 this).1
   ·exact ih (h.other hj.1 e) hh
theorem S3 {d:ag} {i j:Int} (hi:has d i) (h:fS (kill d i) j):fS d j∨∃e∈(nd d i).ah,e.2=j:=by
 obtain⟨h1,h2,h3⟩:=h
 obtain⟨h4,h5⟩:=(jZ hi).1 h1
 rw[kT hi,if_neg h4]at h3
 by_cases hn:eY j (nd d i)=0
 ·have:=vP hi j
  exact .inl ⟨h5,by omega,h3⟩
 ·exact .inr (vQ.1 (by omega))
theorem K6 {d d':ag} (k:cJ d d') (h:aP d):aP d':=by
 have:=k.aH
 unfold aP at *
 omega
structure La (d d1:ag) (k:Nat) (es:List aD):Prop where
 kills:cJ d d1
 oR:∀j,fS d1 j->fS d j∨∃e∈es,e.2=j
 gone:¬has d1 k
 less:es≠[]->count d1<count d
 inv:aG d1
 small:aP d1
 range:∀e∈es,0<=e.2∧e.2.toNat<d.length
theorem S5 {d:ag} {k:Nat} (hI:aG d) (hs:aP d) (h1:links d (k:Int)=0) (h2:(nd d (k:Int)).holds=0):La d (kill d (k:Int)) k (nd d (k:Int)).ah:=by
 have Lb:∀e∈(nd d (k:Int)).ah,0<=e.2∧e.2.toNat<d.length:=fun e he=>bF (hI.tgt k e he).1
 by_cases hi:has d (k:Int)
 ·have hg:fS d (k:Int):=⟨hi,h1,h2⟩
  refine⟨.one hg,fun j hj=>S3 hi hj,fun h=>((jZ hi).1 h).1 rfl,fun _=>by have:=rT hi;omega,hI.kill hg,K6 (.one hg) hs,Lb⟩
 ·have Lc:=(hI.node k).gone (j8 hi)
  have he:kill d (k:Int)=d:=by
   refine ag.ext (sV _ _) fun j=>?_
   by_cases hk:k<d.length
   ·unfold kill
    rw[gu (by omega) (by omega)]
    split
    ·next e=>rw[e,Lc]
    ·rfl
   ·unfold kill aX
    rw[if_pos (by omega),List.set_eq_of_length_le (by omega)]
  rw[he]
  refine⟨.refl d,fun j hj=>.inl hj,hi,fun h=>?_,hI,hs,Lb⟩
  rw[Lc]at h
  exact absurd rfl h
theorem S9 {S:Nat->Prop} {w:World} {p:Option Addr} {c:Nat} {d:ag} {room:Int} (h:aI S w p c d) (hS:∀g,w.heap.size<=g->S g) (k:Nat) (hk:k<d.length) (hl:d.length<=4294967296) :
 Calls Tryz.prog 121 #[aE p c d room,.int .i64 k,.agg #[.int .i64 0,.int .i64 0,.int .i64 0,.string ⟨#[]⟩,.slice none 0 0]] w fun e w'=>∃v',e=.returned v'∧sD S w' v' (kill d k) room∧aa af w w' :=
 sE h hS k hk hl Nd.gone none 0 ((Sl.nil aK S w).at')
def jh (S:Nat->Prop) (w:World):Nat->Prop:=fun b=>S b∧b≠w.heap.size∧b≠w.heap.size+1
structure FJ (S:Nat->Prop) (w wr:World) (d d1:ag) (room:Int) (es:List aD) (t:Nat) (p:Option Addr) (c:Nat) (dt:ag):Prop where
 A0:wr.cell? ⟨w.heap.size,0,none⟩=some (.slice p d.length c)
 A1:wr.cell? ⟨w.heap.size,1,none⟩=some (.int .i64 room)
 C0:wr.cell? ⟨w.heap.size+1,0,none⟩=some (.slice none 0 0)
 C1:wr.cell? ⟨w.heap.size+1,1,none⟩=some (.int .i64 0)
 zA:∀j,wr.frozen? ⟨w.heap.size,j,none⟩=false
 zC:∀j,wr.frozen? ⟨w.heap.size+1,j,none⟩=false
 ref:aI (jh S w) wr p c dt
 kills:cJ d1 dt
 oR:∀j,fS dt j->fS d j∨∃e∈es.drop t,e.2=j
 keeps:aa af w wr
theorem Ld {S:Nat->Prop} {w wr:World} {d d1:ag} {room:Int} {es:List aD} {t:Nat} {p:Option Addr} {c:Nat} {dt:ag} {v0 v1:Value}
 (A0:wr.cell? ⟨w.heap.size,0,none⟩=some v0) (A1:wr.cell? ⟨w.heap.size,1,none⟩=some v1) (C0:wr.cell? ⟨w.heap.size+1,0,none⟩=some (.slice none 0 0)) (C1:wr.cell? ⟨w.heap.size+1,1,none⟩=some (.int .i64 0))
 (zA:∀j,wr.frozen? ⟨w.heap.size,j,none⟩=false) (zC:∀j,wr.frozen? ⟨w.heap.size+1,j,none⟩=false) (ref:aI (jh S w) wr p c dt) (kills:cJ d1 dt) (oR:∀j,fS dt j->fS d j∨∃e∈es.drop t,e.2=j) (keeps:aa af w wr) :
 FJ S w ((wr.setCell ⟨w.heap.size,0,none⟩ (.slice p d.length c)).setCell ⟨w.heap.size,1,none⟩ (.int .i64 room)) d d1 room es t p c dt:=by
 have kk:aa (fun b=>b=w.heap.size) wr ((wr.setCell ⟨w.heap.size,0,none⟩ (.slice p d.length c)).setCell ⟨w.heap.size,1,none⟩ (.int .i64 room)):=(cB wr ⟨w.heap.size,0,none⟩ _).trans (cB _ ⟨w.heap.size,1,none⟩ _)
 have hC:=dm C0
 have b0:=cZ (k:=1) (u:=.int .i64 room) (cZ (k:=0) (u:=.slice p d.length c) A0)
 have b1:=cZ (k:=1) (u:=.int .i64 room) (cZ (k:=0) (u:=.slice p d.length c) A1)
 refine⟨b0,b1,(kk.cell (p:=⟨w.heap.size+1,0,none⟩) hC (by simp)).trans C0,(kk.cell (p:=⟨w.heap.size+1,1,none⟩) hC (by simp)).trans C1,fun j=>?_,fun j=>(kk.frozen (p:=⟨w.heap.size+1,j,none⟩) hC (by simp)).trans (zC j),
  ref.cN kk (fun g hg _ e=>hg.2.1 e) (fun g hg _=>hg),kills,oR,keeps.step kk (fun g hg=>.inr (by omega))⟩
 exact(j6 _ _ _ _).trans ((j6 _ _ _ _).trans (zA j))
theorem Ta {S:Nat->Prop} {w wr wx w4:World} {d d1:ag} {room:Int} {es:List aD} {t:Nat} {p:Option Addr} {c:Nat} {dt:ag} (J:FJ S w wr d d1 room es t p c dt) (fK:aa af wr wx) (bB:aa af wx w4) :
 w4.cell? ⟨w.heap.size,0,none⟩=some (.slice p d.length c)∧w4.cell? ⟨w.heap.size,1,none⟩=some (.int .i64 room)∧w4.cell? ⟨w.heap.size+1,0,none⟩=some (.slice none 0 0)∧w4.cell? ⟨w.heap.size+1,1,none⟩=some (.int .i64 0) ∧
 (∀j,w4.frozen? ⟨w.heap.size,j,none⟩=false)∧(∀j,w4.frozen? ⟨w.heap.size+1,j,none⟩=false):=by
 have k:=fK.trans bB
 have l1:=dm J.A0
 have l2:=dm J.C0
 exact⟨(k.cell (p:=⟨w.heap.size,0,none⟩) l1 (fun h=>h)).trans J.A0,(k.cell (p:=⟨w.heap.size,1,none⟩) l1 (fun h=>h)).trans J.A1,(k.cell (p:=⟨w.heap.size+1,0,none⟩) l2 (fun h=>h)).trans J.C0,(k.cell (p:=⟨w.heap.size+1,1,none⟩) l2 (fun h=>h)).trans J.C1,
  fun j=>(k.frozen (p:=⟨w.heap.size,j,none⟩) l1 (fun h=>h)).trans (J.zA j),fun j=>(k.frozen (p:=⟨w.heap.size+1,j,none⟩) l2 (fun h=>h)).trans (J.zC j)⟩
theorem Tb {n:Nat} (ih:∀m,m<n->AJ m) {S:Nat->Prop} {w wr:World} {d:ag} {k:Nat} {room:Int} {es:List aD} {t:Nat} {p:Option Addr} {c:Nat} {dt:ag} {x:aD} (hn:count d=n) (F:La d (kill d (k:Int)) k es)
 (J:FJ S w wr d (kill d (k:Int)) room es t p c dt) (hS:∀g,w.heap.size<=g->S g) (hx:es[t]?=some x) (hk:k<d.length):∀wx,aa af wr wx ->
 Calls Tryz.prog 125 #[.agg #[.slice p d.length c,.int .i64 room],.int .i64 x.2] wx fun e w'=>∃p' c' d',e=.returned (.agg #[.slice p' d.length c',.int .i64 room])∧aI (jh S w) w' p' c' d'∧aa af wx w'∧cJ (kill d (k:Int)) d' ∧
  ∀j,fS d' j->fS d j∨∃e∈es.drop (t+1),e.2=j:=fun wx fK=>by
 have hmem:=List.mem_of_getElem? hx
 have hlen:dt.length=d.length:=by rw[J.kills.length,sV]
 have hne:es≠[]:=fun e=>by subst e;cases hmem
 have hc:count dt<n:=by have:=J.kills.count_le;have:=F.less hne;omega
 have hsz:=dm J.C0
 have hr:=F.range x hmem
 have hcall:=ih _ hc (jh S w) wx p c dt room x.2 rfl (J.ref.ai fK) (fun g hg=>by
  have:=fK.size
  simp only at hsz
  exact⟨hS g (by omega),by omega,by omega⟩) (F.inv.kills J.kills) (K6 J.kills F.small) hr.1 (by omega)
 unfold aE at hcall
 rw[hlen]at hcall
 refine hcall.mono ?_
 rintro e w' ⟨p',c',d',he,h1,h2,h3,h4,h5⟩
 refine⟨p',c',d',?_,h1,h2,J.kills.trans h3,fun j hj=>?_⟩
 ·rw[he];unfold aE;rw[h3.length,hlen]
 ·rcases J.oR j (h5 j hj)with h|⟨e,h6,h7⟩
  ·exact .inl h
  ·right
   have hd:es.drop t=x::es.drop (t+1):=by
    obtain⟨hl,he⟩:=List.getElem?_eq_some_iff.1 hx
    rw[<- he];exact List.drop_eq_getElem_cons hl
   rw[hd]at h6
   rcases List.mem_cons.1 h6 with rfl|h6
   ·subst h7;exact absurd hj h4
   ·exact⟨e,h6,h7⟩
theorem Tc (n:Nat) (ih:∀m,m<n->AJ m):AJ n:=by
 intro S w p c d room id hn h hS hI hs h0 hlt
 have hcap:=h.cap
 have hmax:=h.max
 unfold maxLen at hmax
 have hz:=hI.zero
 have h2:=hI.two
 have hal:aa af w ((w.alloc (.cells #[.slice p d.length c,.int .i64 room] 37)).alloc (.cells #[.slice none 0 0,.int .i64 0] 37)):=((aa.refl _ _).alloc _).alloc _
 have hlk:=DA (room:=room) (h.ai hal) hz (by omega) hs id
 obtain⟨k,rfl⟩:∃k:Nat,id=(k:Int):=⟨id.toNat,by omega⟩
 have hk:k<d.length:=by omega
 obtain⟨g,off,q,m,rfl,cI,hrow⟩:=h.rowAt hk
 have HR:=Lib.hid (fun(w1:World) (hk1:aa af w w1)=>hrow.ai hk1)
 have hbx:=Lib.hid (fun(w1:World) (hk1:aa af ((w.alloc (.cells #[.slice (some ⟨g,off,none⟩) d.length c,.int .i64 room] 37)).alloc (.cells #[.slice none 0 0,.int .i64 0] 37)) w1)=>Ey hk1)
 have HA:=Lib.hid hal
 have Hh:=Lib.hid h
 have HI:=Lib.hid hI
 have Wi:=Lib.hid hs
 by_cases hg:links d (k:Int)=0∧(nd d (k:Int)).holds=0
 case neg =>
  have hend:Hid (∀w',aa af w w'->K4 S w d room k (.returned (aE (some ⟨g,off,none⟩) c d room)) w'):=fun w' hk'=>⟨_,_,d,rfl,Hh.out.ai hk',hk',.refl d,fun hgb=>hg ⟨hgb.2.1,hgb.2.2⟩,fun _ h=>h⟩
  have xk:(0:Int)<(links d (k:Int):Int)∨((links d (k:Int):Int)=0∧0<(nd d (k:Int)).holds):=by
   have h1:=(hI.node k).holds
   by_cases h2:links d (k:Int)=0
   ·exact .inr ⟨by omega,by have:¬(nd d (k:Int)).holds=0:=fun e=>hg ⟨h2,e⟩;omega⟩
   ·exact .inl (by omega)
  unfold aE at *
  have Le:=hlk
  clear hlk
  generalize(links d (k:Int):Int)=ng at *
  have HL:=Lib.hid Le
  clear Le hrow h hI hs hz h2 hn ih hg hal
  rcases xk with h1|⟨rfl,h1⟩
  all_goals
   go_enter Tryz.func125,Tryz.ntmps125
   go_wp2_with(go_at_call 31;refine HL.out.mono ?_;rintro e w1 ⟨rfl,hk1⟩;obtain⟨a1,a2,z1,z2,z3⟩:=hbx.out w1 hk1;have A0:w1.cell? ⟨w.heap.size,0,none⟩=some (.slice (some ⟨g,off,none⟩) d.length c):=a1 0 _ rfl;have A1:w1.cell? ⟨w.heap.size,1,none⟩=some (.int .i64 room):=a1 1 _ rfl;have C0:w1.cell? ⟨w.heap.size+1,0,none⟩=some (.slice none 0 0):=a2 0 _ rfl;have C1:w1.cell? ⟨w.heap.size+1,1,none⟩=some (.int .i64 0):=a2 1 _ rfl;have oB:=HA.out.trans hk1;have hr1:=HR.out w1 oB;have R2:=hr1.c2;have R4:=hr1.c4;have hgl:=hr1.lt;have xo:=Lib.hid oB;clear a1 a2 oB hr1 hk1)
   (try simp only[Exit.inBlock,Exit.then])
   refine bodyPost_ret (v:=.agg #[.slice (some ⟨g,off,none⟩) d.length c,.int .i64 room]) ?_ rfl ?_
   ·rw[AK rfl]
    go_simp
   ·exact hend.out _ ((xo.out.setCell (p:=⟨w.heap.size+1,0,none⟩) (.inr (by simp)) _).setCell (p:=⟨w.heap.size+1,1,none⟩) (.inr (by simp)) _)
 case pos =>
  obtain⟨hg1,gR⟩:=hg
  rw[hg1]at hlk
  have F:=S5 hI hs hg1 gR
  have hput:=Lib.hid (fun(w1:World) (hk1:aa af w w1) (hsz:w.heap.size+2<=w1.heap.size)=>S9 (S:=jh S w) (room:=room) (h.cN hk1 (fun _ _ _ h=>h) (fun g hg hl=>⟨hg,by omega,by omega⟩)) (fun g hg=>⟨hS g (by omega),by omega,by omega⟩) k hk (by have:=jm d;unfold aP at hs;omega))
  have HF:=Lib.hid F
  have gT:=Lib.hid (fun(w1:World) (hk1:aa af w w1)=>(hrow.ai hk1).sl)
  have hel:=gx hs (k:Int)
  have u6:=hrow.sl.cap
  have m9:=hrow.sl.max
  have Ez:=hrow.c2
  rw[gR]at Ez
  have uU:=Lib.hid (fun(w1:World) (hk1:aa af w w1)=>(⟨(hk1.cell (p:=⟨g,_,none⟩) hrow.lt (fun h=>h)).trans Ez,(hrow.ai hk1).c4,(hrow.ai hk1).lt⟩:_∧_∧_))
  unfold maxLen at m9
  unfold aE at *
  have HL:=Lib.hid hlk
  have HS:=Lib.hid hS
  have Td:=Lib.hid ih
  have Hn:=Lib.hid hn
  have HG:=Lib.hid (⟨hg1,gR⟩:_∧_)
  clear hlk hrow h hI hs hz h2 hn ih hg1 gR hal F hS Ez HR
  generalize hes:(nd d (k:Int)).ah=es at *
  go_enter Tryz.func125,Tryz.ntmps125
  go_wp2_with(first|(go_at_call 31;refine HL.out.mono ?_;rintro e w1 ⟨rfl,hk1⟩;obtain⟨a1,a2,z1,z2,z3⟩:=hbx.out w1 hk1;have A0:w1.cell? ⟨w.heap.size,0,none⟩=some (.slice (some ⟨g,off,none⟩) d.length c):=a1 0 _ rfl;have A1:w1.cell? ⟨w.heap.size,1,none⟩=some (.int .i64 room):=a1 1 _ rfl;have oB:=HA.out.trans hk1;obtain⟨R2,R4,hgl⟩:=uU.out w1 oB;have xo:=Lib.hid oB;have tG:=Lib.hid hk1;clear a1 a2 oB hk1)|(go_at_call 121;go_loud(refine(hput.out _ xo.out z3).mono ?_);rintro e w2 ⟨v',rfl,eU,hk2⟩;obtain⟨p1,c1,hv,eU⟩:=eU;unfold aE at hv;rw[sV]at hv;subst hv;obtain⟨a1,a2,y1,y2,y3⟩:=hbx.out w2 (tG.out.trans hk2);have A2:w2.cell? ⟨w.heap.size,0,none⟩=some (.slice (some ⟨g,off,none⟩) d.length c):=a1 0 _ rfl;have A3:w2.cell? ⟨w.heap.size,1,none⟩=some (.int .i64 room):=a1 1 _ rfl;have C2:w2.cell? ⟨w.heap.size+1,0,none⟩=some (.slice none 0 0):=a2 0 _ rfl;have C3:w2.cell? ⟨w.heap.size+1,1,none⟩=some (.int .i64 0):=a2 1 _ rfl;have Lf:=Lib.hid (xo.out.trans hk2);have Lg:=Lib.hid eU;clear a1 a2 hk2 eU))
  have hJ:=Ld (room:=room) (es:=es) (t:=0) A2 A3 C2 C3 y1 y2 Lg.out (.refl _) HF.out.oR Lf.out
  have HJ:=Lib.hid hJ
  clear hJ A0 A1 A2 A3 C2 C3 y1 y2 y3 z1 z2 z3 R2 R4 hgl Lg Lf xo tG hput HL hbx
  generalize(w2.setCell ⟨w.heap.size,0,none⟩ (.slice p1 d.length c1)).setCell ⟨w.heap.size,1,none⟩ (.int .i64 room)=w3 at *
  go_loopw [6] (fun x wr=>∃(t:Nat) (pt:Option Addr) (ct:Nat) (dt:ag),t<=es.length∧x=.int .i64 t∧FJ S w wr d (kill d k) room es t pt ct dt) (fun x _=>es.length-(intOf x).toNat)
  case atStart=>exact⟨0,_,_,_,Nat.zero_le _,rfl,HJ.out⟩
  case round =>
   rename_i wr
   obtain⟨t,pt,ct,dt,ht,rfl,hJ⟩:=hrel
   have A0:=hJ.A0
   have A1:=hJ.A1
   have C0:=hJ.C0
   have C1:=hJ.C1
   have zA:=hJ.zA
   have zC:=hJ.zC
   have vc:=Lib.hid hJ
   have hsz:=dm C0
   clear hJ HJ
   by_cases hlt:t<es.length
   ·obtain⟨x,hx⟩:∃x,es[t]?=some x:=⟨_,List.getElem?_eq_getElem hlt⟩
    obtain⟨g2,off2,rfl,_,gR,e0,e1⟩:=(gT.out wr vc.out.keeps).iW hx
    have hcall:=Tb Td.out Hn.out HF.out vc.out HS.out hx (by omega) (room:=room)
    have HC:=Lib.hid hcall
    clear hcall hx
    unfold aE at HC
    have pG:=Lib.hid (fun(wx w4:World) (fK:aa af wr wx) (bB:aa af wx w4)=>Ta vc.out fK bB (room:=room))
    clear gT uU
    go_wp2
    go_region_with(go_at_call 125;refine(HC.out _ ?_).mono ?_;(first|exact aa.refl _ _|exact(aa.refl _ _).drew|exact((aa.refl _ _).drew).drew);rintro e w4 ⟨p4,c4,d4,rfl,EA,bB,Te,sQ⟩;obtain⟨A4,A5,C4,C5,y1,y2⟩:=pG.out _ w4 (by first|exact aa.refl _ _|exact(aa.refl _ _).drew) bB)
    all_goals
     go_wp2_with fail
     go_roundw
     case rel=>exact⟨t+1,p4,c4,d4,by omega,by go_num,Ld A4 A5 C4 C5 y1 y2 EA Te sQ (by first|exact vc.out.keeps.trans bB|exact(vc.out.keeps.drew).trans bB)⟩
     case measure=>simp[intOf];omega
   ·have hd:es.drop t=[]:=List.drop_of_length_le (by omega)
    have HD:=Lib.hid hd
    clear hd gT uU
    go_wp2
    (try simp only[Exit.inBlock,Exit.then])
    refine bodyPost_ret (v:=.agg #[.slice pt d.length ct,.int .i64 room]) ?_ rfl ?_
    ·rw[AK rfl]
     go_simp
    ·have J:=vc.out
     have hlen:dt.length=d.length:=by rw[J.kills.length,sV]
     have kk:aa (fun b=>b=w.heap.size+1) wr ((wr.setCell ⟨w.heap.size+1,0,none⟩ (.slice pt d.length ct)).setCell ⟨w.heap.size+1,1,none⟩ (.int .i64 room)):=(cB wr ⟨w.heap.size+1,0,none⟩ _).trans (cB _ ⟨w.heap.size+1,1,none⟩ _)
     refine⟨pt,ct,dt,by unfold aE;rw[hlen],J.ref.cN kk (fun b hb _ e=>hb.2.2 e) (fun b hb _=>hb.1),J.keeps.step kk (fun b hb=>.inr (by omega)),HF.out.kills.trans J.kills,fun hgb=>HF.out.gone (J.kills.was hgb.1).1,fun j hj=>?_⟩
     rcases J.oR j hj with h|⟨e,h6,_⟩
     ·exact h
     ·rw[HD.out]at h6;cases h6
theorem Tf (n:Nat):AJ n:=by
 induction n using Nat.strongRecOn with
 | ind n ih=>exact Tc n ih
theorem EB {S:Nat->Prop} {w:World} {p:Option Addr} {c:Nat} {d:ag} {room:Int} (h:aI S w p c d) (hS:∀g,w.heap.size<=g->S g) (hI:aG d) (hs:aP d) (id:Int) (hid:has d id) (hg:∀j,fS d j->j=id) :
 Calls Tryz.prog 125 #[aE p c d room,.int .i64 id] w fun e w'=>∃p' c',e=.returned (aE p' c' (gc d) room)∧aI S w' p' c' (gc d)∧aa af w w':=by
 have hr:=bF hid
 refine(Tf _ S w p c d room id rfl h hS hI hs hr.1 hr.2).mono ?_
 rintro e w' ⟨p',c',d',rfl,h1,h2,h3,h4,h5⟩
 have hn:bK d':=fun j hj=>by
  have:=hg j (h5 j hj)
  subst this
  exact h4 hj
 rw[BQ h3 hn]
 exact⟨p',c',rfl,h1,h2⟩
set_option maxRecDepth 100000
set_option maxHeartbeats 1000000
structure nZ (w w1:World) (p:Option Addr) (n c:Nat) (room:Int):Prop where
 A0:w1.cell? ⟨w.heap.size,0,none⟩=some (.slice p n c)
 A1:w1.cell? ⟨w.heap.size,1,none⟩=some (.int .i64 room)
 C0:w1.cell? ⟨w.heap.size+1,0,none⟩=some (.slice none 0 0)
 C1:w1.cell? ⟨w.heap.size+1,1,none⟩=some (.int .i64 0)
 zA:∀j,w1.frozen? ⟨w.heap.size,j,none⟩=false
 zC:∀j,w1.frozen? ⟨w.heap.size+1,j,none⟩=false
 size:w.heap.size+2<=w1.heap.size
 keeps:aa af w w1
theorem iH {w w1:World} {p:Option Addr} {n c:Nat} {room:Int} {t1 t2:TypeId} (hk:aa af ((w.alloc (.cells #[.slice p n c,.int .i64 room] t1)).alloc (.cells #[.slice none 0 0,.int .i64 0] t2)) w1):nZ w w1 p n c room:=by
 obtain⟨a1,a2,z1,z2,z3⟩:=Ey hk
 exact⟨a1 0 _ rfl,a1 1 _ rfl,a2 0 _ rfl,a2 1 _ rfl,z1,z2,z3,(((aa.refl af w).alloc _).alloc _).trans hk⟩
theorem nZ.on {w w1 w2:World} {p:Option Addr} {n c:Nat} {room:Int} (h:nZ w w1 p n c room) (k:aa af w1 w2):nZ w w2 p n c room:=by
 have l1:=dm h.A0
 have l2:=dm h.C0
 have:=k.size
 exact⟨(k.cell (p:=⟨w.heap.size,0,none⟩) l1 (fun h=>h)).trans h.A0,(k.cell (p:=⟨w.heap.size,1,none⟩) l1 (fun h=>h)).trans h.A1,(k.cell (p:=⟨w.heap.size+1,0,none⟩) l2 (fun h=>h)).trans h.C0,(k.cell (p:=⟨w.heap.size+1,1,none⟩) l2 (fun h=>h)).trans h.C1,
  fun j=>(k.frozen (p:=⟨w.heap.size,j,none⟩) l1 (fun h=>h)).trans (h.zA j),fun j=>(k.frozen (p:=⟨w.heap.size+1,j,none⟩) l2 (fun h=>h)).trans (h.zC j),by have:=h.size;omega,h.keeps.trans k⟩
def eH (S:Nat->Prop) (w:World) (d':ag) (room err:Int) (e:Ending) (w':World):Prop :=
 ∃p' c',e=.returned (.tuple #[aE p' c' d' room,.int .i64 err])∧aI S w' p' c' d'∧aa af w w'
section
variable{S:Nat->Prop} {w:World} {p:Option Addr} {c:Nat} {d:ag} {room:Int}
theorem aI.gO (h:aI S w p c d) {w1:World} (hk:aa af w w1):aI (jh S w) w1 p c d:=h.cN hk (fun _ _ _ h=>h) (fun g hg hl=>⟨hg,by omega,by omega⟩)
theorem sF (hS:∀g,w.heap.size<=g->S g) {w1:World} (hk:w.heap.size+2<=w1.heap.size):∀g,w1.heap.size<=g->jh S w g:=fun g hg=>⟨hS g (by omega),by omega,by omega⟩
theorem dP {w1:World} {p':Option Addr} {c':Nat} {d':ag} {err:Int} (h:aI (jh S w) w1 p' c' d') (k:aa af w w1) (v0 v1:Value) :
 eH S w d' room err (.returned (.tuple #[aE p' c' d' room,.int .i64 err])) ((w1.setCell ⟨w.heap.size+1,0,none⟩ v0).setCell ⟨w.heap.size+1,1,none⟩ v1):=by
 have kk:aa (fun b=>b=w.heap.size+1) w1 ((w1.setCell ⟨w.heap.size+1,0,none⟩ v0).setCell ⟨w.heap.size+1,1,none⟩ v1):=(cB w1 ⟨w.heap.size+1,0,none⟩ _).trans (cB _ ⟨w.heap.size+1,1,none⟩ _)
 exact⟨_,_,rfl,h.cN kk (fun b hb _ e=>hb.2.2 e) (fun b hb _=>hb.1),k.step kk (fun b hb=>.inr (by omega))⟩
def oL (d:ag) (i b:Int):ag:=aX d i ((nd d i).bT ((nd d i).holds+b))
def jS (d:ag) (i b:Int):Int:=if has d i∧(0<=b∨(nd d i).holds≠0)then 0 else 12
theorem tF (h:aI S w p c d) (hS:∀g,w.heap.size<=g->S g) (hI:aG d) (hcl:bK d) (hs:aH d+1<=2147483648) (i b:Int) (hb:b=1∨b=-1) :
 Calls Tryz.prog 102 #[aE p c d room,.int .i64 i,.int .i64 b] w (eH S w (if jS d i b=0 then gc (oL d i b)else d) room (jS d i b)):=by
 have hcap:=h.cap
 have hmax:=h.max
 unfold maxLen at hmax
 have hal:aa af w ((w.alloc (.cells #[.slice p d.length c,.int .i64 room] 37)).alloc (.cells #[.slice none 0 0,.int .i64 0] 37)):=((aa.refl _ _).alloc _).alloc _
 have hh:=rA (room:=room) (h.ai hal) hI.zero i
 have eC:aP d:=by unfold aP;omega
 by_cases hi:has d i
 case neg =>
  have e:jS d i b=12:=if_neg (fun h=>hi h.1)
  rw[e,if_neg (by decide)]
  rw[decide_eq_false hi]at hh
  have HH:=Lib.hid hh
  have Hh:=Lib.hid (fun(w1:World) (hk:aa af w w1)=>h.gO hk)
  clear hh h hS hI hcl hs hi hal e hb eC
  unfold aE at *
  go_enter Tryz.func102,Tryz.ntmps102
  go_wp2_with(go_at_call 30;refine HH.out.mono ?_;rintro e w1 ⟨rfl,hk1⟩;have B:=iH hk1;have A0:=B.A0;have A1:=B.A1;have C0:=B.C0;have C1:=B.C1;have zA:=B.zA;have zC:=B.zC)
  (try simp only[Exit.inBlock,Exit.then])
  refine bodyPost_ret (v:=.tuple #[.agg #[.slice p d.length c,.int .i64 room],.int .i64 12]) ?_ rfl ?_
  ·rw[results_cell_tmp rfl]
   go_simp
  ·exact dP (Hh.out _ B.keeps) B.keeps _ _
 case pos =>
  rw[decide_eq_true hi]at hh
  have hi0:=hi
  obtain⟨k,rfl,hk⟩:=eP hi
  obtain⟨g,off,q,m,rfl,cI,hrow⟩:=h.rowAt hk
  have HR:=Lib.hid (fun(w1:World) (hk1:aa af w w1)=>hrow.ai hk1)
  have Hh:=Lib.hid (fun(w1:World) (hk:aa af w w1)=>h.gO hk)
  by_cases hz:b=-1∧(nd d (k:Int)).holds=0
  ·obtain⟨rfl,hz⟩:=hz
   have e:jS d k (-1)=12:=if_neg (fun h=>h.2.elim (by omega) (fun h=>h hz))
   rw[e,if_neg (by decide)]
   have HC:=Lib.hid (fun(w1:World) (hk1:aa af w w1)=>(⟨by rw[<- hz];exact(hrow.ai hk1).c2,(hrow.ai hk1).lt⟩:w1.cell? ⟨g,off+k*5+2,none⟩=some (.int .i64 0)∧g<w1.heap.size))
   have HH:=Lib.hid hh
   clear hh h hS hI hcl hs hi hi0 hal e hb eC hrow hz
   unfold aE at *
   go_enter Tryz.func102,Tryz.ntmps102
   go_wp2_with(go_at_call 30;refine HH.out.mono ?_;rintro e w1 ⟨rfl,hk1⟩;have B:=iH hk1;have A0:=B.A0;have A1:=B.A1;have C0:=B.C0;have C1:=B.C1;have zA:=B.zA;have zC:=B.zC;obtain⟨R2,hgl⟩:=HC.out _ B.keeps)
   (try simp only[Exit.inBlock,Exit.then])
   refine bodyPost_ret (v:=.tuple #[.agg #[.slice (some ⟨g,off,none⟩) d.length c,.int .i64 room],.int .i64 12]) ?_ rfl ?_
   ·rw[results_cell_tmp rfl]
    go_simp
   ·exact dP (Hh.out _ B.keeps) B.keeps _ _
  ·have e:jS d k b=0:=if_pos ⟨hi,by omega⟩
   rw[e,if_pos rfl]
   have CJ:=(hI.node k).holds
   have Tg:=CO eC (k:Int)
   have sx:0<=(nd d (k:Int)).holds+b:=by omega
   have hml:=jm d
   have Wj:b<0->((nd d (k:Int)).holds==0)=false:=fun h=>by
    have:¬(nd d (k:Int)).holds=0:=fun h0=>hz ⟨by omega,h0⟩
    simpa using this
   have hinv:aG (oL d k b):=hI.aX hi ((hI.node k).bT hi sx) rfl rfl
   have xp:aP (oL d k b):=by
    have:=oh (n:=(nd d (k:Int)).bT ((nd d (k:Int)).holds+b)) hi
    have e:bJ ((nd d (k:Int)).bT ((nd d (k:Int)).holds+b))<=bJ (nd d (k:Int))+1:=by unfold bJ;simp only[Nd.bT];omega
    unfold aP oL
    omega
   have xq:has (oL d k b) (k:Int):=(mC (n:=(nd d (k:Int)).bT ((nd d (k:Int)).holds+b)) hi hi k).2 hi
   have Lh:∀j,fS (oL d k b) j->j=(k:Int):=fun j hj=>by
    by_cases e:j=(k:Int)
    ·exact e
    ·have hr:=bF hi
     obtain⟨p1,p2,p4⟩:=hj
     unfold oL at p1 p2 p4
     rw[gu hr.1 hr.2,if_neg e]at p4
     rw[uj (n:=(nd d (k:Int)).bT ((nd d (k:Int)).holds+b)) hi rfl]at p2
     exact absurd ⟨(mC (n:=(nd d (k:Int)).bT ((nd d (k:Int)).holds+b)) hi hi j).1 p1,p2,p4⟩ (hcl j)
   have hwr:wrap64 ((nd d (k:Int)).holds+b)=(nd d (k:Int)).holds+b:=IntWalk.wrap64_in _ (by omega)
   have hput:=fun(w2:World) (hk2:aa af w w2) (hsz:w.heap.size+2<=w2.heap.size)=>sE (S:=jh S w) (room:=room) (h.gO hk2) (sF hS hsz) k hk (by omega) ((nd d (k:Int)).bT ((nd d (k:Int)).holds+b)) q m (hrow.sl.cN hk2 (fun _ _ _ h=>h) (fun g hg hl=>⟨hg,by omega,by omega⟩))
   have hfree:=fun(w3:World) (p3:Option Addr) (c3:Nat) (hr:aI (jh S w) w3 p3 c3 (oL d k b)) (hsz:w.heap.size+2<=w3.heap.size)=>EB (room:=room) hr (sF hS hsz) hinv xp k xq Lh
   have HP:=Lib.hid hput
   have HF:=Lib.hid hfree
   have HH:=Lib.hid hh
   have hlen:(oL d k b).length=d.length:=jl _ _ _
   unfold aE at *
   rw[hlen]at HF
   have hx0:((nd d (k:Int)).bT ((nd d (k:Int)).holds+b)).kind=(nd d (k:Int)).kind:=rfl
   have hx1:((nd d (k:Int)).bT ((nd d (k:Int)).holds+b)).mode=(nd d (k:Int)).mode:=rfl
   have hx2:((nd d (k:Int)).bT ((nd d (k:Int)).holds+b)).holds=(nd d (k:Int)).holds+b:=rfl
   have ny:((nd d (k:Int)).bT ((nd d (k:Int)).holds+b)).data=(nd d (k:Int)).data:=rfl
   have gW:((nd d (k:Int)).bT ((nd d (k:Int)).holds+b)).ah=(nd d (k:Int)).ah:=rfl
   rw[hx0,hx1,hx2,ny,gW]at HP
   have nB:aX d (k:Int) ((nd d (k:Int)).bT ((nd d (k:Int)).holds+b))=oL d k b:=rfl
   rw[nB]at HP
   clear nB
   have HC:=Lib.hid (fun(w1:World) (hk1:aa af w w1)=>(⟨(hrow.ai hk1).c0,(hrow.ai hk1).c1,(hrow.ai hk1).c2,(hrow.ai hk1).c3,(hrow.ai hk1).c4,(hrow.ai hk1).lt⟩:_∧_∧_∧_∧_∧_))
   have HL:=Lib.hid hlen
   generalize oL d k b=dd at *
   clear hh h hS hI hcl hs hi hi0 hal e eC hrow hz hput hfree xq Lh hinv xp hml Tg CJ sx hlen hx0 hx1 hx2 ny gW HR
   generalize(nd d (k:Int)).holds=hd at *
   generalize(nd d (k:Int)).ah.length=en at *
   rcases hb with rfl|rfl
   all_goals
    go_enter Tryz.func102,Tryz.ntmps102
    go_wp2_with(first|(go_at_call 30;refine HH.out.mono ?_;rintro e w1 ⟨rfl,hk1⟩;have B:=iH hk1;have A0:=B.A0;have A1:=B.A1;have C0:=B.C0;have C1:=B.C1;have zA:=B.zA;have zC:=B.zC;obtain⟨R0,R1,R2,R3,R4,hgl⟩:=HC.out _ B.keeps;have l0:w.heap.size<w1.heap.size:=Nat.lt_of_lt_of_le (by simp) B.size;have l1:w.heap.size+1<w1.heap.size:=B.size)|(go_at_call 121;go_loud(refine(HP.out _ (B.keeps.alloc _) (Nat.le_trans B.size (by simp))).mono ?_);rintro e w3 ⟨v',rfl,eU,aV⟩;obtain⟨p3,c3,hv,eU⟩:=eU;have B3:=(B.on ((aa.refl af _).alloc _)).on aV;unfold aE at hv;rw[HL.out]at hv;subst hv)|(go_at_call 125;go_loud(refine(HF.out _ _ _ eU B3.size).mono ?_);rintro e w4 ⟨p4,c4,rfl,EA,bB⟩;have B4:=B3.on bB;have D0:=B4.C0;have D1:=B4.C1;have zD:=B4.zC))
    (try simp only[Exit.inBlock,Exit.then])
    refine bodyPost_ret (v:=.tuple #[.agg #[.slice p4 (gc dd).length c4,.int .i64 room],.int .i64 0]) ?_ rfl ?_
    ·rw[results_cell_tmp rfl]
     go_simp
    ·exact dP EA B4.keeps _ _
theorem Th (h:aI S w p c d) (hS:∀g,w.heap.size<=g->S g) (hI:aG d) (hs:aP d) (i x:Int) :
 Calls Tryz.prog 95 #[aE p c d room,.int .i64 i,.int .i64 x] w (eH S w (if ic d i x=0 then mS d i x else d) room (ic d i x)):=by
 have hcap:=h.cap
 have hmax:=h.max
 unfold maxLen at hmax
 have hal:aa af w ((w.alloc (.cells #[.slice p d.length c,.int .i64 room] 37)).alloc (.cells #[.slice none 0 0,.int .i64 0] 37)):=((aa.refl _ _).alloc _).alloc _
 have hh:=rA (room:=room) (h.ai hal) hI.zero i
 by_cases hi:has d i
 case neg =>
  have e:ic d i x=12:=if_pos (j8 hi)
  rw[e,if_neg (by decide)]
  rw[decide_eq_false hi]at hh
  have HH:=Lib.hid hh
  have Hh:=Lib.hid (fun(w1:World) (hk:aa af w w1)=>h.gO hk)
  clear hh h hS hI hs hi hal e
  unfold aE at *
  go_enter Tryz.func95,Tryz.ntmps95
  go_wp2_with(go_at_call 30;refine HH.out.mono ?_;rintro e w1 ⟨rfl,hk1⟩;have B:=iH hk1;have A0:=B.A0;have A1:=B.A1;have C0:=B.C0;have C1:=B.C1;have zA:=B.zA;have zC:=B.zC)
  (try simp only[Exit.inBlock,Exit.then])
  refine bodyPost_ret (v:=.tuple #[.agg #[.slice p d.length c,.int .i64 room],.int .i64 12]) ?_ rfl ?_
  ·rw[results_cell_tmp rfl]
   go_simp
  ·exact dP (Hh.out _ B.keeps) B.keeps _ _
 case pos =>
  rw[decide_eq_true hi]at hh
  have hi0:¬(nd d i).kind=0:=hi
  have HH:=Lib.hid hh
  by_cases hx:ia x=true
  case neg =>
   have e:ic d i x=10:=by unfold ic;rw[if_neg hi0,if_neg hx]
   rw[e,if_neg (by decide)]
   have hx':x<0∨(¬x<0∧4095<x):=by simp[ia]at hx;omega
   have Hh:=Lib.hid (fun(w1:World) (hk:aa af w w1)=>h.gO hk)
   clear hh h hS hI hs hi hal e hi0 hx
   unfold aE at *
   rcases hx' with hx|⟨hx,hy⟩
   all_goals
    go_enter Tryz.func95,Tryz.ntmps95
    go_wp2_with(go_at_call 30;refine HH.out.mono ?_;rintro e w1 ⟨rfl,hk1⟩;have B:=iH hk1;have A0:=B.A0;have A1:=B.A1;have C0:=B.C0;have C1:=B.C1;have zA:=B.zA;have zC:=B.zC)
    (try simp only[Exit.inBlock,Exit.then])
    refine bodyPost_ret (v:=.tuple #[.agg #[.slice p d.length c,.int .i64 room],.int .i64 10]) ?_ rfl ?_
    ·rw[results_cell_tmp rfl]
     go_simp
    ·exact dP (Hh.out _ B.keeps) B.keeps _ _
  have e:ic d i x=0:=by unfold ic;rw[if_neg hi0,if_pos hx]
  rw[e,if_pos rfl]
  have hx':0<=x∧x<=4095:=by simpa[ia]using hx
  obtain⟨hxa,Wk⟩:=hx'
  obtain⟨k,rfl,hk⟩:=eP hi
  obtain⟨g,off,q,m,rfl,cI,hrow⟩:=h.rowAt hk
  have Hh:=Lib.hid (fun(w1:World) (hk:aa af w w1)=>h.gO hk)
  have HC:=Lib.hid (fun(w1:World) (hk1:aa af w w1)=>(⟨(hrow.ai hk1).c0,(hrow.ai hk1).c1,(hrow.ai hk1).c2,(hrow.ai hk1).c3,(hrow.ai hk1).c4,(hrow.ai hk1).lt⟩:_∧_∧_∧_∧_∧_))
  have hput:=fun(w2:World) (hk2:aa af w w2) (hsz:w.heap.size+2<=w2.heap.size)=>sE (S:=jh S w) (room:=room) (h.gO hk2) (sF hS hsz) k hk (by have:=jm d;unfold aP at hs;omega) ((nd d (k:Int)).gS x) q m (hrow.sl.cN hk2 (fun _ _ _ h=>h) (fun g hg hl=>⟨hg,by omega,by omega⟩))
  have hlen:(mS d k x).length=d.length:=jl _ _ _
  have nB:aX d (k:Int) ((nd d (k:Int)).gS x)=mS d k x:=rfl
  have hx0:((nd d (k:Int)).gS x).kind=(nd d (k:Int)).kind:=rfl
  have hx1:((nd d (k:Int)).gS x).mode=x:=rfl
  have hx2:((nd d (k:Int)).gS x).holds=(nd d (k:Int)).holds:=rfl
  have ny:((nd d (k:Int)).gS x).data=(nd d (k:Int)).data:=rfl
  have gW:((nd d (k:Int)).gS x).ah=(nd d (k:Int)).ah:=rfl
  rw[hx0,hx1,hx2,ny,gW,nB]at hput
  have HP:=Lib.hid hput
  have HL:=Lib.hid hlen
  clear hput hlen nB hx0 hx1 hx2 ny gW
  generalize mS d k x=dd at *
  clear hh h hS hI hs hi hal e hi0 hx hrow
  unfold aE at *
  generalize(nd d (k:Int)).ah.length=en at *
  go_enter Tryz.func95,Tryz.ntmps95
  go_wp2_with(first|(go_at_call 30;refine HH.out.mono ?_;rintro e w1 ⟨rfl,hk1⟩;have B:=iH hk1;have A0:=B.A0;have A1:=B.A1;have C0:=B.C0;have C1:=B.C1;have zA:=B.zA;have zC:=B.zC;obtain⟨R0,R1,R2,R3,R4,hgl⟩:=HC.out _ B.keeps;have l0:w.heap.size<w1.heap.size:=Nat.lt_of_lt_of_le (by simp) B.size;have l1:w.heap.size+1<w1.heap.size:=B.size)|(go_at_call 121;go_loud(refine(HP.out _ (B.keeps.alloc _) (Nat.le_trans B.size (by simp))).mono ?_);rintro e w3 ⟨v',rfl,eU,aV⟩;obtain⟨p3,c3,hv,eU⟩:=eU;have B3:=(B.on ((aa.refl af _).alloc _)).on aV;unfold aE at hv;rw[HL.out]at hv;subst hv;have D0:=B3.C0;have D1:=B3.C1;have zD:=B3.zC))
  (try simp only[Exit.inBlock,Exit.then])
  refine bodyPost_ret (v:=.tuple #[.agg #[.slice p3 d.length c3,.int .i64 room],.int .i64 0]) ?_ rfl ?_
  ·rw[results_cell_tmp rfl]
   go_simp
  ·have hz:=dP (room:=room) (err:=0) eU B3.keeps (.slice p3 d.length c3) (.int .i64 room)
   unfold aE at hz
   rw[HL.out]at hz
   exact hz
theorem Li (h:aI S w p c d) (hS:∀g,w.heap.size<=g->S g) (hI:aG d) (hs:aP d) (i:Int) :
 Calls Tryz.prog 135 #[aE p c d room,.int .i64 i] w (eH S w (if dM d i=0 then jY d i else d) room (dM d i)):=by
 have hcap:=h.cap
 have hmax:=h.max
 unfold maxLen at hmax
 have hal:aa af w ((w.alloc (.cells #[.slice p d.length c,.int .i64 room] 37)).alloc (.cells #[.slice none 0 0,.int .i64 0] 37)):=((aa.refl _ _).alloc _).alloc _
 have hh:=AL (room:=room) (h.ai hal) hI i
 by_cases he:dM d i=0
 case neg =>
  rw[if_neg he]
  have HH:=Lib.hid hh
  have Hh:=Lib.hid (fun(w1:World) (hk:aa af w w1)=>h.gO hk)
  clear hh h hS hI hs hal
  generalize dM d i=er at *
  unfold aE at *
  go_enter Tryz.func135,Tryz.ntmps135
  go_wp2_with(go_at_call 157;refine HH.out.mono ?_;rintro e w1 ⟨rfl,hk1⟩;have B:=iH hk1;have A0:=B.A0;have A1:=B.A1;have C0:=B.C0;have C1:=B.C1;have zA:=B.zA;have zC:=B.zC)
  (try simp only[Exit.inBlock,Exit.then])
  refine bodyPost_ret (v:=.tuple #[.agg #[.slice p d.length c,.int .i64 room],.int .i64 er]) ?_ rfl ?_
  ·rw[results_cell_tmp rfl]
   go_simp
  ·exact dP (Hh.out _ B.keeps) B.keeps _ _
 case pos =>
  have hi:=(m8 he).1
  rw[he]at hh ⊢
  rw[if_pos rfl]
  have HH:=Lib.hid hh
  obtain⟨k,rfl,hk⟩:=eP hi
  obtain⟨g,off,q,m,rfl,cI,hrow⟩:=h.rowAt hk
  have Hh:=Lib.hid (fun(w1:World) (hk:aa af w w1)=>h.gO hk)
  have HC:=Lib.hid (fun(w1:World) (hk1:aa af w w1)=>(⟨(hrow.ai hk1).c0,(hrow.ai hk1).c1,(hrow.ai hk1).c2,(hrow.ai hk1).c3,(hrow.ai hk1).c4,(hrow.ai hk1).lt⟩:_∧_∧_∧_∧_∧_))
  have hput:=fun(w2:World) (hk2:aa af w w2) (hsz:w.heap.size+2<=w2.heap.size)=>sE (S:=jh S w) (room:=room) (h.gO hk2) (sF hS hsz) k hk (by have:=jm d;unfold aP at hs;omega) ((nd d (k:Int)).dN ⟨#[]⟩) q m (hrow.sl.cN hk2 (fun _ _ _ h=>h) (fun g hg hl=>⟨hg,by omega,by omega⟩))
  have hlen:(jY d k).length=d.length:=jl _ _ _
  have nB:aX d (k:Int) ((nd d (k:Int)).dN ⟨#[]⟩)=jY d k:=rfl
  have hx0:((nd d (k:Int)).dN ⟨#[]⟩).kind=(nd d (k:Int)).kind:=rfl
  have hx1:((nd d (k:Int)).dN ⟨#[]⟩).mode=(nd d (k:Int)).mode:=rfl
  have hx2:((nd d (k:Int)).dN ⟨#[]⟩).holds=(nd d (k:Int)).holds:=rfl
  have ny:((nd d (k:Int)).dN ⟨#[]⟩).data=⟨#[]⟩:=rfl
  have gW:((nd d (k:Int)).dN ⟨#[]⟩).ah=(nd d (k:Int)).ah:=rfl
  rw[hx0,hx1,hx2,ny,gW,nB]at hput
  have HP:=Lib.hid hput
  have HL:=Lib.hid hlen
  clear hput hlen nB hx0 hx1 hx2 ny gW
  generalize jY d k=dd at *
  clear hh h hS hI hs hi hal he hrow
  unfold aE at *
  generalize(nd d (k:Int)).ah.length=en at *
  go_enter Tryz.func135,Tryz.ntmps135
  go_wp2_with(first|(go_at_call 157;refine HH.out.mono ?_;rintro e w1 ⟨rfl,hk1⟩;have B:=iH hk1;have A0:=B.A0;have A1:=B.A1;have C0:=B.C0;have C1:=B.C1;have zA:=B.zA;have zC:=B.zC;obtain⟨R0,R1,R2,R3,R4,hgl⟩:=HC.out _ B.keeps;have l0:w.heap.size<w1.heap.size:=Nat.lt_of_lt_of_le (by simp) B.size;have l1:w.heap.size+1<w1.heap.size:=B.size)|(go_at_call 121;go_loud(refine(HP.out _ (B.keeps.alloc _) (Nat.le_trans B.size (by simp))).mono ?_);rintro e w3 ⟨v',rfl,eU,aV⟩;obtain⟨p3,c3,hv,eU⟩:=eU;have B3:=(B.on ((aa.refl af _).alloc _)).on aV;unfold aE at hv;rw[HL.out]at hv;subst hv;have D0:=B3.C0;have D1:=B3.C1;have zD:=B3.zC))
  (try simp only[Exit.inBlock,Exit.then])
  refine bodyPost_ret (v:=.tuple #[.agg #[.slice p3 d.length c3,.int .i64 room],.int .i64 0]) ?_ rfl ?_
  ·rw[results_cell_tmp rfl]
   go_simp
  ·have hz:=dP (room:=room) (err:=0) eU B3.keeps (.slice p3 d.length c3) (.int .i64 room)
   unfold aE at hz
   rw[HL.out]at hz
   exact hz
end
set_option maxRecDepth 100000
set_option maxHeartbeats 1000000
section
variable{S:Nat->Prop} {w:World} {p:Option Addr} {c:Nat} {d:ag} {room:Int}
theorem Ti (hI:aG d) (hcl:bK d) {i k:Int} {name:ByteArray} (hi:(nd d i).kind=2) (hg:bk (nd d i).ah name=some k):has (aZ d i name) k∧∀j,fS (aZ d i name) j->j=k:=by
 have hh:=mG hI hi
 refine⟨(qc hh _ k).2 (hI.tgt i _ (dV hg)).1,fun j hj=>?_⟩
 obtain⟨g1,g2,g3⟩:=hj
 have h2:=Cj hI hh hg j
 rw[show(nd (aZ d i name) j).holds=(nd d j).holds from vT hh _ j]at g3
 by_cases e:j=k
 ·exact e
 ·rw[if_neg (fun h=>e h.symm)]at h2
  exact absurd ⟨(qc hh _ j).1 g1,by omega,g3⟩ (hcl j)
theorem nW {w w1:World} {cs:Array Value} {T:TypeId} (hk:aa af (w.alloc (.cells cs T)) w1) (j:Nat):w1.frozen? ⟨w.heap.size,j,none⟩=false:=by
 have hn:=heap_alloc_new w (.cells cs T)
 have h4:=(hk.block w.heap.size (by simp) (fun h=>h)).trans hn
 exact frozen_of_row w1 _ j _ T h4
theorem nZ.set {w w1:World} {p:Option Addr} {n c:Nat} {room:Int} (h:nZ w w1 p n c room) {N:Nat} (hN:w.heap.size+2<=N) (j:Nat) (v:Value):nZ w (w1.setCell ⟨N,j,none⟩ v) p n c room:=by
 have k:=cB w1 ⟨N,j,none⟩ v
 have l1:=dm h.A0
 have l2:=dm h.C0
 have n1:¬w.heap.size=N:=by omega
 have n2:¬w.heap.size+1=N:=by omega
 have:=k.size
 exact⟨(k.cell (p:=⟨w.heap.size,0,none⟩) l1 n1).trans h.A0,(k.cell (p:=⟨w.heap.size,1,none⟩) l1 n1).trans h.A1,(k.cell (p:=⟨w.heap.size+1,0,none⟩) l2 n2).trans h.C0,(k.cell (p:=⟨w.heap.size+1,1,none⟩) l2 n2).trans h.C1,
  fun j=>(k.frozen (p:=⟨w.heap.size,j,none⟩) l1 n1).trans (h.zA j),fun j=>(k.frozen (p:=⟨w.heap.size+1,j,none⟩) l2 n2).trans (h.zC j),by have:=h.size;omega,h.keeps.step k (fun b hb=>.inr (by have:b=N:=hb;omega))⟩
structure mO (w1 w2:World) (v0 v1 v2 v3 v4:Value):Prop where
 N0:w2.cell? ⟨w1.heap.size,0,none⟩=some v0
 N1:w2.cell? ⟨w1.heap.size,1,none⟩=some v1
 N2:w2.cell? ⟨w1.heap.size,2,none⟩=some v2
 N3:w2.cell? ⟨w1.heap.size,3,none⟩=some v3
 N4:w2.cell? ⟨w1.heap.size,4,none⟩=some v4
 zN:∀j,w2.frozen? ⟨w1.heap.size,j,none⟩=false
theorem pH {w1 w2:World} {v0 v1 v2 v3 v4:Value} {T:TypeId} (hk:aa af (w1.alloc (.cells #[v0,v1,v2,v3,v4] T)) w2):mO w1 w2 v0 v1 v2 v3 v4 :=
 ⟨boxed hk 0 _ rfl,boxed hk 1 _ rfl,boxed hk 2 _ rfl,boxed hk 3 _ rfl,boxed hk 4 _ rfl,nW hk⟩
def fQ (S:Nat->Prop) (w:World) (N:Nat):Nat->Prop:=fun b=>jh S w b∧b≠N
theorem Lj (h:aI S w p c d) (hS:∀g,w.heap.size<=g->S g) (hI:aG d) (hcl:bK d) (hs:aP d) (i:Int) (name:ByteArray) :
 Calls Tryz.prog 90 #[aE p c d room,.int .i64 i,.string name] w (eH S w (iU d i name) room (gF d i name)):=by
 have hcap:=h.cap
 have hmax:=h.max
 unfold maxLen at hmax
 have hal:aa af w ((w.alloc (.cells #[.slice p d.length c,.int .i64 room] 37)).alloc (.cells #[.slice none 0 0,.int .i64 0] 37)):=((aa.refl _ _).alloc _).alloc _
 have hh:=nC (room:=room) (h.ai hal) hI i name
 unfold iU
 by_cases c0:bH d i name=0
 case neg =>
  have e:gF d i name=bH d i name:=if_pos c0
  rw[e,if_neg c0]
  have HH:=Lib.hid hh
  have Hh:=Lib.hid (fun(w1:World) (hk:aa af w w1)=>h.gO hk)
  clear hh h hS hI hs hal hcl e
  generalize bH d i name=er at *
  generalize aN d i name=lo at *
  unfold aE at *
  go_enter Tryz.func90,Tryz.ntmps90
  go_wp2_with(go_at_call 123;refine HH.out.mono ?_;rintro e w1 ⟨rfl,hk1⟩;have B:=iH hk1;have A0:=B.A0;have A1:=B.A1;have C0:=B.C0;have C1:=B.C1;have zA:=B.zA;have zC:=B.zC)
  (try simp only[Exit.inBlock,Exit.then])
  refine bodyPost_ret (v:=.tuple #[.agg #[.slice p d.length c,.int .i64 room],.int .i64 er]) ?_ rfl ?_
  ·rw[results_cell_tmp rfl]
   go_simp
  ·exact dP (Hh.out _ B.keeps) B.keeps _ _
 case pos =>
 obtain⟨f0,hget⟩:=mI c0
 obtain⟨hi,hi2⟩:=fD f0
 have hE:∀(P:Int->Prop),P (if (nd d (aN d i name)).ah≠[]then 16 else 0)->P (gF d i name):=fun P hP=>by
  unfold gF;rw[if_neg (by simpa using c0)];exact hP
 rw[c0]at hh
 generalize hkk:aN d i name=ko at *
 have hk:=(hI.tgt i _ (dV hget)).1
 have Ll:=hk
 obtain⟨o,rfl,ho⟩:=eP hk
 have hi0:=hi
 obtain⟨k,rfl,hkl⟩:=eP hi
 obtain⟨g,off,q,m,rfl,cI,hrow⟩:=h.rowAt hkl
 obtain⟨g',off',q',m',hp',_,hrow'⟩:=h.rowAt ho
 cases hp'
 have Hh:=Lib.hid (fun(w1:World) (hk:aa af w w1)=>h.gO hk)
 have HC:=Lib.hid (fun(w1:World) (hk1:aa af w w1)=>(⟨(hrow.ai hk1).c0,(hrow.ai hk1).c1,(hrow.ai hk1).c2,(hrow.ai hk1).c3,(hrow.ai hk1).c4,(hrow.ai hk1).lt,(hrow'.ai hk1).c4⟩:_∧_∧_∧_∧_∧_∧_))
 have HH:=Lib.hid hh
 have u6:=hrow'.sl.cap
 have m9:=hrow'.sl.max
 unfold maxLen at m9
 by_cases d1:(nd d (o:Int)).ah=[]
 case neg =>
  have e:gF d k name=16:=hE (fun x=>x=16) (if_pos d1)
  rw[e,if_neg (by decide)]
  have hpos:(0:Int)<((nd d (o:Int)).ah.length:Int):=by
   have:=List.length_pos_iff.2 d1
   omega
  clear hh h hS hI hs hal hcl e hE hi hi0 hi2 hk Ll hget hkk d1 c0 f0 hrow hrow'
  generalize(nd d (o:Int)).ah.length=eo at *
  unfold aE at *
  go_enter Tryz.func90,Tryz.ntmps90
  go_wp2_with(go_at_call 123;refine HH.out.mono ?_;rintro e w1 ⟨rfl,hk1⟩;have B:=iH hk1;have A0:=B.A0;have A1:=B.A1;have C0:=B.C0;have C1:=B.C1;have zA:=B.zA;have zC:=B.zC;obtain⟨R0,R1,R2,R3,R4,hgl,Q4⟩:=HC.out _ B.keeps)
  (try simp only[Exit.inBlock,Exit.then])
  refine bodyPost_ret (v:=.tuple #[.agg #[.slice (some ⟨g,off,none⟩) d.length c,.int .i64 room],.int .i64 16]) ?_ rfl ?_
  ·rw[results_cell_tmp rfl]
   go_simp
  ·exact dP (Hh.out _ B.keeps) B.keeps _ _
 case pos =>
  have e:gF d k name=0:=hE (fun x=>x=0) (if_neg (by simpa using d1))
  rw[e,if_pos rfl]
  have Lm:(nd d (o:Int)).ah.length=0:=by rw[d1];rfl
  rw[Lm]at HC
  have hel:=gx hs (k:Int)
  have hris:=(hI.node (k:Int)).rising
  have aT:dI (nd d (k:Int)).ah name=0:=by unfold dI;rw[if_pos (kX hget)]
  have qh:=fun(w2:World) (N:Nat) (hk2:aa af w w2) (hN:w.heap.size+2<=N) (hsz:N<w2.heap.size)=>Ex (fQ S w N) w2 q m (nd d (k:Int)).ah name
   (hrow.sl.cN hk2 (fun _ _ _ h=>h) (fun g hg hl=>⟨⟨hg,by omega,by omega⟩,by omega⟩)) hris (by omega) (fun g hg=>⟨⟨hS g (by omega),by omega,by omega⟩,by omega⟩)
  rw[aT]at qh
  have hput:=fun(w2:World) (q2:Option Addr) (m2:Nat) (hk2:aa af w w2) (hsz:w.heap.size+2<=w2.heap.size) (hx:bt aK (jh S w) w2 q2 m2 (bQ (nd d (k:Int)).ah name))=>sE (S:=jh S w) (room:=room) (h.gO hk2) (sF hS hsz) k hkl (by have:=jm d;unfold aP at hs;omega) ((nd d (k:Int)).dZ (bQ (nd d (k:Int)).ah name)) q2 m2 hx
  have hlen:(aZ d k name).length=d.length:=j4 _ _ _
  have nB:aX d (k:Int) ((nd d (k:Int)).dZ (bQ (nd d (k:Int)).ah name))=aZ d k name:=rfl
  have hx0:((nd d (k:Int)).dZ (bQ (nd d (k:Int)).ah name)).kind=(nd d (k:Int)).kind:=rfl
  have hx1:((nd d (k:Int)).dZ (bQ (nd d (k:Int)).ah name)).mode=(nd d (k:Int)).mode:=rfl
  have hx2:((nd d (k:Int)).dZ (bQ (nd d (k:Int)).ah name)).holds=(nd d (k:Int)).holds:=rfl
  have ny:((nd d (k:Int)).dZ (bQ (nd d (k:Int)).ah name)).data=(nd d (k:Int)).data:=rfl
  have gW:((nd d (k:Int)).dZ (bQ (nd d (k:Int)).ah name)).ah=bQ (nd d (k:Int)).ah name:=rfl
  rw[nB]at hput
  simp only[hx0,hx1,hx2,ny,gW]at hput
  obtain⟨dK,dS⟩:=Ti hI hcl hi2 hget
  have xp:aP (aZ d k name):=by
   have:=ur hI hi0 hget
   unfold aP at *
   omega
  have hfree:=fun(w3:World) (p3:Option Addr) (c3:Nat) (hr:aI (jh S w) w3 p3 c3 (aZ d k name)) (hsz:w.heap.size+2<=w3.heap.size)=>EB (room:=room) hr (sF hS hsz) (yP hI hi2 hget) xp o dK dS
  have HP:=Lib.hid hput
  have HD:=Lib.hid qh
  have HF:=Lib.hid hfree
  have HL:=Lib.hid hlen
  unfold aE at *
  rw[HL.out]at HF
  clear hh h hS hI hs hal hcl e hE hi hi0 hi2 hk Ll hget hkk d1 c0 f0 hrow hrow' hput qh hfree hlen nB hx0 hx1 hx2 ny gW dK dS xp hris aT Lm
  generalize aZ d k name=dd at *
  generalize bQ (nd d (k:Int)).ah name=ne at *
  generalize(nd d (k:Int)).ah=en at *
  go_enter Tryz.func90,Tryz.ntmps90
  go_wp2_with(first|(go_at_call 123;refine HH.out.mono ?_;rintro e w1 ⟨rfl,hk1⟩;have B:=iH hk1;have A0:=B.A0;have A1:=B.A1;have C0:=B.C0;have C1:=B.C1;have zA:=B.zA;have zC:=B.zC;obtain⟨R0,R1,R2,R3,R4,hgl,Q4⟩:=HC.out _ B.keeps;have l0:w.heap.size<w1.heap.size:=Nat.lt_of_lt_of_le (by simp) B.size;have l1:w.heap.size+1<w1.heap.size:=B.size)|(go_at_call 124;go_loud(refine(HD.out _ w1.heap.size (B.keeps.alloc _) B.size (by simp)).mono ?_);rintro e w2 ⟨v2,rfl,hsl,hk2⟩;obtain⟨q2,m2,rfl,hsl⟩:=hsl;have NB:=pH hk2;have B2:=(B.on ((aa.refl af _).alloc _)).on hk2;have Tj:=B2.A0;have Tk:=B2.A1;have N0:=NB.N0;have N1:=NB.N1;have N2:=NB.N2;have N3:=NB.N3;have N4:=NB.N4;have zN:=NB.zN;have nA:¬w.heap.size=w1.heap.size:=Nat.ne_of_lt l0;have rE:¬w1.heap.size=w.heap.size:=fun e=>nA e.symm)|(go_at_call 121;go_loud(refine(HP.out _ q2 m2 (B2.set B.size _ _).keeps (B2.set B.size _ _).size (hsl.cN (cB w2 ⟨w1.heap.size,4,none⟩ _) (fun b hb _ e=>hb.2 e) (fun b hb _=>hb.1))).mono ?_);rintro e w4 ⟨v',rfl,eU,bB⟩;obtain⟨p3,c3,hv,eU⟩:=eU;have B4:=(B2.set B.size 4 (.slice q2 ne.length m2)).on bB;unfold aE at hv;rw[HL.out]at hv;subst hv)|(go_at_call 125;go_loud(refine(HF.out _ _ _ eU B4.size).mono ?_);rintro e w5 ⟨p5,c5,rfl,rF,bX⟩;have B5:=B4.on bX;have D0:=B5.C0;have D1:=B5.C1;have zD:=B5.zC))
  (try simp only[Exit.inBlock,Exit.then])
  refine bodyPost_ret (v:=.tuple #[.agg #[.slice p5 (gc dd).length c5,.int .i64 room],.int .i64 0]) ?_ rfl ?_
  ·rw[results_cell_tmp rfl]
   go_simp
  ·exact dP rF B5.keeps _ _
end
end Go.Proofs.YtnanhmfpikddkaaGreatDoor
