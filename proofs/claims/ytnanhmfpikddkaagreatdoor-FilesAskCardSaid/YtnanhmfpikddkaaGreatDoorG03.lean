/-
  Contracts of package disk,the fourth part: free.
-/
import Derived.Test.YtnanhmfpikddkaaGreatDoorG02
import Derived.Deep.RegionWith
import Derived.Deep.CutRange
import Derived.Handy
import Derived.Laws.ResultCell
import Derived.Test.YtnanhmfpikddkaaGreatDoorG01

set_option linter.unusedSimpArgs false
set_option linter.unusedVariables false
namespace Go.Proofs.YtnanhmfpikddkaaGreatDoor
open Go.RowKit
set_option maxRecDepth 100000
set_option maxHeartbeats 2000000
theorem OH (n:Nat) (qi:∀m,m<n->BP m):BO n:=by
 intro R w a d room lk up bR i hn h hi qY
 have hl:=h.rep.l
 have dW:=h.rep.look i
 unfold j7 at dW
 rw[if_pos hi]at dW
 have lq:=h.rep.node i hi
 have hk:=lq.links
 have hh:=lq.holds
 have hc:=h.cnt i hi
 have CJ:=(h.inv.node i).holds
 have H:=Lib.hid h
 by_cases hz:0<lk i
 ·have hno:∀j,¬PG d bR j:=fun j hj=>by
   have:=qY j hj;subst this
   obtain⟨_,h2,h3,_⟩:=hj
   omega
  have HN:=Lib.hid hno
  clear hno h hc qY hn qi lq
  go_enter Tryz.func110,Tryz.ntmps110
  go_wp2
  go_end0
  exact⟨rfl,R,d,lk,up,H.out,HN.out,.refl _,cW.refl _ _⟩
 ·have hL:lk i=0:=by omega
  rw[hL]at hk
  by_cases hy:0<(nd d i).holds
  ·have hno:∀j,¬PG d bR j:=fun j hj=>by
    have:=qY j hj;subst this
    obtain⟨_,h2,h3,h4⟩:=hj
    omega
   have HN:=Lib.hid hno
   clear hno h hc qY hn qi lq hz hL
   generalize(nd d i).holds=x at *
   go_enter Tryz.func110,Tryz.ntmps110
   go_wp2
   go_end0
   exact⟨rfl,R,d,lk,up,H.out,HN.out,.refl _,cW.refl _ _⟩
  ·have hY:(nd d i).holds=0:=by omega
   rw[hY]at hh
   have hg:PG d bR i:=⟨hi,by omega,by omega,hY⟩
   have hu:=h.rep.used
   have oZ:=h.rep.fz 2
   obtain⟨p,cap,hv⟩:=lq.own.form
   have nU:=lq.data
   rw[hv]at nU
   have hlen:=gx h.small i
   have hsize:=fun wx (hx:aa af w wx)=>M5 (fun _=>True) wx ⟨R.g i,5,none⟩ (R.ev i) (nd d i).ah ((lq.dir.keep hx (fun h=>h) (fun _ _ h=>h)).any (fun _ _=>trivial)) (by omega)
   have hroom:dU (nd d i)<=used d:=sS dU (bF hi).1 (bF hi).2
   have bZ:=BS h.inv
   have eC:=h.small
   unfold aP at eC
   unfold dU at hroom
   have e1:IntKind.i64.wrap (((nd d i).data.size:Int)+(cQ (nd d i).ah:Int))=((nd d i).data.size:Int)+(cQ (nd d i).ah:Int):=by rw[IntKind.wrap_i64];omega
   have e2:IntKind.i64.wrap ((used d:Int)-(((nd d i).data.size:Int)+(cQ (nd d i).ah:Int)))=(used d:Int)-(((nd d i).data.size:Int)+(cQ (nd d i).ah:Int)):=by rw[IntKind.wrap_i64];omega
   have HU:=Lib.hid (fun wx (hx:aa af w wx)=>(⟨(hx.cell (p:=⟨a,2,none⟩) h.rep.alt (fun h=>h)).trans hu,(hx.frozen (p:=⟨a,2,none⟩) h.rep.alt (fun h=>h)).trans oZ,(hx.cell (p:=⟨R.g i,4,none⟩) lq.lt (fun h=>h)).trans nU⟩:wx.cell? ⟨a,2,none⟩=some (.int .i64 (used d))∧wx.frozen? ⟨a,2,none⟩=false∧wx.cell? ⟨R.g i,4,none⟩=some (.slice p (nd d i).data.size cap)))
   have HS:=Lib.hid hsize
   have HN:=Lib.hid lq
   have HG:=Lib.hid qY
   have OI:=Lib.hid qi
   have hV:=Lib.hid hv
   clear h qY hc lq hsize hz hL hy hY hroom bZ eC qi hv
   have Ig:Hid (∀w0,aa af w w0->∃wA,w0.setCell ⟨a,2,none⟩ (.int .i64 ((used d:Int)-(((nd d i).data.size:Int)+(cQ (nd d i).ah:Int))))=wA∧aS R wA a d room (used (kill d i)) lk up∧aa R.F w wA) :=
    Lib.hid fun w0 bS=>⟨_,rfl,by
     have h1:=(H.out.rep.ai bS).uu ((used d:Int)-(((nd d i).data.size:Int)+(cQ (nd d i).ah:Int)))
     have h2:=Gn hi
     unfold dU at h2
     have e:(used d:Int)-(((nd d i).data.size:Int)+(cQ (nd d i).ah:Int))=(used (kill d i):Int):=by omega
     rw[e]at h1 ⊢
     exact h1,
     (bS.bC).setCell (.inl H.out.rep.fA) _⟩
   generalize hD:(nd d i).data.size=ds at *
   generalize hE:cQ (nd d i).ah=es at *
   generalize CK:used d=u at *
   have hD:=Lib.hid hD
   have hE:=Lib.hid hE
   have CK:=Lib.hid CK
   go_enter Tryz.func110,Tryz.ntmps110
   go_upto_region 2 with fail
   go_cut [6]from 25 to 41 (fun _ wx=>∃w0,aa af w w0∧wx=w0.setCell ⟨a,2,none⟩ (.int .i64 ((u:Int)-((ds:Int)+(es:Int)))))
   case first =>
    go_region_with(go_at_call 148;refine(HS.out _ ?_).mono ?_;(first|exact aa.refl _ _|exact(aa.refl _ _).drew|exact((aa.refl _ _).drew).drew);rintro e w1 ⟨rfl,hk1⟩;have hk2:aa af w w1:=((aa.refl _ _).drew).trans hk1;obtain⟨hu1,dK,hd1⟩:=HU.out w1 hk2)
    all_goals(go_wp2_with fail;go_meet;exact⟨_,by first|exact hk2|exact hk2.drew,rfl⟩)
   case rest =>
    obtain⟨w0,bS,rfl⟩:=hcut
    obtain⟨wA,uB,qZ,s6⟩:=Ig.out w0 bS
    rw[uB]
    have OJ:=qZ.l
    have zn:=qZ.map
    have r8:=Lib.hid qZ
    have Ih:=Lib.hid s6
    clear uB qZ s6 HU HS hu oZ nU hl dW hk hh CJ bS Ig e1 e2 hD hE CK HN hV w0
    go_wp2_with(first|(at_delete;refine OK rfl (.tmp 45) (.tmp 46) _ _ rfl Tryz.underlying109 Tryz.underlying3 rfl zn rfl ?_;intro w2 hm2 hk2)|fail)
    have gK:=r8.out.kill hi hk2 hm2
    have oy:=H.out.kill hg gK
    have Ii:∀j,¬PG (kill d i) (pX bR (nd d i).ah) j:=fun j hj=>by
     have:=PG.Ns (bR:=bR) hi hj
     exact this.2 (HG.out j this.1)
    have hgB:¬R.g i=R.b:=fun e=>by have h1:=r8.out.lY i hi;rw[e,r8.out.jo]at h1;cases h1
    have Ij:∀x,(R.ev i).ownBlock=some x->¬x=R.b:=fun x hx e=>by have h1:=r8.out.jL i hi x hx;rw[e,r8.out.jo]at h1;cases h1
    have m6:=((r8.out.node i hi).dir.keep hk2 hgB Ij).any (G:=fun _=>True) (fun _ _=>trivial)
    have hlist:=Gd (fun _=>True) w2 ⟨R.g i,5,none⟩ (R.ev i) (nd d i).ah m6 (by omega)
    have oV:cW R w { R with kv:=ig R.kv i } w2:=⟨Ih.out.step hk2 (fun x hx=>.inl (by subst hx;exact r8.out.fB)),fun _ _=>rfl⟩
    have CM:=Lib.hid oy
    have CN:=Lib.hid Ii
    have Ik:=Lib.hid oV
    have HL:=Lib.hid hlist
    clear gK oy Ii hgB Ij m6 hlist oV OJ zn hm2 hk2 r8 Ih
    go_wp2_with(go_at_call 63;refine HL.out.mono ?_;rintro e w3 ⟨v,rfl,ho,aV⟩;obtain⟨p',c',rfl,hs⟩:=ho.sl)
    have hs0:bt aK (fun x=>R.tag x=.none) w3 p' c' (nd d i).ah:=hs.cN (aa.refl af w3) (fun _ _ _ h=>h) (fun g hg _=>CM.out.rep.top g hg)
    have Il:=CM.out.keep aV (fun _ _ h=>h.elim)
    have rZ:=Ik.out.trans (cW.vR (R:={ R with kv:=ig R.kv i }) aV)
    have OL:=Lib.hid Il
    have OM:=Lib.hid rZ
    have OO:=Lib.hid hs0
    have hcap:=hs.cap
    clear Il rZ hs0 ho hs aV CM Ik HL
    go_loopw [6,52] (fun _ x wr=>∃(k:Nat) (R':RD) (d':ag) (fT up':Int->Int),k<=(nd d i).ah.length∧x=.int .i64 k∧dF R' wr a d' room fT up' (pX bR ((nd d i).ah.drop k)) ∧
     (∀j,¬PG d' (pX bR ((nd d i).ah.drop k)) j)∧cJ (kill d i) d'∧cW R w R' wr∧bt aK (fun x=>R'.tag x=.none) wr p' c' (nd d i).ah) (fun _ x _=>(nd d i).ah.length-(intOf x).toNat)
    case atStart=>exact⟨0,_,_,_,_,Nat.zero_le _,rfl,OL.out,CN.out,.refl _,OM.out,OO.out⟩
    case round =>
     obtain⟨k,R',d',fT,up',hk,rfl,hC,hN,hK,hT,hS⟩:=hrel
     have HC:=Lib.hid hC
     have HN:=Lib.hid hN
     have HK:=Lib.hid hK
     have HT:=Lib.hid hT
     have gT:=Lib.hid hS
     clear hC hN hK hT
     by_cases hlt:k<(nd d i).ah.length
     ·obtain⟨x,hx⟩:∃x,(nd d i).ah[k]?=some x:=⟨_,List.getElem?_eq_getElem hlt⟩
      obtain⟨g,off,rfl,cI,hg,c0,c1⟩:=hS.iW hx
      have qh:(nd d i).ah.drop k=x::(nd d i).ah.drop (k+1):=by
       obtain⟨hl,he⟩:=List.getElem?_eq_some_iff.1 hx
       rw[<- he];exact List.drop_eq_getElem_cons hl
      have HD:=Lib.hid qh
      have HX:=Lib.hid hx
      clear qh hx hS
      have ld:count d'<n:=by
       have:=HK.out.count_le
       have:=rT hi
       omega
      have hl:=fun(o:Obj)=>OI.out _ ld R' _ a d' room fT up' (pX bR ((nd d i).ah.drop k)) x.2 rfl (HC.out.keep ((aa.refl af _).alloc o) (fun _ _ h=>h.elim)) (by
       rw[HD.out];unfold pX;rw[List.countP_cons];simp only[decide_true,if_true];omega) HN.out
      have HL:=Lib.hid hl
      clear hl ld
      go_wp2_with(go_at_call 122;go_loud(refine(HL.out _).mono ?_);rintro e w5 ⟨rfl,R'',d'',OP,OQ,h1,h2,h3,h4⟩)
      go_roundw
      case rel =>
       rw[HD.out,Nu]at h1 h2
       refine⟨k+1,R'',d'',OP,OQ,by omega,by go_num,h1,h2,HK.out.trans h3,HT.out.trans ((cW.vR ((aa.refl af _).alloc _)).trans h4),?_⟩
       exact(gT.out.ai ((aa.refl af _).alloc _)).cN h4.keeps (fun g hg _ hf=>hf hg) (fun g hg hlt=>(h4.same g hlt).trans hg)
      case measure=>simp[intOf];omega
     ·have hnil:(nd d i).ah.drop k=[]:=List.drop_of_length_le (by omega)
      have hC:=HC.out
      have hN:=HN.out
      rw[hnil,Nt]at hC hN
      have OT:=Lib.hid hC
      have OU:=Lib.hid hN
      clear hC hN hnil HC HN
      go_wp2
      go_end0
      exact⟨rfl,R',d',fT,up',OT.out,OU.out,.step i hg.oR HK.out,HT.out⟩
theorem Im (n:Nat):BO n:=by
 induction n using Nat.strongRecOn with
 | ind n ih=>exact OH n fun m hm=>Ie m (ih m hm)
theorem GZ (n:Nat):BP n:=Ie n (Im n)
set_option maxRecDepth 100000
set_option maxHeartbeats 1000000
def gq (d:ag) (i:Int):Int:=if (nd d i).kind=0 then 12 else if (nd d i).holds=0 then 12 else 0
def gG (d:ag) (i:Int):ag:=aX d i ((nd d i).bT ((nd d i).holds-1))
def kW (d:ag) (i:Int):ag:=aX d i ((nd d i).bT ((nd d i).holds+1))
def mS (d:ag) (i m:Int):ag:=aX d i ((nd d i).gS m)
def jY (d:ag) (i:Int):ag:=aX d i ((nd d i).dN ⟨#[]⟩)
section
variable{R:RD} {w:World} {a:Nat} {d:ag} {room:Int}
theorem CO {d:ag} (h:aP d) (i:Int):(nd d i).holds<=4294967296:=by
 by_cases hh:0<=i∧i.toNat<d.length
 ·have h1:=sS bJ hh.1 hh.2
  unfold aP aH at h
  unfold bJ at h h1
  omega
 ·rw[pV hh];decide
theorem iV.bT {n:Nd} (h:iV n) (h0:n.kind≠0) {x:Int} (hx:0<=x):iV (n.bT x) :=
 ⟨h.um,h.pZ,fun e=>absurd e h0,h.mV,h.mW,hx,h.data,h.BR,h.flat,h.rising,h.names⟩
theorem iV.gS {n:Nd} (h:iV n) (h0:n.kind≠0) {x:Int} (hx:ia x=true):iV (n.gS x):=by
 simp[ia]at hx
 exact⟨h.um,h.pZ,fun e=>absurd e h0,hx.1,hx.2,h.holds,h.data,h.BR,h.flat,h.rising,h.names⟩
theorem iV.dN {n:Nd} (h:iV n) (h0:n.kind≠0) (h2:n.kind≠2) {s:ByteArray} (hs:s.size<=4194304):iV (n.dN s) :=
 ⟨h.um,h.pZ,fun e=>absurd e h0,h.mV,h.mW,h.holds,hs,fun e=>absurd e h2,h.flat,h.rising,h.names⟩
theorem CP (h:cK R w a d room) (i:Int) :
 Calls Tryz.prog 71 #[.pointer (some ⟨a,0,none⟩),.int .i64 i] w fun e w'=>e=.returned (.int .i64 (gq d i))∧dn R w a (if gq d i=0 then gc (gG d i)else d) room w':=by
 have H:=Lib.hid h
 obtain⟨⟨lk,up,hC⟩,hcl,hfit,hmax⟩:=h
 have hl:=hC.rep.l
 have dW:=hC.rep.look i
 unfold j7 at dW
 unfold gq
 by_cases hi:has d i
 ·rw[if_pos hi]at dW
  have hi0:¬(nd d i).kind=0:=hi
  rw[if_neg hi0]
  have hn:=hC.rep.node i hi
  have hk:=hn.holds
  have hf:=hn.fz 3
  have h0:=(hC.inv.node i).holds
  by_cases hz:(nd d i).holds=0
  ·rw[if_pos hz,if_neg (by decide)]
   rw[hz]at hk
   clear hC hcl hfit hmax hn h0 hz
   go_enter Tryz.func71,Tryz.ntmps71
   go_wp2
   go_ret
   exact⟨rfl,H.out.same (aa.refl _ _)⟩
  ·rw[if_neg hz,if_pos rfl]
   have eC:=CO hC.small i
   have e1:IntKind.i64.wrap ((nd d i).holds-1)=(nd d i).holds-1:=by rw[IntKind.wrap_i64];omega
   have hR:=hC.rep.bT hi ((nd d i).holds-1)
   have gL:used (gG d i)=used d:=by
    have:=uo (n:=(nd d i).bT ((nd d i).holds-1)) hi
    have e:dU ((nd d i).bT ((nd d i).holds-1))=dU (nd d i):=rfl
    unfold gG
    omega
   have hms:aP (gG d i):=by
    have:=oh (n:=(nd d i).bT ((nd d i).holds-1)) hi
    have e:bJ ((nd d i).bT ((nd d i).holds-1))<=bJ (nd d i):=by unfold bJ;show 1+((nd d i).holds-1).toNat+_<=_;simp only[Nd.bT];omega
    have:=hC.small
    unfold aP gG at *
    omega
   have oy:=hC.aX hi ((hC.inv.node i).bT hi (x:=(nd d i).holds-1) (by omega)) rfl rfl (by rw[show used (aX d i ((nd d i).bT ((nd d i).holds-1)))=used d from gL];exact hR) hms
   have hi2:has (gG d i) i:=(mC (n:=(nd d i).bT ((nd d i).holds-1)) hi hi i).2 hi
   have qY:∀j,PG (gG d i) zp j->j=i:=fun j hj=>by
    by_cases e:j=i
    ·exact e
    ·have hr:=bF hi
     obtain⟨p1,p2,_,p4⟩:=hj
     unfold gG at p1 p2 p4
     rw[gu hr.1 hr.2,if_neg e]at p4
     rw[uj (n:=(nd d i).bT ((nd d i).holds-1)) hi rfl]at p2
     exact absurd ⟨(mC (n:=(nd d i).bT ((nd d i).holds-1)) hi hi j).1 p1,p2,p4⟩ (hcl j)
   have hfree:=Im _ R _ a (gG d i) room lk up zp i rfl oy hi2 qY
   have HF:=Lib.hid hfree
   have HK:=Lib.hid ((aa.refl R.F w).setCell (p:=⟨R.g i,3,none⟩) (.inl (hC.rep.fN hi)) (.int .i64 ((nd d i).holds-1)))
   have HU:=Lib.hid (show(used (gG d i):Int)<=room by omega)
   have HM:=Lib.hid hmax
   clear hfree qY hi2 oy hms gL hR hC hcl hfit hmax hn eC h0
   generalize(nd d i).holds=x at *
   go_enter Tryz.func71,Tryz.ntmps71
   go_wp2_with(go_at_call 110;refine HF.out.mono ?_;rintro e w1 ⟨rfl,R',d',fT,up',h1,h2,h3,h4⟩)
   go_ret
   exact⟨rfl,R',yF h1 h2 h3 HU.out HM.out,(cW.of HK.out).trans h4⟩
 ·rw[if_neg hi]at dW
  rw[if_pos (j8 hi),if_neg (by decide)]
  clear hC hcl hfit hmax
  go_enter Tryz.func71,Tryz.ntmps71
  go_wp2
  go_ret
  exact⟨rfl,H.out.same (aa.refl _ _)⟩
theorem Io {i:Int} {n:Nd} (hcl:bK d) (hi:has d i) (bS:n.kind≠0) (he:n.ah=(nd d i).ah) (hh:n.holds=0->(nd d i).holds=0):bK (aX d i n):=by
 intro j hj
 have hr:=bF hi
 obtain⟨p1,p2,p4⟩:=hj
 rw[uj hi he]at p2
 refine hcl j ⟨(mC hi bS j).1 p1,p2,?_⟩
 rw[gu hr.1 hr.2]at p4
 split at p4
 ·next e=>subst e;exact hh p4
 ·exact p4
theorem cK.turn {R':RD} {w':World} {lk up:Int->Int} {i:Int} {n:Nd} (hC:dF R w a d room lk up zp) (hcl:bK d) (hi:has d i) (hok:iV n) (hk:n.kind=(nd d i).kind) (he:n.ah=(nd d i).ah)
 (hh:n.holds=0->(nd d i).holds=0) (rep:aS R' w' a (aX d i n) room (used (aX d i n)) lk up) (hs:aP (aX d i n)) (hf:(used (aX d i n):Int)<=room) (hm:room<=9223372036854775807):cK R' w' a (aX d i n) room :=
 ⟨⟨lk,up,hC.aX hi hok hk he rep hs⟩,Io hcl hi (by rw[hk];exact hi) he hh,hf,hm⟩
theorem Ip (h:cK R w a d room) (i:Int) (hb:aH d+1<=2147483648) :
 Calls Tryz.prog 80 #[.pointer (some ⟨a,0,none⟩),.int .i64 i] w fun e w'=>e=.returned (.int .i64 (if has d i then 0 else 12))∧dn R w a (if has d i then kW d i else d) room w':=by
 obtain⟨⟨lk,up,hC⟩,hcl,hfit,hmax⟩:=h
 have h0:=(hC.inv.node i).holds
 have eC:=CO hC.small i
 refine(OE hC.rep i (by omega) h0).mono fun e w' ⟨h1,h2,h3⟩=>⟨h1,R,?_,cW.of h3⟩
 by_cases hi:has d i
 ·rw[if_pos hi]at h2 ⊢
  have gL:used (kW d i)=used d:=by
   have:=uo (n:=(nd d i).bT ((nd d i).holds+1)) hi
   have e:dU ((nd d i).bT ((nd d i).holds+1))=dU (nd d i):=rfl
   unfold kW
   omega
  have hms:aP (kW d i):=by
   have:=oh (n:=(nd d i).bT ((nd d i).holds+1)) hi
   have e:bJ ((nd d i).bT ((nd d i).holds+1))<=bJ (nd d i)+1:=by unfold bJ;simp only[Nd.bT];omega
   unfold aP kW at *
   omega
  refine cK.turn hC hcl hi ((hC.inv.node i).bT hi (by omega)) rfl rfl (fun e=>?_) ?_ hms ?_ hmax
  ·simp only[Nd.bT]at e;omega
  ·rw[show used (aX d i ((nd d i).bT ((nd d i).holds+1)))=used d from gL];exact h2
  ·rw[show used (aX d i ((nd d i).bT ((nd d i).holds+1)))=used d from gL];exact hfit
 ·rw[if_neg hi]at h2 ⊢
  exact⟨⟨lk,up,⟨h2,hC.inv,hC.cnt,hC.qQ,hC.mT,hC.small,hC.oq⟩⟩,hcl,hfit,hmax⟩
theorem OV (h:cK R w a d room) (i m:Int) :
 Calls Tryz.prog 94 #[.pointer (some ⟨a,0,none⟩),.int .i64 i,.int .i64 m] w fun e w'=>e=.returned (.int .i64 (ic d i m))∧dn R w a (if ic d i m=0 then mS d i m else d) room w':=by
 obtain⟨⟨lk,up,hC⟩,hcl,hfit,hmax⟩:=h
 refine(OG hC.rep i m).mono fun e w' ⟨h1,h2,h3⟩=>⟨h1,R,?_,cW.of h3⟩
 by_cases hi:ic d i m=0
 ·rw[if_pos hi]at h2 ⊢
  have hh:has d i∧ia m=true:=by
   unfold ic at hi
   split at hi
   ·cases hi
   ·next h0=>split at hi
             ·next h1=>exact⟨h0,h1⟩
             ·cases hi
  have gL:used (mS d i m)=used d:=by
   have:=uo (n:=(nd d i).gS m) hh.1
   have e:dU ((nd d i).gS m)=dU (nd d i):=rfl
   unfold mS
   omega
  have hms:aP (mS d i m):=by
   have:=oh (n:=(nd d i).gS m) hh.1
   have e:bJ ((nd d i).gS m)=bJ (nd d i):=rfl
   have:=hC.small
   unfold aP mS at *
   omega
  refine cK.turn hC hcl hh.1 ((hC.inv.node i).gS hh.1 hh.2) rfl rfl (fun e=>e) ?_ hms ?_ hmax
  ·rw[show used (aX d i ((nd d i).gS m))=used d from gL];exact h2
  ·rw[show used (aX d i ((nd d i).gS m))=used d from gL];exact hfit
 ·rw[if_neg hi]at h2 ⊢
  exact⟨⟨lk,up,⟨h2,hC.inv,hC.cnt,hC.qQ,hC.mT,hC.small,hC.oq⟩⟩,hcl,hfit,hmax⟩
theorem m8 {d:ag} {i:Int} (h:dM d i=0):has d i∧(nd d i).kind=1:=by
 unfold dM at h
 split at h
 ·cases h
 ·next h0 =>
  split at h
  ·cases h
  ·split at h
   ·next h1=>exact⟨h0,h1⟩
   ·cases h
theorem OW (h:cK R w a d room) (i:Int) :
 Calls Tryz.prog 79 #[.pointer (some ⟨a,0,none⟩),.int .i64 i] w fun e w'=>e=.returned (.int .i64 (dM d i))∧dn R w a (if dM d i=0 then jY d i else d) room w':=by
 have H:=Lib.hid h
 obtain⟨⟨lk,up,hC⟩,hcl,hfit,hmax⟩:=h
 have hf:=Ct hC.rep i
 by_cases he:dM d i=0
 ·obtain⟨hi,hk1⟩:=m8 he
  rw[he]at hf ⊢
  rw[if_pos rfl]
  have hp:lf R 0 i=.pointer (some ⟨R.g i,0,none⟩):=rfl
  rw[hp]at hf
  have hn:=hC.rep.node i hi
  have hu:=hC.rep.used
  have oZ:=hC.rep.fz 2
  have VX:=hn.fz 4
  obtain⟨p,cap,hv⟩:=hn.own.form
  have nU:=hn.data
  rw[hv]at nU
  have hroom:dU (nd d i)<=used d:=sS dU (bF hi).1 (bF hi).2
  have bZ:=BS hC.inv
  have eC:=hC.small
  unfold aP at eC
  have qR:(nd d i).ah=[]:=(hC.inv.node i).flat (by rw[hk1];decide)
  have hr1:dU (nd d i)=(nd d i).data.size:=by unfold dU;rw[qR];rfl
  have e2:IntKind.i64.wrap ((used d:Int)-((nd d i).data.size:Int))=(used d:Int)-((nd d i).data.size:Int):=by rw[IntKind.wrap_i64];omega
  have gL:(used (jY d i):Int)=(used d:Int)-((nd d i).data.size:Int):=by
   have:=uo (n:=(nd d i).dN ⟨#[]⟩) hi
   have e:dU ((nd d i).dN ⟨#[]⟩)=0:=by unfold dU;simp only[Nd.dN,qR];rfl
   unfold jY
   omega
  have hms:aP (jY d i):=by
   have:=oh (n:=(nd d i).dN ⟨#[]⟩) hi
   have e:bJ ((nd d i).dN ⟨#[]⟩)=bJ (nd d i):=rfl
   unfold aP jY at *
   omega
  have hap:¬a=R.g i:=fun e=>by have:=hC.rep.lY i hi;rw[<- e,hC.rep.jn]at this;cases this
  -- the two stores
  have bE:=hC.rep.uu ((used d:Int)-((nd d i).data.size:Int))
  obtain⟨R',gK,hT,_,_,_⟩:=bE.dN hi (aa.refl _ _) (eu.nil _ _) (fun x hx=>by simp[Value.ownBlock]at hx)
  have hend:=Lib.hid (show dn R w a (jY d i) room ((w.setCell ⟨a,2,none⟩ (.int .i64 ((used d:Int)-((nd d i).data.size:Int)))).setCell ⟨R.g i,4,none⟩ (.slice none 0 0))from
   ⟨R',cK.turn hC hcl hi ((hC.inv.node i).dN hi (by rw[hk1];decide) (by decide)) rfl rfl (fun e=>e) (by rw[show(used (aX d i ((nd d i).dN ⟨#[]⟩)):Int)=_ from gL];exact gK) hms (by rw[show(used (aX d i ((nd d i).dN ⟨#[]⟩)):Int)=_ from gL];omega) hmax,
     (cW.of ((aa.refl R.F w).setCell (p:=⟨a,2,none⟩) (.inl hC.rep.fA) _)).trans hT⟩)
  clear bE gK hT hms gL hr1 qR eC bZ hroom hv hn hC hcl hfit hmax H hk1
  generalize(nd d i).data.size=ds at *
  generalize used d=u at *
  go_enter Tryz.func79,Tryz.ntmps79
  go_wp2_with(go_at_call 116;refine hf.mono ?_;rintro e w1 ⟨rfl,rfl⟩)
  go_region
  all_goals go_wp2
  all_goals go_ret
  all_goals exact⟨rfl,hend.out.drew⟩
 ·rw[if_neg he]
  have hp:lf R (dM d i) i=.pointer none:=if_neg he
  rw[hp]at hf
  clear hC hcl hfit hmax
  generalize dM d i=er at hf he
  go_enter Tryz.func79,Tryz.ntmps79
  go_wp2_with(go_at_call 116;refine hf.mono ?_;rintro e w1 ⟨rfl,rfl⟩)
  go_ret
  exact⟨rfl,H.out.same (aa.refl _ _)⟩
end
set_option maxRecDepth 100000
set_option maxHeartbeats 1000000
section
variable{R:RD} {w:World} {a:Nat} {d:ag} {room us:Int} {lk up:Int->Int}
def sizeOf4 (n:Nd):Nat:=if n.kind=2 then n.ah.length else n.data.size
def r9 (n:Nd) (lk:Int):Value:=.agg #[.int .i64 n.kind,.int .i64 n.mode,.int .i64 lk,.int .i64 n.holds,.int .i64 (sizeOf4 n)]
def o6:Value:=.agg #[.int .i64 0,.int .i64 0,.int .i64 0,.int .i64 0,.int .i64 0]
theorem Iq (h:aS R w a d room us lk up) (i:Int) :
 Calls Tryz.prog 28 #[.pointer (some ⟨a,0,none⟩),.int .i64 i] w fun e w'=>e=.returned (.tuple #[if has d i then r9 (nd d i) (lk i)else o6,.int .i64 (if has d i then 0 else 12)])∧aa af w w':=by
 have hl:=h.l
 have dW:=(h.ai ((aa.refl af w).alloc (.cells #[.int .i64 0,.int .i64 0,.int .i64 0,.int .i64 0,.int .i64 0] 29))).look i
 unfold j7 at dW
 have hlt:=h.alt
 by_cases hi:has d i
 ·rw[if_pos hi]at dW
  rw[if_pos hi,if_pos hi]
  have hn:=h.node i hi
  have c0:=hn.kind
  have c1:=hn.mode
  have c2:=hn.links
  have c3:=hn.holds
  have c4:=hn.data
  obtain⟨p,cap,hv⟩:=hn.own.form
  rw[hv]at c4
  have hlen:=fun wx (hx:aa af w wx)=>BA (fun _=>True) wx ⟨R.g i,5,none⟩ (R.ev i) (nd d i).ah ((hn.dir.keep hx (fun h=>h) (fun _ _ h=>h)).any (fun _ _=>trivial))
  have HL:=Lib.hid hlen
  unfold r9 sizeOf4
  generalize(nd d i).data.size=ds at *
  generalize(nd d i).ah.length=es at *
  generalize(nd d i).mode=m at *
  generalize(nd d i).holds=hh at *
  generalize lk i=l at *
  have hgl:=hn.lt
  clear hn h hv hlen
  by_cases h2:(nd d i).kind=2
  ·rw[if_pos h2]
   rw[h2]at c0 ⊢
   clear h2
   go_enter Tryz.func28,Tryz.ntmps28
   go_wp2_with(go_at_call 60;refine(HL.out _ ?_).mono ?_;(exact(aa.refl _ _).alloc _);rintro e w1 ⟨rfl,rfl⟩)
   go_region
   all_goals go_wp2
   all_goals(try simp only[Exit.inBlock,Exit.then])
   all_goals refine bodyPost_ret (v:=.tuple #[.agg #[.int .i64 2,.int .i64 m,.int .i64 l,.int .i64 hh,.int .i64 es],.int .i64 0]) ?_ rfl ⟨rfl,?_⟩
   all_goals first|(rw[results_cell_tmp rfl];go_simp)|skip
   all_goals exact((aa.refl _ _).alloc _).drew
  ·rw[if_neg h2]
   generalize(nd d i).kind=kd at *
   go_enter Tryz.func28,Tryz.ntmps28
   go_wp2
   go_region
   all_goals go_wp2
   all_goals(try simp only[Exit.inBlock,Exit.then])
   all_goals refine bodyPost_ret (v:=.tuple #[.agg #[.int .i64 kd,.int .i64 m,.int .i64 l,.int .i64 hh,.int .i64 ds],.int .i64 0]) ?_ rfl ⟨rfl,?_⟩
   all_goals first|(rw[results_cell_tmp rfl];go_simp)|skip
   all_goals exact((aa.refl _ _).alloc _).drew
 ·rw[if_neg hi]at dW
  rw[if_neg hi,if_neg hi]
  go_enter Tryz.func28,Tryz.ntmps28
  go_wp2
  (try simp only[Exit.inBlock,Exit.then])
  refine bodyPost_ret (v:=.tuple #[o6,.int .i64 12]) ?_ rfl ⟨rfl,?_⟩
  ·rw[results_cell_tmp rfl];unfold o6;go_simp
  ·exact(aa.refl _ _).alloc _
def mJ (d:ag) (i at' most:Int):Int:=if mH d i≠0 then mH d i else if at'<0 then 10 else if most<0 then 10 else 0
def cut (s:ByteArray) (at' most:Int):ByteArray:=s.extract (min at'.toNat s.size) (min at'.toNat s.size+min most.toNat (s.size-min at'.toNat s.size))
def nV (d:ag) (i at' most:Int):ByteArray:=if mJ d i at' most=0 then cut (ij d i) at' most else⟨#[]⟩
theorem OX (h:aS R w a d room us lk up) (i x y:Int) (hs:(ij d i).size<=4194304) :
 Calls Tryz.prog 138 #[.pointer (some ⟨a,0,none⟩),.int .i64 i,.int .i64 x,.int .i64 y] w fun e w'=>e=.returned (.tuple #[.string (nV d i x y),.int .i64 (mJ d i x y)])∧w=w':=by
 have hd:=y6 h i
 clear h
 by_cases he:mH d i=0
 ·rw[he]at hd
  by_cases h1:x<0
  ·have e1:mJ d i x y=10:=by simp[mJ,he,h1]
   have e2:nV d i x y=⟨#[]⟩:=by simp[nV,e1]
   rw[e2,e1]
   go_enter Tryz.func138,Tryz.ntmps138
   go_wp2_with(go_at_call 32;refine hd.mono ?_;rintro e w1 ⟨rfl,rfl⟩)
   go_ret2
   exact⟨rfl,rfl⟩
  ·by_cases h2:y<0
   ·have e1:mJ d i x y=10:=by simp[mJ,he,h1,h2]
    have e2:nV d i x y=⟨#[]⟩:=by simp[nV,e1]
    rw[e2,e1]
    go_enter Tryz.func138,Tryz.ntmps138
    go_wp2_with(go_at_call 32;refine hd.mono ?_;rintro e w1 ⟨rfl,rfl⟩)
    go_ret2
    exact⟨rfl,rfl⟩
   ·have e1:mJ d i x y=0:=by simp[mJ,he,h1,h2]
    have e2:nV d i x y=cut (ij d i) x y:=by simp[nV,e1]
    rw[e2,e1]
    clear e1 e2 he
    generalize ij d i=s at *
    go_enter Tryz.func138,Tryz.ntmps138
    go_wp2_with(go_at_call 32;refine hd.mono ?_;rintro e w1 ⟨rfl,rfl⟩)
    go_ret2
    have a1:(min x (s.size:Int)).toNat=min x.toNat s.size:=by omega
    have a2:(min x (s.size:Int)+min y ((s.size:Int)-min x (s.size:Int))).toNat=min x.toNat s.size+min y.toNat (s.size-min x.toNat s.size):=by omega
    have hc:s.extract (min x (s.size:Int)).toNat (min x (s.size:Int)+min y ((s.size:Int)-min x (s.size:Int))).toNat=cut s x y:=by
     unfold cut
     rw[a1,a2]
    exact⟨by rw[<- hc];rfl,rfl⟩
 ·have e1:mJ d i x y=mH d i:=by simp[mJ,he]
  have e2:nV d i x y=⟨#[]⟩:=by simp[nV,e1,he]
  rw[e2,e1]
  clear e1 e2
  generalize mH d i=er at *
  generalize ij d i=s at *
  go_enter Tryz.func138,Tryz.ntmps138
  go_wp2_with(go_at_call 32;refine hd.mono ?_;rintro e w1 ⟨rfl,rfl⟩)
  go_ret2
  exact⟨rfl,rfl⟩
end
end Go.Proofs.YtnanhmfpikddkaaGreatDoor
set_option maxRecDepth 100000
namespace Go.Proofs.YtnanhmfpikddkaaGreatDoor
structure aJ where
 node:Int
 dir:Int
 name:ByteArray
def aJ.no:aJ:=⟨0,0,⟨#[]⟩⟩
def aJ.on (i:Int):aJ:=⟨i,0,⟨#[]⟩⟩
def aF (p:aJ):Value:=.agg #[.int .i64 p.node,.int .i64 p.dir,.string p.name]
def bI (d:ag) (i:Int):Int:=if aO d i≠0 then aO d i else if (nd d i).mode / 64 % 2=0 then 19 else 0
structure Ed where
 p:aJ
 t:ByteArray
 e:Int
 n:Nat
abbrev lH:ByteArray:=⟨#[46]⟩
abbrev lI:ByteArray:=⟨#[46,46]⟩
def ck (d:ag) (up:Int->Int) (at':Int) (x:ByteArray) (follow:Bool) (n:Nat):Ed :=
 if bI d at'≠0 then⟨.no,⟨#[]⟩,bI d at',n⟩
 else if x=lH then⟨.on at',⟨#[]⟩,0,n⟩
 else if x=lI then⟨.on (up at'),⟨#[]⟩,0,n⟩
 else if 255<x.size then⟨.no,⟨#[]⟩,18,n⟩
 else if bH d at' x≠0∨follow=false then⟨⟨aN d at' x,at',x⟩,⟨#[]⟩,0,n⟩
 else if (nd d (aN d at' x)).kind≠3 then⟨⟨aN d at' x,at',x⟩,⟨#[]⟩,0,n⟩
 else if 40<n+1 then⟨.no,⟨#[]⟩,17,n+1⟩
 else⟨⟨aN d at' x,at',x⟩,ij d (aN d at' x),0,n+1⟩
def mM (t:ByteArray) (l:List ByteArray) (slash:Bool):ByteArray :=
 if slash&&!cg (l.foldl eK t)then l.foldl eK t++dL else l.foldl eK t
inductive Out where
 | fin (p:aJ)
 | err (e:Int)
 | again (at':Int) (s:ByteArray) (n:Nat)
def scan (d:ag) (up:Int->Int) (slash follow:Bool):List ByteArray->Int->Nat->aJ->Out
 | [],_,_,p=>.fin p
 | x::r,at',n,_ =>
   let q:=ck d up at' x (!r.isEmpty||slash||follow) n
   if q.e≠0 then .err q.e
   else if q.t≠⟨#[]⟩then .again at' (mM q.t r slash) q.n
   else if q.p.node=0∧r≠[]then .err 12
   else scan d up slash follow r q.p.node q.n q.p
def jC (d:ag) (p:aJ) (slash:Bool):aJ × Int :=
 if slash=false∨p.node=0 then(p,0)else if (nd d p.node).kind≠2 then(.no,14)else(p,0)
def cO (s:ByteArray):Int:=if s=⟨#[]⟩then 12 else if 4095<s.size then 18 else if 0<=jx s 0 then 11 else 0
def eD (d:ag) (up:Int->Int) (follow:Bool):Nat->Int->ByteArray->Nat->aJ × Int
 | 0,_,_,_=>(.no,17)
 | fuel+1,from',s,n =>
   if cO s≠0 then(.no,cO s)
   else if iG s=[]then(.on (if fj s then 1 else from'),bI d (if fj s then 1 else from'))
   else match scan d up (cg s) follow (iG s) (if fj s then 1 else from') n (.on from')with
    | .fin p=>jC d p (cg s)
    | .err e=>(.no,e)
    | .again at' s' n'=>eD d up follow fuel at' s' n'
theorem U2 (d:ag) (up:Int->Int) (at':Int) (x:ByteArray) (follow:Bool) (n:Nat) :
 n<=(ck d up at' x follow n).n∧((ck d up at' x follow n).e=0->(ck d up at' x follow n).t≠⟨#[]⟩->(ck d up at' x follow n).n=n+1∧n+1<=40)∧((ck d up at' x follow n).e=0->n<=40->(ck d up at' x follow n).n<=40):=by
 unfold ck
 split
 ·exact⟨Nat.le_refl _,fun h=>absurd h (by assumption),fun h _=>absurd h (by assumption)⟩
 split
 ·exact⟨Nat.le_refl _,fun _ h=>absurd rfl h,fun _ h=>h⟩
 split
 ·exact⟨Nat.le_refl _,fun _ h=>absurd rfl h,fun _ h=>h⟩
 split
 ·exact⟨Nat.le_refl _,fun h=>absurd h (show ¬(18:Int)=0 by decide),fun h=>absurd h (show ¬(18:Int)=0 by decide)⟩
 split
 ·exact⟨Nat.le_refl _,fun _ h=>absurd rfl h,fun _ h=>h⟩
 split
 ·exact⟨Nat.le_refl _,fun _ h=>absurd rfl h,fun _ h=>h⟩
 split
 ·exact⟨Nat.le_succ _,fun h=>absurd h (show ¬(17:Int)=0 by decide),fun h=>absurd h (show ¬(17:Int)=0 by decide)⟩
 ·exact⟨Nat.le_succ _,fun _ _=>⟨rfl,by omega⟩,fun _ _=>by show n+1<=40;omega⟩
theorem U3 (a b:ByteArray):(eK a b).size<=a.size+b.size+1:=by
 unfold eK
 split
 ·omega
 split
 ·rw[ByteArray.size_append];omega
 ·rw[ByteArray.size_append,ByteArray.size_append]
  show a.size+1+b.size<=_
  omega
theorem Ff (l:List ByteArray) (m:Nat) (hl:∀x∈l,x.size<=m):∀t:ByteArray,(l.foldl eK t).size<=t.size+l.length*(m+1):=by
 induction l with
 | nil=>intro t;simp
 | cons x r ih =>
   intro t
   have h1:=ih (fun y hy=>hl y (by simp[hy])) (eK t x)
   have h2:=U3 t x
   have h3:=hl x (by simp)
   rw[List.foldl_cons,List.length_cons,Nat.succ_mul]
   omega
theorem LZ (t:ByteArray) (l:List ByteArray) (slash:Bool) (m:Nat) (hl:∀x∈l,x.size<=m):(mM t l slash).size<=t.size+l.length*(m+1)+1:=by
 have:=Ff l m hl t
 unfold mM
 split
 ·rw[ByteArray.size_append]
  show _+1<=_
  omega
 ·omega
theorem U4 (s:ByteArray) (hs:¬s=⟨#[]⟩) (h:iG s=[]):fj s=true:=by
 by_cases ha:s.data.toList[0]?=some 47
 ·exact decide_eq_true ha
 ·exfalso
  have:∀p∈dY s,p=⟨#[]⟩:=by
   intro p hp
   have:=List.filter_eq_nil_iff.1 h p hp
   simpa using this
  unfold dY at this
  cases hd:s.data.toList with
  | nil=>exact hs (qL (by rw[hd]))
  | cons c l =>
    rw[hd]at this ha
    have hc:¬c=47:=fun e=>ha (by rw[e];rfl)
    unfold jg at this
    rw[if_neg hc]at this
    cases hp:jg l with
    | nil=>exact Eu _ hp
    | cons q r =>
      rw[hp]at this
      have:=this (sC (c::q)) (by simp)
      have h2:=congrArg (fun s:ByteArray=>s.data.toList) this
      simp[sC]at h2
noncomputable def iA (d:ag) (i:Int):Int:=if i=1 then 1 else @dite _ (∃j,cY d j i) (Classical.propDecidable _) (fun h=>Classical.choose h) (fun _=>0)
theorem De {d:ag} (hI:aG d) {i j:Int} (h1:i≠1) (h:cY d j i) (uq:∀{i j j':Int},cY d j i->cY d j' i->j=j'):iA d i=j:=by
 unfold iA
 rw[if_neg h1,dif_pos ⟨j,h⟩]
 exact uq (Classical.choose_spec (⟨j,h⟩:∃j,cY d j i)) h
theorem Pw {d:ag} {i:Int} (h1:i≠1) (h:¬∃j,cY d j i):iA d i=0:=by
 unfold iA
 rw[if_neg h1,dif_neg h]
def zH (d:ag) (up up':Int->Int):Prop:=∀i,aO d i=0->up i=up' i
section
variable{d:ag} {up up':Int->Int}
theorem U1 (h:zH d up up') (at':Int) (x:ByteArray) (fl:Bool) (n:Nat):ck d up at' x fl n=ck d up' at' x fl n:=by
 unfold ck
 by_cases hi:bI d at'≠0
 ·rw[if_pos hi,if_pos hi]
 ·have h0:bI d at'=0:=Classical.not_not.1 hi
  have hf:aO d at'=0:=by
   unfold bI at h0
   exact Classical.byContradiction fun hf=>by rw[if_pos hf]at h0;exact hf h0
  rw[if_neg hi,if_neg hi,h at' hf]
theorem LY (h:zH d up up') (slash follow:Bool):∀(l:List ByteArray) (at':Int) (n:Nat) (p:aJ),scan d up slash follow l at' n p=scan d up' slash follow l at' n p
 | [],_,_,_=>rfl
 | x::r,at',n,p=>by
   unfold scan
   rw[U1 h]
   simp only[LY h slash follow r]
theorem Dc (h:zH d up up') (follow:Bool):∀(fuel:Nat) (from':Int) (s:ByteArray) (n:Nat),eD d up follow fuel from' s n=eD d up' follow fuel from' s n
 | 0,_,_,_=>rfl
 | fuel+1,from',s,n=>by
   unfold eD
   rw[LY h]
   simp only[Dc h follow fuel]
end
theorem oU {es:List aD} {name:ByteArray} {n:Int} (hno:bu es name=false) (e:aD):e∈bY es name n↔e∈es∨e=(name,n):=by
 have hne:∀x∈es,x.1≠name:=fun x hx e=>by
  have:bu es name=true:=List.any_eq_true.2 ⟨x,hx,by simp[e]⟩
  rw[hno]at this;cases this
 unfold bY
 simp only[List.mem_append,List.mem_filter,List.mem_singleton]
 constructor
 ·rintro((⟨h,_⟩|h)|⟨h,_⟩)
  ·exact .inl h
  ·exact .inr h
  ·exact .inl h
 ·rintro(h|h)
  ·cases h1:bD e.1 name with
   | true=>exact .inl (.inl ⟨h,rfl⟩)
   | false =>
     cases h2:bD name e.1 with
     | true=>exact .inr ⟨h,rfl⟩
     | false=>exact absurd (yx h1 h2) (hne e h)
  ·exact .inl (.inr h)
theorem ow {es:List aD} {name:ByteArray}:bu es name=true↔∃e∈es,e.1=name:=by simp[bu]
theorem ox (es:List aD) (name:ByteArray):(bk es name).isSome=bu es name:=by
 rw[Bool.eq_iff_iff,ow]
 simp[bk]
theorem Iw {es:List aD} {name:ByteArray} (h:bu es name=false):bk es name=none:=by
 have:=ox es name
 rw[h]at this
 simpa using this
theorem kX {es:List aD} {name:ByteArray} {k:Int} (h:bk es name=some k):bu es name=true:=by
 rw[<- ox,h];rfl
theorem dV {es:List aD} {name:ByteArray} {k:Int} (h:bk es name=some k):(name,k)∈es:=by
 unfold bk at h
 rw[Option.map_eq_some_iff]at h
 obtain⟨e,he,rfl⟩:=h
 have h1:=List.find?_some he
 have h2:=List.mem_of_find?_eq_some he
 have:e.1=name:=by simpa using h1
 subst this
 exact h2
theorem BX {es:List aD} {name:ByteArray} {n:Int} (hno:bu es name=false):(bY es name n).Perm ((name,n)::es):=by
 have hne:∀x∈es,x.1≠name:=fun x hx e=>by
  have:bu es name=true:=List.any_eq_true.2 ⟨x,hx,by simp[e]⟩
  rw[hno]at this;cases this
 have hgt:es.filter (fun e=>bD name e.1)=es.filter (fun e=>!bD e.1 name):=by
  refine List.filter_congr fun x hx=>?_
  cases h1:bD x.1 name with
  | true=>rw[yw h1];rfl
  | false =>
    cases h2:bD name x.1 with
    | true=>rfl
    | false=>exact absurd (yx h1 h2) (hne x hx)
 unfold bY
 rw[hgt,List.append_assoc]
 refine List.perm_middle.trans (List.Perm.cons _ ?_)
 exact List.filter_append_perm _ _
theorem C6 {es:List aD} (h:cq es) {name:ByteArray} {k:Int} (hk:bk es name=some k) :
 es[lb es name]?=some (name,k)∧es=es.take (lb es name)++(name,k)::es.drop (lb es name+1):=by
 rw[get_at h]at hk
 cases hl:es[lb es name]? with
 | none=>rw[hl]at hk;cases hk
 | some x =>
   rw[hl]at hk
   simp only at hk
   split at hk
   ·next e =>
    cases hk
    have hx:x=(name,x.2):=by rw[<- e]
    refine⟨by rw[<- hx],?_⟩
    obtain⟨h1,h2⟩:=List.getElem?_eq_some_iff.1 hl
    rw[<- hx,<- h2,List.getElem_cons_drop,List.take_append_drop]
   ·cases hk
theorem BZ {es:List aD} (h:cq es) {name:ByteArray} {k:Int} (hk:bk es name=some k):es.Perm ((name,k)::bQ es name):=by
 have h2:=(C6 h hk).2
 have hd:=Bt h name (kX hk)
 conv=>lhs;rw[h2]
 refine List.perm_middle.trans (List.Perm.cons _ ?_)
 rw[hd]
theorem Gy {es:List aD} (h:cq es) {name:ByteArray} {k:Int} (n:Int) (hk:bk es name=some k):(eW es name n).Perm ((name,n)::bQ es name):=by
 obtain⟨h1,h2⟩:=C6 h hk
 have hs:=Bu h name n h1 rfl
 have hd:=Bt h name (kX hk)
 obtain⟨hl,_⟩:=List.getElem?_eq_some_iff.1 h1
 rw[<- hs,List.set_eq_take_append_cons_drop,if_pos hl]
 refine List.perm_middle.trans (List.Perm.cons _ ?_)
 rw[hd]
theorem Cb {l m:List aD} (h:l.Perm m):cQ l=cQ m:=by
 unfold cQ
 exact(h.map _).sum_nat
theorem CF {es:List aD} {name:ByteArray} {n:Int} (hno:bu es name=false) (x:ByteArray):bu (bY es name n) x=(bu es x||decide (x=name)):=by
 rw[Bool.eq_iff_iff,ow,Bool.or_eq_true,ow]
 simp only[oU hno,decide_eq_true_eq]
 constructor
 ·rintro⟨e,h|h,rfl⟩
  ·exact .inl ⟨e,h,rfl⟩
  ·subst h;exact .inr rfl
 ·rintro(⟨e,h,rfl⟩|h)
  ·exact⟨e,.inl h,rfl⟩
  ·exact⟨_,.inr rfl,h.symm⟩
theorem Ck {es:List aD} {name x:ByteArray}:bu (bQ es name) x=(bu es x&&!decide (x=name)):=by
 rw[Bool.eq_iff_iff,ow,Bool.and_eq_true,ow]
 simp only[bQ,List.mem_filter,Bool.not_eq_true',decide_eq_false_iff_not]
 constructor
 ·rintro⟨e,⟨h1,h2⟩,rfl⟩;exact⟨⟨e,h1,rfl⟩,h2⟩
 ·rintro⟨⟨e,h1,rfl⟩,h2⟩;exact⟨e,⟨h1,h2⟩,rfl⟩
theorem zE:∀{l m:List aD},cq l->cq m->(∀e,e∈l↔e∈m)->l=m
 | [],[],_,_,_=>rfl
 | [],b::m,_,_,h=>by have:=(h b).2 (by simp);cases this
 | a::l,[],_,_,h=>by have:=(h a).1 (by simp);cases this
 | a::l,b::m,hl,hm,h=>by
   have hl':=List.pairwise_cons.1 hl
   have hm':=List.pairwise_cons.1 hm
   have hab:a=b:=by
    rcases List.mem_cons.1 ((h a).1 (by simp))with e|e
    ·exact e
    ·rcases List.mem_cons.1 ((h b).2 (by simp))with e2|e2
     ·exact e2.symm
     ·have h1:=hm'.1 a e
      have h2:=hl'.1 b e2
      rw[yw h1]at h2;cases h2
   subst hab
   congr 1
   refine zE hl'.2 hm'.2 fun e=>?_
   constructor
   ·intro he
    rcases List.mem_cons.1 ((h e).1 (List.mem_cons_of_mem _ he))with e2|e2
    ·subst e2;have:=hl'.1 e he;rw[rO]at this;cases this
    ·exact e2
   ·intro he
    rcases List.mem_cons.1 ((h e).2 (List.mem_cons_of_mem _ he))with e2|e2
    ·subst e2;have:=hm'.1 e he;rw[rO]at this;cases this
    ·exact e2
theorem Ib {es:List aD} (h:cq es) {name:ByteArray} {n:Int} (hno:bu es name=false):bQ (bY es name n) name=es:=by
 refine zE ((h.put name n).del name) h fun e=>?_
 unfold bQ
 rw[List.mem_filter,oU hno]
 constructor
 ·rintro⟨h1|h1,h2⟩
  ·exact h1
  ·subst h1;simp at h2
 ·intro he
  refine⟨.inl he,?_⟩
  cases hd:decide (e.1=name)with
  | false=>rfl
  | true =>
    have:bu es name=true:=List.any_eq_true.2 ⟨e,he,hd⟩
    rw[this]at hno;cases hno
theorem GF {l:List aD} (h:cq l) {x y:aD} (hx:x∈l) (hy:y∈l) (e:x.1=y.1):x=y:=by
 obtain⟨i,hi⟩:=List.mem_iff_getElem?.1 hx
 obtain⟨j,hj⟩:=List.mem_iff_getElem?.1 hy
 rcases Nat.lt_trichotomy i j with h1|h1|h1
 ·have:=h.get hi hj h1;rw[e,rO]at this;cases this
 ·subst h1;rw[hi]at hj;cases hj;rfl
 ·have:=h.get hj hi h1;rw[e,rO]at this;cases this
theorem Cg {l:List aD} (h:cq l) {name:ByteArray} {k:Int}:bk l name=some k↔(name,k)∈l:=by
 refine⟨dV,fun hm=>?_⟩
 have hh:bu l name=true:=ow.2 ⟨_,hm,rfl⟩
 rw[<- ox]at hh
 obtain⟨k',hk'⟩:=Option.isSome_iff_exists.1 hh
 have:=GF h (dV hk') hm rfl
 rw[hk']
 cases this;rfl
theorem qU {l:List aD} {name:ByteArray} {e:aD}:e∈bQ l name↔e∈l∧e.1≠name:=by simp[bQ]
theorem vU {l:List aD} {name:ByteArray} {n:Int} {e:aD}:e∈eW l name n↔(e∈l∧e.1≠name)∨(e=(name,n)∧bu l name=true):=by
 unfold eW
 rw[List.mem_map,ow]
 constructor
 ·rintro⟨x,hx,rfl⟩
  split
  ·next e=>exact .inr ⟨by rw[e],x,hx,e⟩
  ·next e=>exact .inl ⟨hx,e⟩
 ·rintro(⟨h1,h2⟩|⟨rfl,x,hx,e⟩)
  ·exact⟨e,h1,if_neg h2⟩
  ·exact⟨x,hx,by rw[if_pos e,e]⟩
theorem Pg {l:List aD} {name:ByteArray} {n:Int} (x:ByteArray):bu (eW l name n) x=bu l x:=by
 rw[Bool.eq_iff_iff,ow,ow]
 simp only[vU]
 constructor
 ·rintro⟨e,⟨h1,h2⟩|⟨rfl,h2⟩,rfl⟩
  ·exact⟨e,h1,rfl⟩
  ·exact ow.1 h2
 ·rintro⟨e,he,rfl⟩
  by_cases h:e.1=name
  ·exact⟨(name,n),.inr ⟨rfl,ow.2 ⟨e,he,h⟩⟩,h.symm⟩
  ·exact⟨e,.inl ⟨he,h⟩,rfl⟩
theorem NL {l:List aD} (h:cq l) {name x:ByteArray} {n:Int} (hno:bu l name=false) (hx:x≠name):bk (bY l name n) x=bk l x:=by
 cases hg:bk l x with
 | none =>
   refine Iw ?_
   have:=ox l x
   rw[hg]at this
   rw[CF hno,<- this];simpa using hx
 | some k=>exact(Cg (h.put name n)).2 ((oU hno _).2 (.inl (dV hg)))
theorem NK {l:List aD} (h:cq l) {name x:ByteArray} {n:Int} (hx:x≠name):bk (eW l name n) x=bk l x:=by
 cases hg:bk l x with
 | none =>
   refine Iw ?_
   have:=ox l x
   rw[hg]at this
   rw[Pg,<- this];rfl
 | some k=>exact(Cg (h.set name n)).2 (vU.2 (.inl ⟨dV hg,hx⟩))
theorem NT {l:List aD} (h:cq l) {name x:ByteArray} {n:Int} (hno:bu l name=false) (hx:x≠name):bQ (bY l name n) x=bY (bQ l x) name n:=by
 have Ph:bu (bQ l x) name=false:=by rw[Ck,hno];rfl
 refine zE ((h.put name n).del x) ((h.del x).put name n) fun e=>?_
 rw[qU,oU hno,oU Ph,qU]
 constructor
 ·rintro⟨h1|h1,h2⟩
  ·exact .inl ⟨h1,h2⟩
  ·exact .inr h1
 ·rintro(⟨h1,h2⟩|h1)
  ·exact⟨.inl h1,h2⟩
  ·exact⟨.inr h1,by subst h1;exact fun e=>hx e.symm⟩
theorem NS {l:List aD} (h:cq l) {name x:ByteArray} {n:Int} (hx:x≠name):bQ (eW l name n) x=eW (bQ l x) name n:=by
 refine zE ((h.set name n).del x) ((h.del x).set name n) fun e=>?_
 rw[qU,vU,vU,qU,Ck]
 have hd:(!decide (name=x))=true:=by simpa using fun e:name=x=>hx e.symm
 rw[hd,Bool.and_true]
 constructor
 ·rintro⟨⟨h1,h2⟩|⟨h1,h2⟩,h3⟩
  ·exact .inl ⟨⟨h1,h3⟩,h2⟩
  ·exact .inr ⟨h1,h2⟩
 ·rintro(⟨⟨h1,h3⟩,h2⟩|⟨h1,h2⟩)
  ·exact⟨.inl ⟨h1,h2⟩,h3⟩
  ·exact⟨.inr ⟨h1,h2⟩,by subst h1;exact fun e=>hx e.symm⟩
end Go.Proofs.YtnanhmfpikddkaaGreatDoor
namespace Go.Proofs.YtnanhmfpikddkaaGreatDoor
open Go.RowKit
section
variable{d:ag} {i:Int} {n:Nd}
theorem yG (h:aG d) {j:Int} (hj:¬has d j):cnt d j=0:=by
 rcases Nat.eq_zero_or_pos (cnt d j)with h0|h0
 ·exact h0
 ·obtain⟨k,e,he,hi⟩:=mD.1 h0
  have:=(h.tgt k e he).1
  rw[hi]at this
  exact absurd this hj
theorem yH (hn:n.kind≠0) (j:Int):has (d++[n]) j↔j=d.length∨has d j:=by
 unfold has
 rw[iI]
 split
 ·next e=>subst e;exact⟨fun _=>.inl rfl,fun _=>hn⟩
 ·next e=>exact⟨.inr,fun h=>h.resolve_left e⟩
theorem qa (d:ag):¬has d d.length:=fun h=>by have:=bF h;omega
theorem yI (he:n.ah=[]) (j:Int):links (d++[n]) j=links d j:=by
 unfold links cnt
 rw[uk]
 have:eY j n=0:=by unfold eY;rw[he];rfl
 omega
theorem BU (h:aG d) (he:n.ah=[]) (j k:Int):cY (d++[n]) j k↔cY d j k:=by
 unfold cY
 rw[iI,iI]
 constructor
 ·rintro⟨h1,e,h2,h3⟩
  split at h2
  ·rw[he]at h2;cases h2
  ·have:=(h.tgt j e h2).1
   rw[h3]at this
   rw[if_neg (fun hk=>by subst hk;exact qa d this)]at h1
   exact⟨h1,e,h2,h3⟩
 ·rintro⟨h1,e,h2,h3⟩
  have hk:k≠d.length:=fun hk=>by
   have:has d k:=by unfold has;rw[h1];decide
   subst hk;exact qa d this
  have hj:j≠d.length:=fun hj=>by
   subst hj
   rw[pV (by omega)]at h2;cases h2
  rw[if_neg hk,if_neg hj]
  exact⟨h1,e,h2,h3⟩
theorem aG.add (h:aG d) (hn:n.kind≠0) (hok:iV n) (he:n.ah=[]):aG (d++[n]):=by
 have h2:=h.two
 refine⟨by rw[List.length_append];omega,?_,?_,fun j=>?_,fun j e hj=>?_,fun j hj=>?_,fun j=>?_⟩
 ·rw[iI,if_neg (by omega)];exact h.zero
 ·rw[iI,if_neg (by omega)];exact h.root
 ·rw[iI];split
  ·exact hok
  ·exact h.node j
 ·rw[iI]at hj
  split at hj
  ·rw[he]at hj;cases hj
  ·exact⟨(yH hn _).2 (.inr (h.tgt j e hj).1),(h.tgt j e hj).2⟩
 ·rw[yI he]
  rw[iI]at hj
  split at hj
  ·next e =>
   subst e
   have:=yG h (qa d)
   unfold links
   split<;>omega
  ·exact h.single j hj
 ·have:=h.oT j
  induction this with
  | intro j _ ih=>exact⟨j,fun k hk'=>ih k ((BU h he k j).1 hk')⟩
theorem Gs (h:bK d) (he:n.ah=[]) (hh:n.holds≠0):bK (d++[n]):=by
 intro j ⟨h1,h2,h3⟩
 rw[yI he]at h2
 unfold has at h1
 rw[iI]at h1 h3
 split at h1
 ·next e=>rw[if_pos e]at h3;exact hh h3
 ·next e=>rw[if_neg e]at h3;exact h j ⟨h1,h2,h3⟩
theorem cK.add {R R':RD} {w w':World} {a:Nat} {room:Int} {lk up:Int->Int} (hC:dF R w a d room lk up zp) (hcl:bK d) (hn:n.kind≠0) (hok:iV n) (he:n.ah=[]) (hh:n.holds≠0)
 (rep:aS R' w' a (d++[n]) room (used (d++[n])) (setAt lk d.length 0) (setAt up d.length 0)) (hs:aP (d++[n])) (hf:(used (d++[n]):Int)<=room) (hm:room<=9223372036854775807):cK R' w' a (d++[n]) room:=by
 refine⟨⟨_,_,rep,hC.inv.add hn hok he,fun j hj=>?_,fun j hj=>absurd hj (by unfold zp;omega),fun j hj=>?_,hs,fun j hj=>?_⟩,Gs hcl he hh,hf,hm⟩
 ·rw[yI he]
  rcases(yH hn j).1 hj with e|e
  ·subst e
   rw[mE]
   have:=yG hC.inv (qa d)
   have h2:=hC.inv.two
   unfold links zp
   rw[if_neg (by omega),this];rfl
  ·have hne:j≠d.length:=fun e1=>by subst e1;exact qa d e
   rw[mU hne]
   exact hC.cnt j e
 ·rcases(yH hn j).1 hj with e|e
  ·subst e
   rw[mE,mE]
   have h2:=hC.inv.two
   refine⟨fun k hk=>?_,fun e=>by omega,fun _=>rfl⟩
   have hk:=(BU hC.inv he k _).1 hk
   have:=hk.links
   have:=yG hC.inv (qa d)
   unfold links at *
   rw[if_neg (by omega)]at *
   omega
  ·have hne:j≠d.length:=fun e1=>by subst e1;exact qa d e
   rw[mU hne,mU hne]
   obtain⟨h1,h2,h3⟩:=hC.mT j e
   exact⟨fun k hk=>h1 k ((BU hC.inv he k j).1 hk),h2,h3⟩
 ·rcases(yH hn j).1 hj with e|e
  ·subst e;rw[mE];decide
  ·have hne:j≠d.length:=fun e1=>by subst e1;exact qa d e
   rw[mU hne];exact hC.oq j e
theorem Gt (d:ag) (n:Nd):used (d++[n])=used d+dU n:=uk _ _ _
theorem Gu (d:ag) (n:Nd):aH (d++[n])=aH d+bJ n:=uk _ _ _
inductive ou (P:Int->Int->Prop) (k:Int):Int->Prop
 | self:ou P k k
 | step {j i:Int}:P j i->ou P k j->ou P k i
abbrev cU (d:ag):Int->Int->Prop:=ou (cY d)
theorem Gv {P P':Int->Int->Prop} {k t:Int} (hP:∀j i,P' j i->(i≠k∧P j i)∨(i=k∧j=t)) (hacc:∀i,Acc P i) (hno:¬ou P k t):∀i,Acc P' i:=by
 have hA:∀i,Acc P i->¬ou P k i->Acc P' i:=fun i h=>by
  induction h with
  | intro i _ ih =>
    intro hn
    refine⟨i,fun j hj=>?_⟩
    rcases hP j i hj with⟨h1,h2⟩|⟨h1,_⟩
    ·exact ih j h2 (fun ha=>hn (.step h2 ha))
    ·subst h1;exact absurd .self hn
 have ht:=hA t (hacc t) hno
 intro i
 have:=hacc i
 induction this with
 | intro i _ ih =>
   refine⟨i,fun j hj=>?_⟩
   rcases hP j i hj with⟨_,h2⟩|⟨h1,h2⟩
   ·exact ih j h2
   ·subst h2;exact ht
def dz (d:ag) (i:Int) (es:List aD):ag:=aX d i ((nd d i).dZ es)
def gi (j:Int) (es:List aD):Nat:=es.countP fun e=>decide (e.2=j)
theorem BV {l m:List aD} (h:l.Perm m) (j:Int):gi j l=gi j m:=h.countP_eq _
theorem BW (x:aD) (l:List aD) (j:Int):gi j (x::l)=gi j l+if x.2=j then 1 else 0:=by
 unfold gi
 rw[List.countP_cons]
 simp
theorem Gw {j:Int} {l:List aD}:0<gi j l↔∃e∈l,e.2=j:=by simp[gi,List.countP_pos_iff]
theorem Gx {es:List aD} {name:ByteArray} {k:Int} (h:bu es name=false) (j:Int):gi j (bY es name k)=gi j es+if k=j then 1 else 0:=by
 rw[BV (BX h),BW]
theorem yJ {es:List aD} (hr:cq es) {name:ByteArray} {k:Int} (h:bk es name=some k) (j:Int):gi j es=gi j (bQ es name)+if k=j then 1 else 0:=by
 rw[BV (BZ hr h),BW]
theorem NC {es:List aD} (hr:cq es) {name:ByteArray} {k:Int} (n:Int) (h:bk es name=some k) (j:Int):gi j (eW es name n)+(if k=j then 1 else 0)=gi j es+if n=j then 1 else 0:=by
 rw[BV (Gy hr n h),BW,yJ hr h]
 dsimp only
 omega
theorem Ca (x:aD) (l:List aD):cQ (x::l)=cQ l+x.1.size:=by simp[cQ];omega
theorem Gz {es:List aD} {name:ByteArray} {k:Int} (h:bu es name=false):cQ (bY es name k)=cQ es+name.size:=by
 rw[Cb (BX h),Ca]
theorem Cc {es:List aD} (hr:cq es) {name:ByteArray} {k:Int} (h:bk es name=some k):cQ es=cQ (bQ es name)+name.size:=by
 rw[Cb (BZ hr h),Ca]
theorem ND {es:List aD} (hr:cq es) {name:ByteArray} {k:Int} (n:Int) (h:bk es name=some k):cQ (eW es name n)=cQ es:=by
 rw[Cb (Gy hr n h),Ca,Cc hr h]
theorem vS {es:List aD} {name:ByteArray} {k:Int} (h:bu es name=false):(bY es name k).length=es.length+1:=by
 rw[(BX h).length_eq];rfl
theorem GA {es:List aD} (hr:cq es) {name:ByteArray} {k:Int} (h:bk es name=some k):es.length=(bQ es name).length+1:=by
 rw[(BZ hr h).length_eq];rfl
theorem GD (es:List aD) (name:ByteArray) (n:Int):(eW es name n).length=es.length:=by unfold eW;simp
theorem lW (hi:has d i) (es:List aD) (j:Int):nd (dz d i es) j=if j=i then(nd d i).dZ es else nd d j:=gu (bF hi).1 (bF hi).2 _ _
theorem sW (hi:has d i) (es:List aD) (j:Int):(nd (dz d i es) j).kind=(nd d j).kind:=by
 rw[lW hi]
 split
 ·next e=>subst e;rfl
 ·rfl
theorem vT (hi:has d i) (es:List aD) (j:Int):(nd (dz d i es) j).holds=(nd d j).holds:=by
 rw[lW hi]
 split
 ·next e=>subst e;rfl
 ·rfl
theorem mF (hi:has d i) (es:List aD) (j:Int):(nd (dz d i es) j).ah=if j=i then es else(nd d j).ah:=by
 rw[lW hi]
 split<;>rfl
theorem qc (hi:has d i) (es:List aD) (j:Int):has (dz d i es) j↔has d j:=mC (n:=(nd d i).dZ es) hi hi j
theorem yK (hi:has d i) (es:List aD) (j:Int):links (dz d i es) j+gi j (nd d i).ah=links d j+gi j es:=Gq (n:=(nd d i).dZ es) hi j
theorem yL (hi:has d i) (es:List aD):used (dz d i es)+cQ (nd d i).ah=used d+cQ es:=by
 have:=uo (n:=(nd d i).dZ es) hi
 unfold dU at this
 simp only[Nd.dZ]at this
 unfold dz
 simp only[Nd.dZ]
 omega
theorem yM (hi:has d i) (es:List aD):aH (dz d i es)+(nd d i).ah.length=aH d+es.length:=by
 have:=oh (n:=(nd d i).dZ es) hi
 unfold bJ at this
 simp only[Nd.dZ]at this
 unfold dz
 simp only[Nd.dZ]
 omega
theorem ag.ext {d d':ag} (hl:d.length=d'.length) (h:∀j,nd d j=nd d' j):d=d':=by
 apply List.ext_getElem?
 intro j
 by_cases hj:j<d.length
 ·have h1:=sU (d:=d) (i:=j) (by omega) (by omega)
  have h2:=sU (d:=d') (i:=j) (by omega) (by omega)
  simp only[Int.toNat_natCast]at h1 h2
  rw[h1,h2,h]
 ·rw[List.getElem?_eq_none (by omega),List.getElem?_eq_none (by omega)]
theorem j4 (d:ag) (i:Int) (es:List aD):(dz d i es).length=d.length:=jl _ _ _
theorem yN (hi:has d i) (es es':List aD):dz (dz d i es) i es'=dz d i es':=by
 refine ag.ext (by simp only[j4]) fun j=>?_
 rw[lW ((qc hi es i).2 hi),lW hi,lW hi,lW hi]
 by_cases e:j=i
 ·rw[if_pos e,if_pos e,if_pos rfl];rfl
 ·rw[if_neg e,if_neg e,if_neg e]
theorem Cd (hi:has d i):dz d i (nd d i).ah=d:=by
 refine ag.ext (by simp only[j4]) fun j=>?_
 rw[lW hi]
 split
 ·next e=>subst e;rfl
 ·rfl
theorem aG.turned (h:aG d) {d':ag} (hl:d'.length=d.length) (hnd:∀j,∃es,nd d' j=(nd d j).dZ es∧cq es∧(∀e∈es,fJ e.1=true∧has d e.2∧e.2≠1)∧((nd d j).kind≠2->es=[]))
 (Ce:∀j,(nd d j).kind=2->links d' j<=1) (hac:∀j,Acc (cY d') j):aG d':=by
 have rU:∀j,(nd d' j).kind=(nd d j).kind:=fun j=>by
  obtain⟨es,h1,_⟩:=hnd j
  rw[h1];rfl
 refine⟨by rw[hl];exact h.two,?_,?_,fun j=>?_,fun j e hj=>?_,fun j hj=>?_,hac⟩
 ·obtain⟨es,h1,_,_,h4⟩:=hnd 0
  rw[h.zero]at h1 h4
  have:=h4 (by decide)
  subst this
  rw[h1];rfl
 ·rw[rU];exact h.root
 ·obtain⟨es,h1,h2,h3,h4⟩:=hnd j
  rw[h1]
  have hok:=h.node j
  refine⟨hok.um,hok.pZ,fun e=>?_,hok.mV,hok.mW,hok.holds,hok.data,hok.BR,h4,h2,fun e he=>(h3 e he).1⟩
  have e0:(nd d j).kind=0:=e
  have h5:=hok.gone e0
  have h6:=h4 (by rw[e0];decide)
  rw[h5,h6];rfl
 ·obtain⟨es,h1,h2,h3,h4⟩:=hnd j
  rw[h1]at hj
  have:=h3 e hj
  refine⟨?_,this.2.2⟩
  unfold has
  rw[rU]
  exact this.2.1
 ·rw[rU]at hj;exact Ce j hj
theorem aG.ah (h:aG d) (hi:(nd d i).kind=2) {es:List aD} (hr:cq es) (hnm:∀e∈es,fJ e.1=true) (NF:∀e∈es,has d e.2∧e.2≠1)
 (Ce:∀j,(nd d j).kind=2->links (dz d i es) j<=1) (hac:∀j,Acc (cY (dz d i es)) j):aG (dz d i es):=by
 have hh:has d i:=by unfold has;rw[hi];decide
 refine h.turned (j4 d i es) (fun j=>?_) Ce hac
 rw[lW hh]
 split
 ·next e=>subst e;exact⟨es,rfl,hr,fun e he=>⟨hnm e he,NF e he⟩,fun h=>absurd hi h⟩
 ·exact⟨(nd d j).ah,rfl,(h.node j).rising,fun e he=>⟨(h.node j).names e he,h.tgt j e he⟩,(h.node j).flat⟩
end
set_option maxRecDepth 100000
set_option maxHeartbeats 1000000
def cP (d:ag) (room kind m:Int) (s:ByteArray):Int :=
 if kind<1 then 43 else if 3<kind then 43 else if kind=2∧s.size≠0 then 43 else if ia m=false then 10 else if 4194304<s.size then 18 else if 65536<=count d then 24 else if room-used d<s.size then 20 else 0
def aU (kind m:Int) (s:ByteArray):Nd:=⟨kind,m,1,s,[]⟩
section
variable{R:RD} {w:World} {a:Nat} {d:ag} {room:Int}
theorem lg {d:ag} (h:aG d) (hs:aP d):(used d:Int)<=9007199254740992:=by
 have h1:=BS h
 unfold aP at hs
 omega
theorem OY {lk up:Int->Int} {iY:Int} {w1 w5:World} {kind m:Int} {s:ByteArray} (hC:dF R w a d room lk up zp) (hcl:bK d) (hfit:(used d:Int)+s.size<=room) (hmax:room<=9223372036854775807) (hb:aH d+2<=2147483648)
 (h1:1<=kind) (h3:kind<=3) (h2:kind≠2∨s=⟨#[]⟩) (hm:ia m=true) (hs:(s.size:Int)<=4194304)
 (bE:aS R w1 a d room iY lk up) (gL:iY=(used d:Int)+s.size) (hk1:aa (fun x=>x=a) w w1) (e8 T:TypeId) {cap:Nat} (hcap:cap=grownCap (w1.setCell ⟨a,1,none⟩ (.int .i64 ((d.length:Int)+1))) s.size 0 e8)
 {w4:World} (CQ:w4=(Lib.bytesWorld (w1.setCell ⟨a,1,none⟩ (.int .i64 ((d.length:Int)+1))) e8 s).alloc (.cells #[.int .i64 kind,.int .i64 m,.int .i64 0,.int .i64 1,.slice (some ⟨w1.heap.size,0,none⟩) s.size cap,.slice none 0 0,.int .i64 0] T))
 {g5:Nat} (sX:gj w5 R.b (R.kv++[((d.length:Int),.pointer (some ⟨g5,0,none⟩))])) (uC:g5=w1.heap.size+1) (bX:aa (fun g=>g=R.b) w4 w5):dn R w a (d++[aU kind m s]) room w5:=by
 subst uC
 have hab:¬a=R.b:=fun e=>by have:=hC.rep.jo;rw[<- e,hC.rep.jn]at this;cases this
 have s7:(w1.setCell ⟨a,1,none⟩ (.int .i64 ((d.length:Int)+1))).heap.size=w1.heap.size:=by simp[World.setCell]
 obtain⟨Ir,aV⟩:=eu.conv (S:=fun _=>True) (w1.setCell ⟨a,1,none⟩ (.int .i64 ((d.length:Int)+1))) e8 s trivial (by unfold maxLen;omega)
 rw[s7,<- hcap]at Ir
 have oz:=Lib.bytesWorld_size (w1.setCell ⟨a,1,none⟩ (.int .i64 ((d.length:Int)+1))) e8 s
 rw[s7]at oz
 generalize oA:w1.setCell ⟨a,1,none⟩ (.int .i64 ((d.length:Int)+1))=w2 at *
 generalize qo:Lib.bytesWorld w2 e8 s=w3 at *
 have k12:aa (fun x=>x=a) w1 w2:=by rw[<- oA];exact cB w1 ⟨a,1,none⟩ _
 have zo:aa af w3 w4:=by rw[CQ];exact(aa.refl _ _).alloc _
 have k14:aa (fun x=>x=a) w1 w4:=(k12.trans aV.bC).trans zo.bC
 have kk:aa (fun x=>x=a∨x=R.b) w w5:=((hk1.trans k14).mono (fun _ _ h=>.inl h)).trans (bX.mono (fun _ _ h=>.inr h))
 have zq:=bE.alt
 have hc:∀(j:Nat),w5.cell? ⟨a,j,none⟩=w2.cell? ⟨a,j,none⟩:=fun j=>by
  have e1:w4.cell? ⟨a,j,none⟩=w2.cell? ⟨a,j,none⟩:=(aV.trans zo).cell (p:=⟨a,j,none⟩) (by rw[s7];exact zq) (fun h=>h)
  rw[<- e1]
  exact bX.cell (p:=⟨a,j,none⟩) (Nat.lt_of_lt_of_le zq k14.size) hab
 have hf:∀(j:Nat),w5.frozen? ⟨a,j,none⟩=w2.frozen? ⟨a,j,none⟩:=fun j=>by
  have e1:w4.frozen? ⟨a,j,none⟩=w2.frozen? ⟨a,j,none⟩:=(aV.trans zo).frozen (p:=⟨a,j,none⟩) (by rw[s7];exact zq) (fun h=>h)
  rw[<- e1]
  exact bX.frozen (p:=⟨a,j,none⟩) (Nat.lt_of_lt_of_le zq k14.size) hab
 have zu:w4.heap.size=w1.heap.size+2:=by rw[CQ];simp;omega
 have s8:R.b<w1.heap.size:=bE.map.lt
 have hnew:=heap_alloc_new w3 (.cells #[.int .i64 kind,.int .i64 m,.int .i64 0,.int .i64 1,.slice (some ⟨w1.heap.size,0,none⟩) s.size cap,.slice none 0 0,.int .i64 0] T)
 rw[<- CQ,oz]at hnew
 have CR:w5.heap[w1.heap.size+1]?=some (.cells #[.int .i64 kind,.int .i64 m,.int .i64 0,.int .i64 1,.slice (some ⟨w1.heap.size,0,none⟩) s.size cap,.slice none 0 0,.int .i64 0] T):=(bX.block _ (by omega) (by omega)).trans hnew
 have hcell:∀j v,(#[Value.int .i64 kind,.int .i64 m,.int .i64 0,.int .i64 1,.slice (some ⟨w1.heap.size,0,none⟩) s.size cap,.slice none 0 0,.int .i64 0]:Array Value)[j]?=some v->w5.cell? ⟨w1.heap.size+1,j,none⟩=some v:=fun j v hv=>by
  rw[cell_of_row w5 _ j _ T (0,0) CR];exact hv
 have zy:eu (fun _=>True) w5 (.slice (some ⟨w1.heap.size,0,none⟩) s.size cap) s:=(Ir.keep zo (fun _ _ h=>h)).keep bX (fun g hg e=>by
  have e':g=R.b:=e
  simp[Value.ownBlock]at hg;omega)
 have hN:kZ w5 (w1.heap.size+1) (.slice (some ⟨w1.heap.size,0,none⟩) s.size cap) (.slice none 0 0) (aU kind m s) 0 0 :=
  ⟨hcell 0 _ rfl,hcell 1 _ rfl,hcell 2 _ rfl,hcell 3 _ rfl,hcell 4 _ rfl,zy,⟨hcell 5 _ rfl,frozen_of_row w5 _ 5 _ T CR,rfl,Own.nil _ _ _ _,List.Pairwise.nil,(fun _ h=>by cases h),(fun h=>by simp[Value.ownBlock]at h)⟩,hcell 6 _ rfl,fun j=>frozen_of_row w5 _ j _ T CR⟩
 have hle:=hk1.size
 have CS:(aU kind m s).kind≠0:=by unfold aU;simp only;omega
 obtain⟨R',hR',hT⟩:=hC.rep.add kk (n:=aU kind m s) CS (us':=iY) (w1.heap.size+1) (.slice (some ⟨w1.heap.size,0,none⟩) s.size cap)
  ((hc 0).trans (by rw[<- oA];exact cZ bE.l)) ((hc 1).trans (by rw[<- oA];exact cZ bE.next)) ((hc 2).trans (by rw[<- oA];exact cZ bE.used)) ((hc 3).trans (by rw[<- oA];exact cZ bE.room))
  (fun j=>(hf j).trans (by rw[<- oA];exact(j6 _ _ _ _).trans (bE.fz j))) sX (by omega) (fun x hx=>by simp[Value.ownBlock]at hx;omega) hN
 have hmo:0<=m∧m<=4095:=by simpa[ia]using hm
 have hok:iV (aU kind m s):=⟨by unfold aU;simp only;omega,by unfold aU;simp only;omega,fun e=>absurd e CS,hmo.1,hmo.2,(by show(0:Int)<=1;decide),by unfold aU;simp only;omega,
  fun e=>h2.elim (fun h=>absurd e h) id,fun _=>rfl,List.Pairwise.nil,(fun _ h=>by cases h)⟩
 have hu:used (d++[aU kind m s])=used d+s.size:=by
  rw[Gt];unfold dU aU;simp[cQ]
 refine⟨R',cK.add hC hcl CS hok rfl (by show(1:Int)≠0;decide) (by rw[hu];rw[gL]at hR';exact_mod_cast hR') ?_ (by rw[hu];omega) hmax,hT⟩
 unfold aP
 rw[Gu]
 unfold bJ aU
 simp only[List.length_nil]
 omega
theorem OZ (h:cK R w a d room) (kind m:Int) (s:ByteArray) (hb:aH d+2<=2147483648) (he:cP d room kind m s=0) :
 Calls Tryz.prog 40 #[.pointer (some ⟨a,0,none⟩),.int .i64 kind,.int .i64 m,.string s] w fun e w'=>e=.returned (.tuple #[.int .i64 d.length,.int .i64 0])∧dn R w a (d++[aU kind m s]) room w':=by
 have H:=Lib.hid h
 obtain⟨⟨lk,up,hC⟩,hcl,hfit,hmax⟩:=h
 unfold cP at he
 split at he;· cases he
 split at he;· cases he
 split at he;· cases he
 split at he;· cases he
 split at he;· cases he
 split at he;· cases he
 split at he;· cases he
 next c1 c2 c3 c4 c5 c6 c7 =>
 have hmode:ia m=true:=by simpa using c4
 have hr:=yZ m w
 rw[hmode]at hr
 have hl:=hC.rep.l
 have hlen:=hC.rep.map.len (P:=Tryz.prog) Tryz.underlying109 3
 rw[hC.rep.len,show goInt ((count d:Nat):Int)=.int .i64 (count d:Nat)from rfl]at hlen
 have bZ:=lg hC.inv hC.small
 have Cu:=fun wx=>Lib.run_convert_string_bytes (P:=Tryz.prog) wx 9 113 5 s Tryz.underlying9 Tryz.underlying113 Tryz.underlying5
 have hml:=jm d
 have htake:=rY hC.rep s.size (by omega) hfit hmax (by omega) (by omega)
 have ht:(decide ((s.size:Int)<=room-used d))=true:=decide_eq_true (by omega)
 have htu:oX room (used d) s.size=used d+s.size:=if_pos (by omega)
 rw[ht,htu]at htake
 have hlt:¬(65536<=(count d:Int)):=by omega
 have hls:¬(4194304<(s.size:Int)):=by omega
 have pU:(65536<=(count d:Int))=False:=by simp;omega
 have hw1:wrap64 ((d.length:Int)+1)=(d.length:Int)+1:=IntWalk.wrap64_in _ (by omega)
 have hno:gJ R.kv d.length=none:=by rw[hC.rep.get,if_neg (qa d)]
 have hab:¬R.b=a:=fun e=>by have:=hC.rep.jo;rw[e,hC.rep.jn]at this;cases this
 have k2:kind≠2∨(kind=2∧s=⟨#[]⟩):=by
  by_cases e:kind=2
  ·refine .inr ⟨e,ByteArray.ext (Array.eq_empty_of_size_eq_zero ?_)⟩
   by_cases e0:s.size=0
   ·exact e0
   ·exact absurd ⟨e,e0⟩ c3
  ·exact .inl e
 have O0:s.size<=maxLen:=by unfold maxLen;omega
 have HE:=Lib.hid (fun w1 w4 w5 cap=>OY (w1:=w1) (w4:=w4) (w5:=w5) (cap:=cap) (kind:=kind) (m:=m) (s:=s) hC hcl (by omega) hmax hb (by omega) (by omega) (k2.imp id And.right) hmode (by omega) (iY:=(used d:Int)+s.size))
 clear hC hcl bZ ht htu hb hmode c7 c6 c5 c4 hfit hmax hml c3
 generalize(count d:Int)=cd at *
 generalize(used d:Int)=u at *
 rcases k2 with k2|⟨rfl,rfl⟩
 all_goals
  go_enter Tryz.func40,Tryz.ntmps40
  go_wp2_with(first|(go_at_call 68;refine hr.mono ?_;rintro e w1 ⟨rfl,rfl⟩)|(go_at_call 69;refine htake.mono ?_;rintro e w1 ⟨rfl,bE,hk1⟩;have hl1:=bE.l;have hn1:=bE.next;have dK:=bE.fz 1)|(at_mapUpdate;refine G5 rfl (.tmp 61) (.tmp 62) (.tmp 68) _ rfl Tryz.underlying109 Tryz.underlying3 rfl (((bE.map.keep (cB w1 ⟨a,1,none⟩ _) hab).keep (eu.conv (S:=fun _=>True) _ _ _ trivial O0).2 (fun h=>h)).keep ((aa.refl af _).alloc _) (fun h=>h)) rfl rfl hno ?_;intro w5 sX bX))
 all_goals
  go_ret2
  exact⟨rfl,HE.out _ _ _ _ bE trivial hk1 _ _ rfl rfl sX (by rw[Lib.bytesWorld_size];simp[World.setCell]) bX⟩
theorem dF.re {R':RD} {w':World} {lk up:Int->Int} {bR:Int->Nat} (h:dF R w a d room lk up bR) (rep:aS R' w' a d room (used d) lk up):dF R' w' a d room lk up bR :=
 ⟨rep,h.inv,h.cnt,h.qQ,h.mT,h.small,h.oq⟩
theorem O1 (h:cK R w a d room) (kind m:Int) (s:ByteArray) (hsz:s.size<=4294967296) (he:cP d room kind m s≠0) :
 Calls Tryz.prog 40 #[.pointer (some ⟨a,0,none⟩),.int .i64 kind,.int .i64 m,.string s] w fun e w'=>e=.returned (.tuple #[.int .i64 0,.int .i64 (cP d room kind m s)])∧dn R w a d room w':=by
 have H:=Lib.hid h
 obtain⟨⟨lk,up,hC⟩,hcl,hfit,hmax⟩:=h
 have bZ:=lg hC.inv hC.small
 have htake:=rY hC.rep s.size (by omega) hfit hmax (by omega) (by omega)
 have hfa:=hC.rep.fA
 have hl:=hC.rep.l
 have hlen:=hC.rep.map.len (P:=Tryz.prog) Tryz.underlying109 3
 rw[hC.rep.len,show goInt ((count d:Nat):Int)=.int .i64 (count d:Nat)from rfl]at hlen
 have hr:=yZ m w
 have HE:=Lib.hid (fun(w1:World) (hR:aS R w1 a d room (used d) lk up) (hk:aa (fun x=>x=a) w w1)=>(⟨R,⟨⟨lk,up,hC.re hR⟩,hcl,hfit,hmax⟩,cW.of (hk.mono (fun x _ hx=>by subst hx;exact hfa))⟩:dn R w a d room w1))
 unfold cP at he ⊢
 clear hC hcl bZ hmax hfit
 by_cases c1:kind<1
 ·rw[if_pos c1]
  clear he
  go_enter Tryz.func40,Tryz.ntmps40
  go_wp2
  go_ret2
  exact⟨rfl,H.out.same (aa.refl _ _)⟩
 rw[if_neg c1]at he ⊢
 by_cases c2:3<kind
 ·rw[if_pos c2]
  clear he
  go_enter Tryz.func40,Tryz.ntmps40
  go_wp2
  go_ret2
  exact⟨rfl,H.out.same (aa.refl _ _)⟩
 rw[if_neg c2]at he ⊢
 by_cases c3:kind=2∧s.size≠0
 ·rw[if_pos c3]
  obtain⟨rfl,c3⟩:=c3
  have hne:(s.toList==[])=false:=beq_false_of_ne (fun e=>c3 ((toList_nil s).1 e))
  clear he c3
  go_enter Tryz.func40,Tryz.ntmps40
  go_wp2
  go_ret2
  exact⟨rfl,H.out.same (aa.refl _ _)⟩
 rw[if_neg c3]at he ⊢
 have k2:kind≠2∨(kind=2∧s=⟨#[]⟩):=by
  by_cases e:kind=2
  ·refine .inr ⟨e,ByteArray.ext (Array.eq_empty_of_size_eq_zero ?_)⟩
   by_cases e0:s.size=0
   ·exact e0
   ·exact absurd ⟨e,e0⟩ c3
  ·exact .inl e
 clear c3
 by_cases c4:ia m=false
 ·rw[if_pos c4]
  rw[c4]at hr
  clear he c4
  rcases k2 with k2|⟨rfl,rfl⟩
  all_goals
   go_enter Tryz.func40,Tryz.ntmps40
   go_wp2_with(go_at_call 68;refine hr.mono ?_;rintro e w1 ⟨rfl,rfl⟩)
   go_ret2
   exact⟨rfl,H.out.same (aa.refl _ _)⟩
 rw[if_neg c4]at he ⊢
 rw[show ia m=true by simpa using c4]at hr
 clear c4
 by_cases c5:4194304<s.size
 ·rw[if_pos c5]
  have zz:¬((s.size:Int)<=4194304):=by omega
  rcases k2 with k2|⟨rfl,rfl⟩
  ·clear he c5
   go_enter Tryz.func40,Tryz.ntmps40
   go_wp2_with(go_at_call 68;refine hr.mono ?_;rintro e w1 ⟨rfl,rfl⟩)
   go_ret2
   exact⟨rfl,H.out.same (aa.refl _ _)⟩
  ·exact absurd c5 (by decide)
 rw[if_neg c5]at he ⊢
 have zz:(s.size:Int)<=4194304:=by omega
 clear c5
 by_cases c6:65536<=count d
 ·rw[if_pos c6]
  have zB:65536<=(count d:Int):=by omega
  clear he c6
  generalize(count d:Int)=cd at *
  rcases k2 with k2|⟨rfl,rfl⟩
  all_goals
   go_enter Tryz.func40,Tryz.ntmps40
   go_wp2_with(go_at_call 68;refine hr.mono ?_;rintro e w1 ⟨rfl,rfl⟩)
   go_ret2
   exact⟨rfl,H.out.same (aa.refl _ _)⟩
 rw[if_neg c6]at he ⊢
 have zB:¬(65536<=(count d:Int)):=by omega
 have Iu:(65536<=(count d:Int))=False:=by simp;omega
 clear c6
 by_cases c7:room-used d<s.size
 ·rw[if_pos c7]
  rw[show(decide ((s.size:Int)<=room-used d))=false from decide_eq_false (by omega),show oX room (used d) s.size=used d from if_neg (by omega)]at htake
  clear he c7
  generalize(count d:Int)=cd at *
  generalize(used d:Int)=u at *
  rcases k2 with k2|⟨rfl,rfl⟩
  all_goals
   go_enter Tryz.func40,Tryz.ntmps40
   go_wp2_with(first|(go_at_call 68;refine hr.mono ?_;rintro e w1 ⟨rfl,rfl⟩)|(go_at_call 69;refine htake.mono ?_;rintro e w1 ⟨rfl,bE,hk1⟩))
   go_ret2
   exact⟨rfl,HE.out _ bE hk1⟩
 ·rw[if_neg c7]at he
  exact absurd rfl he
def iq (d:ag) (room kind m:Int) (s:ByteArray):ag:=if cP d room kind m s=0 then d++[aU kind m s]else d
def lu (d:ag) (room kind m:Int) (s:ByteArray):Int:=if cP d room kind m s=0 then d.length else 0
theorem CT (h:cK R w a d room) (kind m:Int) (s:ByteArray) (hb:aH d+2<=2147483648) (hsz:s.size<=4294967296) :
 Calls Tryz.prog 40 #[.pointer (some ⟨a,0,none⟩),.int .i64 kind,.int .i64 m,.string s] w fun e w'=>e=.returned (.tuple #[.int .i64 (lu d room kind m s),.int .i64 (cP d room kind m s)])∧dn R w a (iq d room kind m s) room w':=by
 unfold lu iq
 by_cases he:cP d room kind m s=0
 ·rw[if_pos he,if_pos he,he];exact OZ h kind m s hb he
 ·rw[if_neg he,if_neg he];exact O1 h kind m s hsz he
end
section
variable{d:ag}
theorem mG (h:aG d) {i:Int} (hi:(nd d i).kind=2):has d i:=by unfold has;rw[hi];decide
theorem aG.Cf (h:aG d) {i j j':Int} {e e':aD} (hi:(nd d i).kind=2) (hj:e∈(nd d j).ah) (he:e.2=i) (hj':e'∈(nd d j').ah) (he':e'.2=i):j=j'∧e=e':=by
 have hc:cnt d i<=1:=by
  have:=h.single i hi
  unfold links at this
  omega
 have hh:has d j:=by
  intro h0
  have:=(h.node j).flat (by rw[h0];decide)
  rw[this]at hj;cases hj
 have qf:=Gm hh i
 have hpos:0<eY i (nd d j):=vQ.2 ⟨e,hj,he⟩
 have NG:j=j':=by
  refine Classical.byContradiction fun hne=>?_
  have:0<cnt (Go.Proofs.YtnanhmfpikddkaaGreatDoor.kill d j) i:=mD.2 ⟨j',e',by rw[kT hh,if_neg (fun e=>hne e.symm)];exact hj',he'⟩
  omega
 subst NG
 refine⟨rfl,?_⟩
 have hr:=(h.node j).rising
 have hg:bk (nd d j).ah e.1=some i:=(Cg hr).2 (by rw[<- he];exact hj)
 have hd:=yJ hr hg i
 rw[if_pos rfl]at hd
 have hnn:eY i (nd d j)=gi i (nd d j).ah:=rfl
 refine Classical.byContradiction fun hne=>?_
 have hm:e'∈bQ (nd d j).ah e.1:=qU.2 ⟨hj',fun en=>hne (GF hr hj hj' en.symm)⟩
 have:=Gw.2 ⟨e',hm,he'⟩
 omega
theorem aG.uq (h:aG d) {i j j':Int} (hj:cY d j i) (hj':cY d j' i):j=j':=by
 obtain⟨h1,e,h2,h3⟩:=hj
 obtain⟨_,e',h2',h3'⟩:=hj'
 exact(h.Cf h1 h2 h3 h2' h3').1
def bN (d:ag) (i:Int) (name:ByteArray) (k:Int):ag:=dz d i (bY (nd d i).ah name k)
def aZ (d:ag) (i:Int) (name:ByteArray):ag:=dz d i (bQ (nd d i).ah name)
section enter
variable{i k:Int} {name:ByteArray}
theorem Ch (hi:has d i) (hp:bw (nd d i).ah name=0) (j:Int):links (bN d i name k) j=links d j+if k=j then 1 else 0:=by
 have:=yK hi (bY (nd d i).ah name k) j
 have:=Gx (k:=k) (mA.1 hp).2 j
 unfold bN
 omega
theorem NJ (hi:has d i) (hp:bw (nd d i).ah name=0):used (bN d i name k)=used d+name.size:=by
 have:=yL hi (bY (nd d i).ah name k)
 have:=Gz (k:=k) (mA.1 hp).2
 unfold bN
 omega
theorem Bp (hi:has d i) (hp:bw (nd d i).ah name=0):aH (bN d i name k)=aH d+1:=by
 have:=yM hi (bY (nd d i).ah name k)
 have:=vS (k:=k) (mA.1 hp).2
 unfold bN
 omega
theorem yO (hi:has d i) (hp:bw (nd d i).ah name=0) (hkl:(nd d k).kind=2->links d k=0) {j x:Int} (h:cY (bN d i name k) j x):(x≠k∧cY d j x)∨(x=k∧j=i):=by
 obtain⟨h1,e,h2,h3⟩:=h
 unfold bN at h1 h2
 rw[sW hi]at h1
 rw[mF hi]at h2
 have hold:e∈(nd d j).ah->(x≠k∧cY d j x)∨(x=k∧j=i):=fun he=>by
  have hP:cY d j x:=⟨h1,e,he,h3⟩
  refine .inl ⟨fun hx=>?_,hP⟩
  subst hx
  have:=hP.links
  have:=hkl h1
  omega
 split at h2
 ·next hj =>
  subst hj
  rcases(oU (mA.1 hp).2 e).1 h2 with h4|h4
  ·exact hold h4
  ·subst h4;exact .inr ⟨h3.symm,rfl⟩
 ·exact hold h2
theorem GG (h:aG d) (hkl:(nd d k).kind=2->links d k=0):k≠1:=fun e=>by
 subst e
 have:=hkl h.root
 unfold links at this
 rw[if_pos rfl]at this
 omega
theorem Ci {P P':Int->Int->Prop} (hP:∀j i,P' j i->P j i) (hacc:∀i,Acc P i):∀i,Acc P' i:=fun i=>by
 have:=hacc i
 induction this with
 | intro i _ ih=>exact⟨i,fun j hj=>ih j (hP j i hj)⟩
theorem GH (h:aG d) (hi:(nd d i).kind=2) (hk:has d k) (hkl:(nd d k).kind=2->links d k=0) (hp:bw (nd d i).ah name=0) (hno:(nd d k).kind=2->¬cU d k i):aG (bN d i name k):=by
 have hh:=mG h hi
 obtain⟨hok,aT⟩:=mA.1 hp
 refine h.ah hi ((h.node i).rising.put name k) (fun e he=>?_) (fun e he=>?_) (fun j hj=>?_) ?_
 ·rcases(oU aT e).1 he with h1|h1
  ·exact(h.node i).names e h1
  ·subst h1;exact hok
 ·rcases(oU aT e).1 he with h1|h1
  ·exact h.tgt i e h1
  ·subst h1;exact⟨hk,GG h hkl⟩
 ·have:=Ch (k:=k) hh hp j
  have hs:=h.single j hj
  unfold bN at this
  split at this
  ·next e=>subst e;have:=hkl hj;omega
  ·omega
 ·by_cases h2:(nd d k).kind=2
  ·exact Gv (fun j x hx=>yO hh hp hkl hx) h.oT (hno h2)
  ·refine Ci (fun j x hx=>?_) h.oT
   have hx':=yO hh hp hkl hx
   rcases hx' with h3|⟨h3,_⟩
   ·exact h3.2
   ·subst h3
    have:=hx.1
    rw[sW hh]at this
    exact absurd this h2
theorem cK.enter {R R':RD} {w w':World} {a:Nat} {room:Int} {lk up:Int->Int} (hC:dF R w a d room lk up zp) (hcl:bK d) (hi:(nd d i).kind=2) (hk:has d k) (hkl:(nd d k).kind=2->links d k=0)
 (hp:bw (nd d i).ah name=0) (hno:(nd d k).kind=2->¬cU d k i)
 (rep:aS R' w' a (bN d i name k) room (used (bN d i name k)) (setAt lk k (lk k+1)) (if (nd d k).kind=2 then setAt up k i else up))
 (hs:aP (bN d i name k)) (hf:(used (bN d i name k):Int)<=room) (hm:room<=9223372036854775807):cK R' w' a (bN d i name k) room:=by
 have hh:=mG hC.inv hi
 have aT:∀j,has (bN d i name k) j↔has d j:=qc hh _
 have hl:=fun j=>Ch (k:=k) hh hp j
 have qf:=hC.cnt k hk
 refine⟨⟨_,_,rep,GH hC.inv hi hk hkl hp hno,fun j hj=>?_,fun j hj=>absurd hj (by unfold zp;omega),fun j hj=>?_,hs,fun j hj=>?_⟩,fun j hj=>?_,hf,hm⟩
 ·have h1:=hC.cnt j ((aT j).1 hj)
  rw[hl j]
  by_cases e:j=k
  ·subst e;rw[mE,if_pos rfl];omega
  ·rw[mU e,if_neg (fun h=>e h.symm)];omega
 ·have hj':=(aT j).1 hj
  obtain⟨u1,u2,u3⟩:=hC.mT j hj'
  by_cases e:j=k
  ·subst e
   rw[mE]
   refine⟨fun x hx=>?_,fun e1=>absurd e1 (GG hC.inv hkl),fun e0=>?_⟩
   ·have hk2:=hx.1
    unfold bN at hk2
    rw[sW hh]at hk2
    rw[if_pos hk2,mE]
    rcases yO hh hp hkl hx with⟨h1,_⟩|⟨_,h2⟩
    ·exact absurd rfl h1
    ·exact h2.symm
   ·omega
  ·rw[mU e]
   have:(if (nd d k).kind=2 then setAt up k i else up) j=up j:=by
    split
    ·exact mU e
    ·rfl
   rw[this]
   refine⟨fun x hx=>?_,u2,u3⟩
   rcases yO hh hp hkl hx with⟨_,h1⟩|⟨h1,_⟩
   ·exact u1 x h1
   ·exact absurd h1 e
 ·have h1:=hC.oq j ((aT j).1 hj)
  have h2:=Nz d k
  have h3:=hC.small
  unfold aP at h3
  unfold setAt
  split
  ·unfold zp at qf;omega
  ·exact h1
 ·obtain⟨g1,g2,g3⟩:=hj
  rw[hl j]at g2
  rw[show(nd (bN d i name k) j).holds=(nd d j).holds from vT hh _ j]at g3
  exact hcl j ⟨(aT j).1 g1,by omega,g3⟩
end enter
section leave
variable{i k:Int} {name:ByteArray}
theorem Cj (h:aG d) (hi:has d i) (hg:bk (nd d i).ah name=some k) (j:Int):links d j=links (aZ d i name) j+if k=j then 1 else 0:=by
 have:=yK hi (bQ (nd d i).ah name) j
 have:=yJ (h.node i).rising hg j
 unfold aZ
 omega
theorem GI (h:aG d) (hi:has d i) (hg:bk (nd d i).ah name=some k):used d=used (aZ d i name)+name.size:=by
 have:=yL hi (bQ (nd d i).ah name)
 have:=Cc (h.node i).rising hg
 unfold aZ
 omega
theorem ur (h:aG d) (hi:has d i) (hg:bk (nd d i).ah name=some k):aH d=aH (aZ d i name)+1:=by
 have:=yM hi (bQ (nd d i).ah name)
 have:=GA (h.node i).rising hg
 unfold aZ
 omega
theorem GJ (hi:has d i) {j x:Int} (h:cY (aZ d i name) j x):cY d j x:=by
 obtain⟨h1,e,h2,h3⟩:=h
 unfold aZ at h1 h2
 rw[sW hi]at h1
 rw[mF hi]at h2
 split at h2
 ·next hj=>subst hj;exact⟨h1,e,(qU.1 h2).1,h3⟩
 ·exact⟨h1,e,h2,h3⟩
theorem yP (h:aG d) (hi:(nd d i).kind=2) (hg:bk (nd d i).ah name=some k):aG (aZ d i name):=by
 have hh:=mG h hi
 refine h.ah hi ((h.node i).rising.del name) (fun e he=>(h.node i).names e (qU.1 he).1) (fun e he=>h.tgt i e (qU.1 he).1) (fun j hj=>?_) (Ci (fun j x hx=>GJ hh hx) h.oT)
 have:=Cj h hh hg j
 have:=h.single j hj
 unfold aZ at *
 omega
def lX (k:Int):Int->Nat:=fun j=>if j=k then 1 else 0
theorem GK (k:Int):0<lX k k:=by unfold lX;rw[if_pos rfl];decide
theorem GL (k:Int):pW (lX k) k=zp:=by
 funext j
 unfold pW lX zp
 split<;>simp_all
theorem dF.drop {R R':RD} {w w':World} {a:Nat} {room:Int} {lk up:Int->Int} (hC:dF R w a d room lk up zp) (hcl:bK d) (hi:(nd d i).kind=2) (hg:bk (nd d i).ah name=some k)
 (rep:aS R' w' a (aZ d i name) room (used (aZ d i name)) lk up):dF R' w' a (aZ d i name) room lk up (lX k)∧∀j,¬PG (aZ d i name) (lX k) j:=by
 have hh:=mG hC.inv hi
 have aT:∀j,has (aZ d i name) j↔has d j:=qc hh _
 have hl:=fun j=>Cj (k:=k) hC.inv hh hg j
 have hm:=ur hC.inv hh hg
 refine⟨⟨rep,yP hC.inv hi hg,fun j hj=>?_,fun j hj=>?_,fun j hj=>?_,?_,fun j hj=>hC.oq j ((aT j).1 hj)⟩,fun j hj=>?_⟩
 ·have h1:=hC.cnt j ((aT j).1 hj)
  have h2:=hl j
  unfold zp at h1
  unfold lX
  by_cases e:k=j
  ·subst e;rw[if_pos rfl]at h2 ⊢;omega
  ·rw[if_neg e]at h2;rw[if_neg (fun h=>e h.symm)];omega
 ·unfold lX at hj
  split at hj
  ·next e=>subst e;exact(aT j).2 (hC.inv.tgt i _ (dV hg)).1
  ·omega
 ·obtain⟨u1,u2,u3⟩:=hC.mT j ((aT j).1 hj)
  exact⟨fun x hx=>u1 x (GJ hh hx),u2,u3⟩
 ·have:=hC.small
  unfold aP at *
  omega
 ·obtain⟨g1,g2,g3,g4⟩:=hj
  have h2:=hl j
  rw[show(nd (aZ d i name) j).holds=(nd d j).holds from vT hh _ j]at g4
  unfold lX at g3
  refine hcl j ⟨(aT j).1 g1,?_,g4⟩
  rw[h2,g2]
  split
  ·next e=>subst e;rw[if_pos rfl]at g3;cases g3
  ·rfl
end leave
end
end Go.Proofs.YtnanhmfpikddkaaGreatDoor
