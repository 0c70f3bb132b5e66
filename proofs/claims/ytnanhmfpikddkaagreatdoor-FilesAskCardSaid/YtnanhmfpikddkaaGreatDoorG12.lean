/-
  Contracts of the reference for layer 5: way.
-/
import Derived.Test.YtnanhmfpikddkaaGreatDoorG11
import Derived.Test.YtnanhmfpikddkaaGreatDoorG09

set_option linter.unusedSimpArgs false
set_option linter.unusedVariables false
set_option maxRecDepth 100000
set_option maxHeartbeats 40000000
namespace Go.Proofs.YtnanhmfpikddkaaGreatDoor
open Go Go.RowKit
theorem Ve (s:ByteArray) (h:1<=s.size):fj s=decide (s[0]=47):=by
 unfold fj
 rw[List.getElem?_eq_getElem (by rw[mN];omega),Bool.eq_iff_iff,decide_eq_true_eq,decide_eq_true_eq]
 exact⟨fun h=>Option.some.inj h,fun e=>congrArg some e⟩
theorem Vf {d:ag} {up:Int->Int} (hI:aG d) (cA:∀i u,aO d i=0->kY d i u->up i=u) (i:Int) (hf:aO d i=0):has d (up i):=by
 by_cases hc:cnt d i=0
 ·rw[cA i 1 hf (.inl ⟨hc,rfl⟩)]
  unfold has;rw[hI.root];decide
 ·obtain⟨j,e,he,q8⟩:=mD.1 (Nat.pos_of_ne_zero hc)
  rw[cA i j hf (.inr ⟨e,he,q8⟩)]
  intro h0
  rw[(hI.node j).gone h0]at he
  cases he
theorem Fk {d:ag} {i:Int} (h:bI d i=0):aO d i=0:=by
 unfold bI at h
 exact Classical.byContradiction fun hf=>by rw[if_pos hf]at h;exact hf h
theorem Vg {d:ag} {up:Int->Int} (hI:aG d) {at':Int} {x:ByteArray} {fl:Bool} {n:Nat} (hn:n<=40) (hx:¬x=⟨#[]⟩) (hin:bI d at'=0) (P:aJ × Int) (hP:pQ d up at' x=P) :
 ck d up at' x fl n=if P.2≠0 then⟨.no,⟨#[]⟩,P.2,n⟩else if P.1.name≠⟨#[]⟩∧P.1.node≠0∧fl=true∧(nd d P.1.node).kind=3 then(if n=40 then⟨.no,⟨#[]⟩,17,n+1⟩else⟨P.1,(nd d P.1.node).data,0,n+1⟩)else⟨P.1,⟨#[]⟩,0,n⟩:=by
 subst hP
 unfold ck pQ
 rw[if_neg (by rw[hin];simp)]
 by_cases h1:x=lH
 ·rw[if_pos h1,if_pos h1]
  simp[aJ.on]
 rw[if_neg h1,if_neg h1]
 by_cases h2:x=lI
 ·rw[if_pos h2,if_pos h2]
  simp[aJ.on]
 rw[if_neg h2,if_neg h2]
 by_cases h3:255<x.size
 ·rw[if_pos h3,if_pos h3]
  simp
 rw[if_neg h3,if_neg h3]
 have hf:=Fk hin
 have hlo:bH d at' x≠0↔aN d at' x=0:=by
  unfold bH aN
  have hnf:¬aO d at'≠0:=by simp[hf]
  rw[if_neg hnf,if_neg hnf]
  cases hg:bk (nd d at').ah x with
  | none=>simp
  | some k =>
    have hk:=(hI.tgt _ _ (dV hg)).1
    have:k≠0:=fun e=>by
     have h4:(x,k).2=k:=rfl
     rw[h4,e]at hk
     unfold has at hk
     rw[hI.zero]at hk
     exact hk rfl
    simp[this]
 by_cases h4:aN d at' x=0
 ·rw[if_pos (.inl (hlo.2 h4))]
  simp[h4]
 have h5:bH d at' x=0:=Classical.not_not.1 (fun h=>h4 (hlo.1 h))
 cases fl with
 | false=>simp
 | true =>
   rw[if_neg (by simp[h5])]
   by_cases h6:(nd d (aN d at' x)).kind=3
   ·have hd:ij d (aN d at' x)=(nd d (aN d at' x)).data:=by
     unfold ij
     rw[if_neg (by rw[h6];decide),if_neg (by rw[h6];decide)]
    rw[if_neg (by simp[h6]),hd]
    by_cases h7:n=40
    ·rw[if_pos (by omega)]
     simp[hx,h4,h6,h7]
    ·rw[if_neg (by omega)]
     simp[hx,h4,h6,h7]
   ·rw[if_pos h6]
    simp[h6]
theorem Vh {d:ag} {up:Int->Int} (hI:aG d) (cA:∀i u,aO d i=0->kY d i u->up i=u) {at':Int} (hin:bI d at'=0) (x:ByteArray) (h2:(pQ d up at' x).2=0) (h:(pQ d up at' x).1.node≠0):has d (pQ d up at' x).1.node:=by
 have hf:=Fk hin
 unfold pQ at *
 split
 ·exact(fD hf).1
 split
 ·exact Vf hI cA _ hf
 ·next h1 h3 =>
  rw[if_neg h1,if_neg h3]at h2 h
  split at h2
  ·cases h2
  ·next h4 =>
   rw[if_neg h4]at h ⊢
   simp only at h ⊢
   unfold aN at h ⊢
   rw[if_neg (by rw[hf];simp)]at h ⊢
   cases hg:bk (nd d at').ah x with
   | none=>rw[hg]at h;exact absurd rfl h
   | some k=>exact(hI.tgt _ _ (dV hg)).1
section
variable{S:Nat->Prop} {w:World} {p:Option Addr} {c:Nat} {d:ag} {room:Int}
structure sL (w w':World) (bp:Nat) (p:Option Addr) (n c:Nat) (room:Int) (q:aJ):Prop where
 keeps:aa af w w'
 lt:w.heap.size<w'.heap.size
 d0:w'.cell? ⟨w.heap.size,0,none⟩=some (.slice p n c)
 d1:w'.cell? ⟨w.heap.size,1,none⟩=some (.int .i64 room)
 box:C3 w' (w.heap.size+1) (.int .i64 0) (.int .i64 0) (.string ⟨#[]⟩)
 bA:C3 w' bp (.int .i64 q.node) (.int .i64 q.dir) (.string q.name)
theorem sL.on {w' w2:World} {bp n:Nat} {q:aJ} (h:sL w w' bp p n c room q) (k:aa af w' w2):sL w w2 bp p n c room q :=
 ⟨h.keeps.trans k,Nat.lt_of_lt_of_le h.lt k.size,(k.cell (p:=⟨w.heap.size,0,none⟩) h.lt (fun h=>h)).trans h.d0,(k.cell (p:=⟨w.heap.size,1,none⟩) h.lt (fun h=>h)).trans h.d1,h.box.on k,h.bA.on k⟩
theorem sL.put {w':World} {bp n:Nat} {q:aJ} (h:sL w w' bp p n c room q) (hb:w.heap.size+1<bp) (q2:aJ) :
 sL w (((w'.setCell ⟨bp,0,none⟩ (.int .i64 q2.node)).setCell ⟨bp,1,none⟩ (.int .i64 q2.dir)).setCell ⟨bp,2,none⟩ (.string q2.name)) bp p n c room q2 :=
 have k:=tY w' bp (.int .i64 q2.node) (.int .i64 q2.dir) (.string q2.name)
 ⟨h.keeps.step k (fun g hg=>.inr (by omega)),Nat.lt_of_lt_of_le h.lt k.size,(k.cell (p:=⟨w.heap.size,0,none⟩) h.lt (by show ¬w.heap.size=bp;omega)).trans h.d0,
  (k.cell (p:=⟨w.heap.size,1,none⟩) h.lt (by show ¬w.heap.size=bp;omega)).trans h.d1,h.box.keep k (by omega),h.bA.set _ _ _⟩
structure Vi (d:ag) (up:Int->Int) (sl follow:Bool) (O:Out) (l:List ByteArray) (w wr:World) (bp:Nat) (p p1:Option Addr) (c c1:Nat) (room:Int) (k n0 n:Nat) (q:aJ):Prop where
 le:k<=l.length
 xN:n<=40
 n0:n0<=n
 cs:sL w wr bp p d.length c room q
 row:bt jX (fun g=>g≠bp) wr p1 c1 l
 there:k≠0->q.node≠0->has d q.node
 eq:(k≠0∧q.node=0∧k<l.length∧O=.err 12)∨((k≠0->q.node=0->k=l.length)∧scan d up sl follow (l.drop k) q.node n q=O)
theorem Vj (k:Nat) (l:List ByteArray) (sl follow fl:Bool) (hk:k<l.length) (h:fl=(!(l.drop (k+1)).isEmpty||sl||follow)) :
 ((k:Int)<(l.length:Int)-1∧fl=true)∨(¬(k:Int)<(l.length:Int)-1∧sl=true∧fl=true)∨(¬(k:Int)<(l.length:Int)-1∧sl=false∧fl=follow):=by
 rcases L0 k l sl follow fl hk h with⟨h1,h2,h3⟩|⟨h1,h2,h3,h4⟩|⟨h1,h2,h3,h4⟩
 ·refine .inl ⟨?_,h3⟩
  simp at h2
  omega
 ·refine .inr (.inl ⟨?_,h3,h4⟩)
  simp at h2
  omega
 ·refine .inr (.inr ⟨?_,h3,h4⟩)
  simp at h2
  omega
theorem xO {d:ag} {up:Int->Int} {sl follow:Bool} {O:Out} {l:List ByteArray} {k n:Nat} {q:aJ} (hlt:k<l.length) (h:(if q.node=0∧l.drop (k+1)≠[]then Out.err 12 else scan d up sl follow (l.drop (k+1)) q.node n q)=O) :
 (k+1≠0∧q.node=0∧k+1<l.length∧O=.err 12)∨((k+1≠0->q.node=0->k+1=l.length)∧scan d up sl follow (l.drop (k+1)) q.node n q=O):=by
 by_cases hz:q.node=0∧l.drop (k+1)≠[]
 ·rw[if_pos hz]at h
  refine .inl ⟨by omega,hz.1,?_,h.symm⟩
  have:=hz.2
  simp at this
  omega
 ·rw[if_neg hz]at h
  refine .inr ⟨fun _ h0=>?_,h⟩
  refine Classical.byContradiction fun hne=>hz ⟨h0,?_⟩
  simp
  omega
theorem Vk {w9:World} {b g j:Nat} {x:Value} (h:w9.cell? ⟨g,j,none⟩=some x) (hne:¬g=b) (u0 u1 u2:Value):(((w9.setCell ⟨b,0,none⟩ u0).setCell ⟨b,1,none⟩ u1).setCell ⟨b,2,none⟩ u2).cell? ⟨g,j,none⟩=some x :=
 ((tY w9 b u0 u1 u2).cell (p:=⟨g,j,none⟩) (dm h) hne).trans h
theorem L3 {w w9:World} (h:aa af w w9) (a b c:Value):aa af w (((w9.setCell ⟨w.heap.size+1,0,none⟩ a).setCell ⟨w.heap.size+1,1,none⟩ b).setCell ⟨w.heap.size+1,2,none⟩ c) :=
 h.step (tY w9 (w.heap.size+1) a b c) (fun g hg=>.inr (by omega))
def lR (d:ag) (up:Int->Int) (follow:Bool):Nat->Int->ByteArray->Nat->aJ × Int
 | 0,_,_,_=>(.no,17)
 | fuel+1,from',s,n =>
   if cO s≠0 then(.no,cO s)
   else if iG s=[]then(if bI d (if fj s then 1 else from')≠0 then(.no,bI d (if fj s then 1 else from'))else(.on (if fj s then 1 else from'),0))
   else match scan d up (cg s) follow (iG s) (if fj s then 1 else from') n (.on from')with
    | .fin p=>jC d p (cg s)
    | .err e=>(.no,e)
    | .again at' s' n'=>lR d up follow fuel at' s' n'
theorem L5 (d:ag) (up:Int->Int) (follow:Bool) (fuel:Nat) (from':Int) (s:ByteArray) (n:Nat):lR d up follow (fuel+1) from' s n =
 if cO s≠0 then(.no,cO s)
 else if iG s=[]then(if bI d (if fj s then 1 else from')≠0 then(.no,bI d (if fj s then 1 else from'))else(.on (if fj s then 1 else from'),0))
 else match scan d up (cg s) follow (iG s) (if fj s then 1 else from') n (.on from')with
  | .fin p=>jC d p (cg s)
  | .err e=>(.no,e)
  | .again at' s' n'=>lR d up follow fuel at' s' n':=rfl
def qF (F:aJ × Int):aJ × Int:=if F.2=0 then F else(.no,F.2)
theorem Fl (d:ag) (up:Int->Int) (follow:Bool):∀(fuel:Nat) (from':Int) (s:ByteArray) (n:Nat),lR d up follow fuel from' s n=qF (eD d up follow fuel from' s n)
 | 0,_,_,_=>rfl
 | fuel+1,from',s,n=>by
   rw[L5,L6]
   by_cases h1:cO s≠0
   ·rw[if_pos h1,if_pos h1];unfold qF;rw[if_neg h1]
   rw[if_neg h1,if_neg h1]
   by_cases h2:iG s=[]
   ·rw[if_pos h2,if_pos h2]
    unfold qF
    by_cases h3:bI d (if fj s then 1 else from')=0
    ·rw[if_neg (fun h=>h h3),if_pos h3,h3]
    ·rw[if_pos h3,if_neg h3]
   rw[if_neg h2,if_neg h2]
   cases scan d up (cg s) follow (iG s) (if fj s then 1 else from') n (.on from')with
   | fin q =>
     show jC d q (cg s)=qF (jC d q (cg s))
     unfold jC qF
     split
     ·rfl
     ·split
      ·rfl
      ·rfl
   | err e =>
     show(aJ.no,e)=qF (aJ.no,e)
     unfold qF
     split<;>rfl
   | again a2 s2 n2=>exact Fl d up follow fuel a2 s2 n2
def xM (d:ag) (up:Int->Int) (room:Int) (follow:Bool) (fuel:Nat):Prop:=∀(S:Nat->Prop) (w:World) (p:Option Addr) (c:Nat),aI S w p c d->∀(from':Int) (s:ByteArray) (n:Nat),s.size<=4294967280->n<=40->41<=n+fuel ->
 Calls Tryz.prog 104 #[aE p c d room,.int .i64 from',.string s,.bool follow,.int .i64 n] w fun e w' =>
  e=.returned (.tuple #[aF (lR d up follow fuel from' s n).1,.int .i64 (lR d up follow fuel from' s n).2])∧aa af w w'
end
theorem L7 {P:Prop} (h:P:=by
 intro S w p c h from' s n hsz rI oZ habs
 have qH:=Lib.hid cA
 have IH:=Lib.hid ih
 clear cA ih
 obtain⟨F,hF⟩:∃F,lR d up follow (fuel+1) from' s n=F:=⟨_,rfl⟩
 rw[hF]
 rw[L5]at hF
 have hcap:=h.cap
 have hmax:=h.max
 unfold maxLen at hmax
 have e1:(w.alloc (.cells #[.slice p d.length c,.int .i64 room] 37)).heap.size=w.heap.size+1:=by simp
 have HA:Hid (aa af w ((w.alloc (.cells #[.slice p d.length c,.int .i64 room] 37)).alloc (.cells #[.int .i64 0,.int .i64 0,.string ⟨#[]⟩] 82))):=Lib.hid (((aa.refl _ _).alloc _).alloc _)
 have fR:=Lib.hid (fun wx:World=>U6 s wx (by omega))
 by_cases hpe:cO s≠0
 ·rw[if_pos hpe]at hF
  have hne:(cO s != 0)=true:=by simpa using hpe
  replace hF:=Lib.hid hF
  generalize cO s=pe at *
  unfold aE
  go_enter Tryz.func104,Tryz.ntmps104
  go_wp2_with(first|(go_at_call 139;go_loud(refine(fR.out _).mono ?_);rintro e w' ⟨rfl,zw⟩;subst zw))
  (try simp only[Exit.inBlock,Exit.then])
  refine bodyPost_ret (v:=.tuple #[aF .no,.int .i64 pe]) ?_ rfl ?_
  ·rw[results_cell_tmp rfl];unfold aF aJ.no;go_simp
  ·refine⟨by rw[<- hF.out],?_⟩
   repeat exact kE
 have qI:cO s=0:=Classical.not_not.1 hpe
 rw[if_neg hpe]at hF
 have hs0:¬s=⟨#[]⟩:=fun e=>by subst e;exact absurd qI (by decide)
 have hs1:=size_pos hs0
 have hs2:s.size<=4095:=by
  unfold cO at qI
  rw[if_neg hs0]at qI
  split at qI
  ·cases qI
  ·omega
 have tZ:=Lib.hid (fun wx:World=>SW s wx (by omega))
 have cw:=Lib.hid (fun(wx:World) (kx:aa af w wx) (i:Int)=>U9 (room:=room) (h.ai kx) hI i)
 unfold aE at cw
 have hl1:(iG s).length<=4096:=by have:=KS s;omega
 have HZ:=Lib.hid (fun x hx=>Nat.le_trans (KT s x hx) hs2)
 have HN:=Lib.hid (SF s)
 have hab:=Ve s hs1
 have hsl:=AG s hs1
 have hb1:=qM s[0] 47 (by decide) (by decide)
 have hb2:=qM (s[s.size-1]'(by omega)) 47 (by decide) (by decide)
 rw[show(47:Int).toNat.toUInt8=47 from rfl]at hb1 hb2
 rw[<- hab]at hb1
 rw[<- hsl]at hb2
 have ei:((s.size-1:Nat):Int)=(s.size:Int)-1:=by omega
 rw[qI]at fR
 obtain⟨l,hl⟩:∃l,iG s=l:=⟨_,rfl⟩
 obtain⟨sl,hsl0⟩:∃sl,cg s=sl:=⟨_,rfl⟩
 obtain⟨ab,Be⟩:∃ab,fj s=ab:=⟨_,rfl⟩
 rw[hl]at tZ hF hl1 HZ HN
 rw[hsl0]at hb2 hF
 rw[Be]at hb1 hF
 have L8:l=[]->ab=true:=fun e=>by rw[<- Be];exact U4 s hs0 (hl.trans e)
 obtain⟨gQ,nJ⟩:∃gQ:Int,gQ=if ab=true then 1 else from':=⟨_,rfl⟩
 rw[<- nJ]at hF
 replace hF:=Lib.hid hF
 have hax:=Be.symm.trans habs
 clear hpe qI hab hsl hl hsl0 Be habs
 unfold aE
 subst hax
 all_goals
  (first|rw[if_pos rfl]at nJ|rw[if_neg (by simp)]at nJ)
  go_enter Tryz.func104,Tryz.ntmps104
  go_upto_region 8 with(first|(go_at_call 139;go_loud(refine(fR.out _).mono ?_);rintro e w' ⟨rfl,zw⟩;subst zw)|(go_at_call 140;go_loud(refine(tZ.out _).mono ?_);rintro e w2 ⟨v,rfl,hown,hk2⟩;obtain⟨p1,c1,rfl,hsl0⟩:=hown.sl))
  have dw:=HA.out.trans hk2
  have KB:=kN (v0:=.int .i64 0) (v1:=.int .i64 0) (v2:=.string ⟨#[]⟩) hk2
  rw[e1]at KB
  have D0:=boxed (((aa.refl af (w.alloc (.cells #[.slice p d.length c,.int .i64 room] 37))).alloc (.cells #[.int .i64 0,.int .i64 0,.string ⟨#[]⟩] 82)).trans hk2) 0 _ rfl
  have D1:=boxed (((aa.refl af (w.alloc (.cells #[.slice p d.length c,.int .i64 room] 37))).alloc (.cells #[.int .i64 0,.int .i64 0,.string ⟨#[]⟩] 82)).trans hk2) 1 _ rfl
  have DL:w.heap.size<w2.heap.size:=by have:=KB.lt;omega
  clear HA e1 hk2 fR tZ hb1 hb2 ei hown
  by_cases eB:l=[]
  ·first
   | exact absurd (L8 eB) Bool.false_ne_true
   | (by_cases hin:bI d 1=0
      ·have hH:=hF.out
       rw[if_pos eB,nJ,hin,if_neg (by simp)]at hH
       replace hH:=Lib.hid hH
       have rJ:=Lib.hid (cw.out w2 dw 1)
       rw[hin]at rJ
       clear hF cw
       subst eB
       have B0:=KB.c0
       have B1:=KB.c1
       have B2:=KB.c2
       have FB:=KB.fz
       have bl:=KB.lt
       go_wp2_with(first|(go_at_call 141;go_loud(refine rJ.out.mono ?_);rintro e w3 ⟨rfl,aV⟩;(replace KB:=KB.on aV);(clear B0 B1 B2 FB bl);have B0:=KB.c0;have B1:=KB.c1;have B2:=KB.c2;have FB:=KB.fz;have bl:=KB.lt;have Vl:=dw.trans aV))
       (try simp only[Exit.inBlock,Exit.then])
       refine bodyPost_ret (v:=.tuple #[aF (.on 1),.int .i64 0]) ?_ rfl ?_
       ·rw[results_cell_tmp rfl];unfold aF aJ.on;go_simp
       ·refine⟨by rw[<- hH.out],?_⟩
        repeat exact kE
      ·have hH:=hF.out
       rw[if_pos eB,nJ,if_pos hin]at hH
       replace hH:=Lib.hid hH
       have rJ:=Lib.hid (cw.out w2 dw 1)
       have WA:(bI d 1 != 0)=true:=by simpa using hin
       generalize bI d 1=ie at *
       clear hF cw hin
       subst eB
       have B0:=KB.c0
       have B1:=KB.c1
       have B2:=KB.c2
       have FB:=KB.fz
       have bl:=KB.lt
       go_wp2_with(first|(go_at_call 141;go_loud(refine rJ.out.mono ?_);rintro e w3 ⟨rfl,aV⟩;(replace KB:=KB.on aV);(clear B0 B1 B2 FB bl);have B0:=KB.c0;have B1:=KB.c1;have B2:=KB.c2;have FB:=KB.fz;have bl:=KB.lt;have Vl:=dw.trans aV))
       (try simp only[Exit.inBlock,Exit.then])
       refine bodyPost_ret (v:=.tuple #[aF .no,.int .i64 ie]) ?_ rfl ?_
       ·rw[results_cell_tmp rfl];unfold aF aJ.no;go_simp
       ·refine⟨by rw[<- hH.out],?_⟩
        (repeat exact kE))
  have hH:=hF.out
  rw[if_neg eB,CY eB _ (.on gQ)]at hH
  obtain⟨O,hO⟩:∃O,scan d up sl follow l gQ n (.on gQ)=O:=⟨_,rfl⟩
  rw[hO]at hH
  have hlen:1<=l.length:=List.length_pos_iff.2 eB
  have hl0':((l.length:Int)==0)=false:=beq_eq_false_iff_ne.2 (by omega)
  have hcl:=hsl0.cap
  have hml:=hsl0.max
  unfold maxLen at hml
  replace hO:=Lib.hid hO
  replace hH:=Lib.hid hH
  have Vm:w.heap.size+1<w2.heap.size:=KB.lt
  clear hF L8 eB
  go_upto_region 14 with fail
  have CC:sL w (w2.alloc (.cells #[.int .i64 gQ,.int .i64 0,.string ⟨#[]⟩] 82)) w2.heap.size p d.length c room (.on gQ) :=
   ⟨dw.alloc _,by simp;omega,(((aa.refl af w2).alloc _).cell (p:=⟨w.heap.size,0,none⟩) DL (fun h=>h)).trans D0,(((aa.refl af w2).alloc _).cell (p:=⟨w.heap.size,1,none⟩) DL (fun h=>h)).trans D1,KB.on ((aa.refl af w2).alloc _),kN (aa.refl af _)⟩
  have hrow:=hsl0.ai ((aa.refl af w2).alloc (.cells #[.int .i64 gQ,.int .i64 0,.string ⟨#[]⟩] 82))
  have Fo:bt jX (fun g=>g≠w2.heap.size) (w2.alloc (.cells #[.int .i64 gQ,.int .i64 0,.string ⟨#[]⟩] 82)) p1 c1 l:=bt.cN hsl0 ((aa.refl af w2).alloc _) (fun _ _ _ h=>h) (fun g _ hl=>by omega)
  rw[nJ]at CC Fo
  clear dw KB D0 D1 DL hrow hsl0
  first
  | (have _:gQ=1:=nJ
     generalize w2.alloc (.cells #[.int .i64 1,.int .i64 0,.string ⟨#[]⟩] 82)=w3 at *)
  | generalize w2.alloc (.cells #[.int .i64 from',.int .i64 0,.string ⟨#[]⟩] 82)=w3 at *
  rw[<- nJ]at CC
  generalize w2.heap.size=bp at *
  go_wp2_with fail
  (try rw[hl0'])
  go_loopw [4,17] (fun v4 i wr=>∃(k n':Nat) (q:aJ),v4=.int .i64 n'∧i=.int .i64 k∧Vi d up sl follow O l w wr bp p p1 c c1 room k n n' q) (fun _ i _=>l.length-(intOf i).toNat)
  case atStart=>exact⟨0,n,.on gQ,rfl,rfl,⟨Nat.zero_le _,rI,Nat.le_refl _,CC,Fo,fun h=>absurd rfl h,.inr ⟨fun h=>absurd rfl h,by rw[List.drop_zero];exact hO.out⟩⟩⟩
  case round =>
   obtain⟨k,n',q,rfl,rfl,J⟩:=hrel
   clear CC Fo hO
   have hk:=J.le
   have sM:=J.xN
   have hn0:=J.n0
   have CC:=J.cs
   by_cases hlt:k<l.length
   ·have D0:=CC.d0;have D1:=CC.d1;have DL:=CC.lt;have B0:=CC.box.c0;have B1:=CC.box.c1;have B2:=CC.box.c2;have FB:=CC.box.fz;have P0:=CC.bA.c0;have P1:=CC.bA.c1;have P2:=CC.bA.c2;have FP:=CC.bA.fz;have dc:=CC.box.lt;have ji:=CC.bA.lt;have k0:=CC.keeps
    by_cases hA:k≠0∧q.node=0
    ·have hO:O=.err 12:=by
      rcases J.eq with⟨_,_,_,h⟩|⟨h,_⟩
      ·exact h
      ·have:=h hA.1 hA.2;omega
     subst hO
     have hk1:(0:Int)<(k:Int):=by omega
     have hb:(q.node==0)=true:=by simpa using hA.2
     clear J hA
     go_upto_region 18 with fail
     (repeat go_step)
     (try simp only[Exit.inBlock,Exit.then])
     refine bodyPost_ret (v:=.tuple #[aF .no,.int .i64 12]) ?_ rfl ?_
     ·rw[results_cell_tmp rfl];unfold aF aJ.no;go_simp
     ·refine⟨by rw[<- hH.out],?_⟩
      repeat exact kE
    ·have hsc:scan d up sl follow (l.drop k) q.node n' q=O:=by
      rcases J.eq with⟨h1,h2,_,_⟩|⟨_,h⟩
      ·exact absurd ⟨h1,h2⟩ hA
      ·exact h
     have hcs:¬(0:Int)<(k:Int)∨((0:Int)<(k:Int)∧(q.node==0)=false):=by
      by_cases h0:k=0
      ·exact .inl (by omega)
      ·exact .inr ⟨by omega,by simpa using fun h=>hA ⟨h0,h⟩⟩
     obtain⟨x,hx⟩:∃x,l[k]?=some x:=⟨_,List.getElem?_eq_getElem hlt⟩
     obtain⟨gb,off,rfl,hS,hg,c0⟩:=J.row.str hx
     rw[List.drop_eq_getElem_cons hlt,show l[k]=x from Option.some.inj ((List.getElem?_eq_getElem hlt).symm.trans hx),L9]at hsc
     obtain⟨fl,hfl⟩:∃fl,fl=(!(l.drop (k+1)).isEmpty||sl||follow):=⟨_,rfl⟩
     rw[<- hfl]at hsc
     replace hfl:=Lib.hid hfl
     have rJ:=Lib.hid (cw.out wr CC.keeps q.node)
     have xP:=Lib.hid J.row
     have Vn:¬x=⟨#[]⟩:=HN.out x (List.mem_of_getElem? hx)
     clear J hx hA
     go_upto_region 17 with fail
     go_cut [66]from 60 to 66 (fun v wx=>v=.bool false∧wr=wx)
     case first =>
      rcases hcs with hc1|⟨hc1,hc2⟩
      all_goals(go_wp2_with fail;go_meet;exact⟨rfl,rfl⟩)
     case rest =>
     obtain⟨rfl,hwr⟩:=hcut
     subst hwr
     clear hcs
     by_cases hin:bI d q.node≠0
     ·have hst:ck d up q.node x fl n'=⟨.no,⟨#[]⟩,bI d q.node,n'⟩:=by unfold ck;rw[if_pos hin]
      rw[hst,if_pos hin]at hsc
      subst hsc
      have hne:(bI d q.node != 0)=true:=by simpa using hin
      clear hst hin
      generalize bI d q.node=ie at *
      go_upto_region 22 with(first|(go_at_call 141;go_loud(refine rJ.out.mono ?_);rintro e w5 ⟨rfl,bX⟩;have CD:=CC.on bX;clear D0 D1 DL B0 B1 B2 FB P0 P1 P2 FP dc ji k0;clear CC;have CC:=CD;have D0:=CC.d0;have D1:=CC.d1;have DL:=CC.lt;have B0:=CC.box.c0;have B1:=CC.box.c1;have B2:=CC.box.c2;have FB:=CC.box.fz;have P0:=CC.bA.c0;have P1:=CC.bA.c1;have P2:=CC.bA.c2;have FP:=CC.bA.fz;have dc:=CC.box.lt;have ji:=CC.bA.lt;have k0:=CC.keeps))
      (repeat go_step)
      (try simp only[Exit.inBlock,Exit.then])
      refine bodyPost_ret (v:=.tuple #[aF .no,.int .i64 ie]) ?_ rfl ?_
      ·rw[results_cell_tmp rfl];unfold aF aJ.no;go_simp
      ·refine⟨by rw[<- hH.out],?_⟩
       repeat exact kE
     have xQ:bI d q.node=0:=Classical.not_not.1 hin
     obtain⟨P,hP⟩:∃P,pQ d up q.node x=P:=⟨_,rfl⟩
     have aT:=Vh hI qH.out xQ x
     have hQ:=Vg (up:=up) (fl:=fl) hI sM Vn xQ P hP
     obtain⟨Q,Ma⟩:∃Q,ck d up q.node x fl n'=Q:=⟨_,rfl⟩
     rw[Ma]at hsc hQ
     clear Ma
     have xR:=Lib.hid (fun(wx:World) (kx:aa af w wx)=>Va (room:=room) (h.ai kx) hI hs qH.out q.node (Fk xQ) x)
     rw[hP]at xR aT
     rw[xQ]at rJ
     unfold aF aE at xR
     replace hsc:=Lib.hid hsc
     replace aT:=Lib.hid aT
     clear hP xQ hin
     obtain⟨⟨nx,dx,nm⟩,pe⟩:=P
     simp only at xR aT hQ
     replace hQ:=Lib.hid hQ
     go_upto_region 23 with(first|(go_at_call 141;go_loud(refine rJ.out.mono ?_);rintro e w5 ⟨rfl,bX⟩;have CD:=CC.on bX;clear D0 D1 DL B0 B1 B2 FB P0 P1 P2 FP dc ji k0;clear CC;have CC:=CD;have D0:=CC.d0;have D1:=CC.d1;have DL:=CC.lt;have B0:=CC.box.c0;have B1:=CC.box.c1;have B2:=CC.box.c2;have FB:=CC.box.fz;have P0:=CC.bA.c0;have P1:=CC.bA.c1;have P2:=CC.bA.c2;have FP:=CC.bA.fz;have dc:=CC.box.lt;have ji:=CC.bA.lt;have k0:=CC.keeps))
     have c5:=(bX.cell (p:=⟨gb,off+k,none⟩) hg (fun h=>h)).trans c0
     have uC:gb<w5.heap.size:=Nat.lt_of_lt_of_le hg bX.size
     have jG:=xP.out.ai bX
     clear c0 hg rJ xP bX
     go_cut [20,21]from 78 to 86 (fun t20 t21 wx=>∃bq:Nat,t20=.pointer (some ⟨bq,0,none⟩)∧t21=.int .i64 pe∧bp<bq∧C3 wx bq (.int .i64 nx) (.int .i64 dx) (.string nm)∧aa af w5 wx)
     case first =>
      have kr:=aa.refl af w5
      have bh:=kr.drew
      have CD:=CC.on bh
      have d0:=CD.d0
      have d1:=CD.d1
      have dl:=CD.lt
      have cx:=(bh.cell (p:=⟨gb,off+k,none⟩) uC (fun h=>h)).trans c5
      go_region_held3 (fun wz=>wz.cell? ⟨w.heap.size,0,none⟩=some (.slice p d.length c)∧wz.cell? ⟨w.heap.size,1,none⟩=some (.int .i64 room)∧wz.cell? ⟨gb,off+k,none⟩=some (.string x)∧aa af w5 wz)
       (refine⟨?_,?_,?_,?_⟩<;>first|with_reducible assumption|(with_reducible refine(CC.on ?_).d0;exact kE)|(with_reducible refine(CC.on ?_).d1;exact kE)|(with_reducible refine(aa.cell (F:=af) (w:=w5) (p:=⟨gb,off+k,none⟩) ?_ uC (fun h=>h)).trans c5;exact kE)|(exact kE))
       (first|(go_at_call 142;refine(xR.out _ (CC.keeps.trans kE)).mono ?_;rintro e w6 ⟨rfl,cF⟩;have zk:aa af w5 w6:=aa.trans kE cF;have z0:=(CC.on zk).d0;have z1:=(CC.on zk).d1;have zp:=(CC.on zk).bA.lt;have zx:=(zk.cell (p:=⟨gb,off+k,none⟩) uC (fun h=>h)).trans c5;(try(first|(with_reducible have b0:=o9 cF 0 _ rfl;with_reducible have b1:=o9 cF 1 _ rfl;with_reducible have b2:=o9 cF 2 _ rfl;with_reducible have f0:=Dm cF)|(with_reducible have b0:=boxed cF 0 _ rfl;with_reducible have b1:=boxed cF 1 _ rfl;with_reducible have b2:=boxed cF 2 _ rfl;with_reducible have f0:=nW cF)))))
      all_goals(go_wp2_with fail;go_meet;refine⟨_,rfl,rfl,?_,?_,?_⟩)
      all_goals first
       | (with_reducible exact zp)
       | (with_reducible exact CC.bA.lt)
       | (with_reducible exact kN (aa.refl af _))
       | (with_reducible exact C3.set ⟨Nat.lt_of_lt_of_le (by simp) cF.size,b0,b1,b2,f0⟩ _ _ _)
       | (exact kE)
     case rest =>
      obtain⟨bq,rfl,rfl,WC,KQ,cF⟩:=hcut
      have CD:=CC.on cF
      have Mb:=jG.ai cF
      clear D0 D1 DL B0 B1 B2 FB P0 P1 P2 FP dc ji k0
      clear CC c5 uC jG xR
      have CC:=CD
      clear CD
      have q0:=KQ.c0
      have q1:=KQ.c1
      have q2:=KQ.c2
      have ql:=KQ.lt
      clear KQ cF
      have D0:=CC.d0;have D1:=CC.d1;have DL:=CC.lt;have B0:=CC.box.c0;have B1:=CC.box.c1;have B2:=CC.box.c2;have FB:=CC.box.fz;have P0:=CC.bA.c0;have P1:=CC.bA.c1;have P2:=CC.bA.c2;have FP:=CC.bA.fz;have dc:=CC.box.lt;have ji:=CC.bA.lt;have k0:=CC.keeps
      by_cases hpe:pe≠0
      ·have e:=hQ.out
       rw[if_pos hpe]at e
       subst e
       have hO:=hsc.out
       rw[if_pos hpe]at hO
       subst hO
       have hb:(pe != 0)=true:=by simpa using hpe
       clear hsc hQ aT
       go_upto_region 25 with fail
       (repeat go_step)
       (try simp only[Exit.inBlock,Exit.then])
       refine bodyPost_ret (v:=.tuple #[aF .no,.int .i64 pe]) ?_ rfl ?_
       ·rw[results_cell_tmp rfl];unfold aF aJ.no;go_simp
       ·refine⟨by rw[<- hH.out],?_⟩
        repeat exact kE
      have qI:pe=0:=Classical.not_not.1 hpe
      have mh:=hQ.out
      rw[if_neg hpe]at mh
      have mP:=aT.out qI
      subst qI
      clear hQ aT hpe
      go_upto_region 27 with fail
      have C5:=CC.put Vm ⟨nx,dx,nm⟩
      have r5:=Mb.keep (tY _ bp (.int .i64 nx) (.int .i64 dx) (.string nm)) (fun g (hg:g≠bp) _ e=>hg e)
      clear D0 D1 DL B0 B1 B2 FB P0 P1 P2 FP dc ji k0
      clear q0 q1 q2 ql Mb CC
      have CC:=C5
      clear C5
      simp only at CC r5
      generalize(((wc.setCell ⟨bp,0,none⟩ (.int .i64 nx)).setCell ⟨bp,1,none⟩ (.int .i64 dx)).setCell ⟨bp,2,none⟩ (.string nm))=w7 at *
      have tL:=Vj k l sl follow fl hlt hfl.out
      obtain⟨sk,hsk⟩:∃sk:Bool,sk=sl:=⟨_,rfl⟩
      obtain⟨fk,vw⟩:∃fk:Bool,fk=fl:=⟨_,rfl⟩
      have jw:=hH.out
      have nK:=hsc.out
      clear hH hsc
      rw[<- hsk]at nK jw
      rw[<- vw]at mh
      replace hsk:=Lib.hid hsk
      replace vw:=Lib.hid vw
      replace mh:=Lib.hid mh
      have hsc:=Lib.hid nK
      have hH:=Lib.hid jw
      clear nK jw hfl
      have hC:nm=⟨#[]⟩∨(nm≠⟨#[]⟩∧nx=0)∨(nm≠⟨#[]⟩∧nx≠0∧fk=false)∨(nm≠⟨#[]⟩∧nx≠0∧fk=true∧(nd d nx).kind≠3)∨(nm≠⟨#[]⟩∧nx≠0∧fk=true∧(nd d nx).kind=3):=by
       by_cases g1:nm=⟨#[]⟩
       ·exact .inl g1
       by_cases g2:nx=0
       ·exact .inr (.inl ⟨g1,g2⟩)
       cases hf:fk with
       | false=>exact .inr (.inr (.inl ⟨g1,g2,rfl⟩))
       | true =>
         by_cases g3:(nd d nx).kind=3
         ·exact .inr (.inr (.inr (.inr ⟨g1,g2,rfl,g3⟩)))
         ·exact .inr (.inr (.inr (.inl ⟨g1,g2,rfl,g3⟩)))
      have D0:=CC.d0;have D1:=CC.d1;have DL:=CC.lt;have B0:=CC.box.c0;have B1:=CC.box.c1;have B2:=CC.box.c2;have FB:=CC.box.fz;have P0:=CC.bA.c0;have P1:=CC.bA.c1;have P2:=CC.bA.c2;have FP:=CC.bA.fz;have dc:=CC.box.lt;have ji:=CC.bA.lt;have k0:=CC.keeps
      go_cut [22]from 92 to 102 (fun v wx=>v=.bool fl∧w7=wx)
      case first =>
       rcases tL with⟨hb,rfl⟩|⟨hb,rfl,rfl⟩|⟨hb,rfl,rfl⟩
       all_goals(go_wp2_with fail;go_meet;exact⟨rfl,rfl⟩)
      case rest =>
      obtain⟨rfl,Vo⟩:=hcut
      subst Vo
      clear tL
      rcases hC with g1|⟨g1,g2⟩|⟨g1,g2,g3⟩|⟨g1,g2,g3,g4⟩|⟨g1,g2,g3,g4⟩
      ·have kO:=mh.out
       rw[if_neg (fun h=>h.1 g1)]at kO
       (subst kO;(have hO:=hsc.out);rw[if_neg (show ¬((0:Int)≠0)by simp),if_neg (show ¬((⟨#[]⟩:ByteArray)≠⟨#[]⟩)by simp)]at hO;(have pL:=Lib.hid (xO hlt hO));clear hO hsc mh)
       subst g1
       (go_upto_region 16 with fail;(repeat go_step);refine⟨⟨k+1,n',_,rfl,by go_num,⟨by omega,sM,hn0,CC,r5,fun _=>mP,?_⟩⟩,?_⟩;((have hx:=pL.out);rw[hsk.out]at hx;exact hx);(simp[intOf];omega))
      ·have kO:=mh.out
       rw[if_neg (fun h=>h.2.1 g2)]at kO
       (subst kO;(have hO:=hsc.out);rw[if_neg (show ¬((0:Int)≠0)by simp),if_neg (show ¬((⟨#[]⟩:ByteArray)≠⟨#[]⟩)by simp)]at hO;(have pL:=Lib.hid (xO hlt hO));clear hO hsc mh)
       have hne:=nr g1
       have sJ:(nx != 0)=false:=by simpa using g2
       clear g1 g2
       (go_upto_region 16 with fail;(repeat go_step);refine⟨⟨k+1,n',_,rfl,by go_num,⟨by omega,sM,hn0,CC,r5,fun _=>mP,?_⟩⟩,?_⟩;((have hx:=pL.out);rw[hsk.out]at hx;exact hx);(simp[intOf];omega))
      ·have kO:=mh.out
       rw[if_neg (fun h=>by rw[g3]at h;exact absurd h.2.2.1 (by simp))]at kO
       have g5:=vw.out.symm.trans g3
       first
       | (cases g5;done)
       | (cases g5
          (subst kO;(have hO:=hsc.out);rw[if_neg (show ¬((0:Int)≠0)by simp),if_neg (show ¬((⟨#[]⟩:ByteArray)≠⟨#[]⟩)by simp)]at hO;(have pL:=Lib.hid (xO hlt hO));clear hO hsc mh)
          have hne:=nr g1
          have sJ:(nx != 0)=true:=by simpa using g2
          clear g1 g2
          (go_upto_region 16 with fail;(repeat go_step);refine⟨⟨k+1,n',_,rfl,by go_num,⟨by omega,sM,hn0,CC,r5,fun _=>mP,?_⟩⟩,?_⟩;((have hx:=pL.out);rw[hsk.out]at hx;exact hx);(simp[intOf];omega)))
      ·have kO:=mh.out
       rw[if_neg (fun h=>g4 h.2.2.2)]at kO
       have g5:=vw.out.symm.trans g3
       cases g5
       (subst kO;(have hO:=hsc.out);rw[if_neg (show ¬((0:Int)≠0)by simp),if_neg (show ¬((⟨#[]⟩:ByteArray)≠⟨#[]⟩)by simp)]at hO;(have pL:=Lib.hid (xO hlt hO));clear hO hsc mh)
       have hne:=nr g1
       have sJ:(nx != 0)=true:=by simpa using g2
       (have hh:=mP g2;obtain⟨kk,xS,hkk⟩:=eP hh;subst xS;obtain⟨gr,Bf,q',m',xT,Mc,qJ⟩:=h.rowAt hkk;subst xT;have hgl:=qJ.lt;have hrow:=qJ.ai CC.keeps;have Md:=hrow.c0;have Fp:=hrow.c3;have Fq:=hrow.lt;clear hh)
       have aV:((nd d kk).kind==3)=false:=by simpa using g4
       clear g1 g2 g4
       (go_upto_region 16 with fail;(repeat go_step);refine⟨⟨k+1,n',_,rfl,by go_num,⟨by omega,sM,hn0,CC,r5,fun _=>mP,?_⟩⟩,?_⟩;((have hx:=pL.out);rw[hsk.out]at hx;exact hx);(simp[intOf];omega))
      ·have kO:=mh.out
       rw[if_pos ⟨g1,g2,g3,g4⟩]at kO
       have g5:=vw.out.symm.trans g3
       cases g5
       have hne:=nr g1
       have sJ:(nx != 0)=true:=by simpa using g2
       (have hh:=mP g2;obtain⟨kk,xS,hkk⟩:=eP hh;subst xS;obtain⟨gr,Bf,q',m',xT,Mc,qJ⟩:=h.rowAt hkk;subst xT;have hgl:=qJ.lt;have hrow:=qJ.ai CC.keeps;have Md:=hrow.c0;have Fp:=hrow.c3;have Fq:=hrow.lt;clear hh)
       have aV:((nd d kk).kind==3)=true:=by simpa using g4
       clear g1 g2 g4
       by_cases h4:n'=40
       ·rw[if_pos h4]at kO
        subst kO
        have hO:=hsc.out
        rw[if_pos (show(17:Int)≠0 by decide)]at hO
        subst hO
        have Vp:((n':Int)==40)=true:=by simp;omega
        clear hsc mh
        go_upto_region 30 with fail
        (repeat go_step)
        (try simp only[Exit.inBlock,Exit.then])
        refine bodyPost_ret (v:=.tuple #[aF .no,.int .i64 17]) ?_ rfl ?_
        ·rw[results_cell_tmp rfl];unfold aF aJ.no;go_simp
        ·refine⟨by rw[<- hH.out],?_⟩
         repeat exact kE
       ·rw[if_neg h4]at kO
        subst kO
        have Vp:((n':Int)==40)=false:=by simp;omega
        by_cases hd:(nd d kk).data=⟨#[]⟩
        ·have hO:=hsc.out
         rw[if_neg (show ¬((0:Int)≠0)by simp),if_neg (fun h=>h hd)]at hO
         have pL:=Lib.hid (xO hlt hO)
         clear hO hsc mh
         rw[hd]at Fp
         go_upto_region 16 with fail
         (repeat go_step)
         refine⟨⟨k+1,n'+1,_,by go_num,by go_num,⟨by omega,by omega,by omega,CC,r5,fun _=>mP,?_⟩⟩,?_⟩
         ·have hx:=pL.out;rw[hsk.out]at hx;exact hx
         ·simp[intOf];omega
        ·have hO:=hsc.out
         rw[if_neg (show ¬((0:Int)≠0)by simp),if_pos hd]at hO
         subst hO
         have Bg:=hH.out
         simp only at Bg
         have hdn:=nr hd
         have hds:=(hI.node kk).data
         have hrs:=LZ (nd d kk).data (l.drop (k+1)) sk 4095 (fun y hy=>HZ.out y (List.mem_of_mem_drop hy))
         have vz:(l.drop (k+1)).length=l.length-(k+1):=by simp
         rw[vz]at hrs
         have uc:(mM (nd d kk).data (l.drop (k+1)) sk).size<=4294967280:=by
          have:(l.length-(k+1))*(4095+1)<=4096*4096:=Nat.mul_le_mul (by omega) (by omega)
          omega
         have Vq:∀wx:World,(Instr.slice 130 (.slice (some ⟨gb,off,none⟩) l.length c1) (some (.int .i64 ((k:Int)+1))) none none).run Tryz.prog wx=.ok (.slice (jK 1 (some ⟨gb,off,none⟩) c1 (k+1)) (l.length-(k+1)) (c1-(k+1))) wx :=
          fun wx=>run_slice_l (P:=Tryz.prog) 130 9 1 Tryz.underlying130 (by kernel_rfl) (some ⟨gb,off,none⟩) l.length c1 (k+1) (by omega) wx (by omega)
         have hsub:=r5.sub (k+1) l.length (by omega) (Nat.le_refl _)
         rw[List.take_length]at hsub
         have oK:=fun(wz:World) (kz:aa af w7 wz)=>U8 _ wz _ _ _ (hsub.ai kz) (nd d kk).data sk hd (fun y hy=>HN.out y (List.mem_of_mem_drop hy)) (fun y hy=>HZ.out y (List.mem_of_mem_drop hy)) (by omega) (by omega)
         simp only[vz,show jX.k=1 from rfl]at oK
         obtain⟨s2,Fs⟩:∃s2,mM (nd d kk).data (l.drop (k+1)) sk=s2:=⟨_,rfl⟩
         rw[Fs]at Bg uc
         simp only[Fs]at oK
         simp only[hsk.out]at oK
         have rB:=fun(wz:World) (kz:aa af w wz)=>IH.out S wz _ c (h.ai kz) q.node s2 (n'+1) uc (by omega) (by omega)
         have hcast:((n'+1:Nat):Int)=(n':Int)+1:=by omega
         simp only[Bg,hcast]at rB
         clear hcast
         obtain⟨⟨Fn,Fd,Fm⟩,Fe⟩:=F
         unfold aF aE at rB
         simp only at rB
         replace rB:=Lib.hid rB
         replace oK:=Lib.hid oK
         have hw1:IntKind.i64.wrap ((k:Int)+1)=(k:Int)+1:=by rw[IntKind.wrap_i64];omega
         have oA:IntKind.i64.wrap ((n':Int)+1)=(n':Int)+1:=by rw[IntKind.wrap_i64];omega
         have hi1:(0:Int)<=(k:Int)+1:=by omega
         have hi2:(k:Int)+1<=(l.length:Int):=by omega
         have WD:(l.length:Int)<=(c1:Int):=by omega
         have hi4:(0:Int)<=(kk:Int):=by omega
         have hi5:(kk:Int)<(d.length:Int):=by omega
         clear Fs Bg uc hsub hrs vz hds hd hsc mh hH
         go_upto_region 32 with fail
         go_cut [11]from 135 to 155 (fun y wx=>y=.int .i64 Fe∧C3 wx (w.heap.size+1) (.int .i64 Fn) (.int .i64 Fd) (.string Fm)∧aa af w wx)
         case first =>
          have kr:=aa.refl af w7
          have bh:=kr.drew
          have CD:=CC.on bh
          have d0:=CD.d0
          have d1:=CD.d1
          have d2:=CD.bA.c0
          have d3:=(hrow.ai bh).c3
          have dl:=CD.lt
          have WE:=CD.keeps
          go_region_held3 (fun wz=>wz.cell? ⟨w.heap.size,0,none⟩=some (.slice (some ⟨gr,Bf,none⟩) d.length c)∧wz.cell? ⟨w.heap.size,1,none⟩=some (.int .i64 room)∧wz.cell? ⟨bp,0,none⟩=some (.int .i64 kk)∧wz.cell? ⟨gr,Bf+kk*5+3,none⟩=some (.string (nd d kk).data)∧aa af w wz)
           (refine⟨?_,?_,?_,?_,?_⟩<;>first|with_reducible assumption|(with_reducible exact L3 (by assumption) _ _ _)|(with_reducible refine Vk ?_ ?_ _ _ _<;>first|with_reducible assumption|omega)|(exact kE))
           (first
             | (go_at_call 143;refine(oK.out _ kE).mono ?_;rintro e w8 ⟨rfl,zw⟩;subst zw)
             | (go_at_call 104;refine(rB.out _ kE).mono ?_;rintro e w9 ⟨rfl,tI⟩;have zk:aa af w7 w9:=aa.trans kE tI;have CZ:=CC.on zk;have z0:=CZ.d0;have z1:=CZ.d1;have z2:=CZ.bA.c0;have z3:=(hrow.ai zk).c3;have z4:=(hrow.ai zk).lt;have z5:=CZ.lt;have z6:=CZ.bA.lt;have z7:=CZ.keeps;have y0:=CZ.box.c0;have y1:=CZ.box.c1;have y2:=CZ.box.c2;have yf:=CZ.box.fz;have yl:=CZ.box.lt))
          all_goals(go_wp2_with fail;go_meet;refine⟨rfl,?_,?_⟩)
          all_goals first
           | (with_reducible exact C3.set CZ.box _ _ _)
           | (with_reducible exact L3 z7 _ _ _)
           | (exact kE)
         case rest =>
          obtain⟨rfl,hbx,fK⟩:=hcut
          clear D0 D1 DL B0 B1 B2 FB P0 P1 P2 FP dc ji k0
          have B0:=hbx.c0
          have B1:=hbx.c1
          have B2:=hbx.c2
          (repeat go_step)
          (try simp only[Exit.inBlock,Exit.then])
          refine bodyPost_ret (v:=.tuple #[aF ⟨Fn,Fd,Fm⟩,.int .i64 Fe]) ?_ rfl ?_
          ·rw[results_cell_tmp rfl];unfold aF;go_simp
          ·exact⟨rfl,fK⟩
   ·obtain rfl:k=l.length:=by omega
    have hO:O=.fin q:=by
     rcases J.eq with⟨_,_,h,_⟩|⟨_,h⟩
     ·exact absurd h (Nat.lt_irrefl _)
     ·rw[List.drop_of_length_le (Nat.le_refl _)]at h
      exact h.symm
    subst hO
    have cS:=J.there (by omega)
    have jw:=hH.out
    simp only at jw
    unfold jC at jw
    clear J hH cw IH qH HN HZ
    obtain⟨nx,dx,nm⟩:=q
    simp only at jw cS
    have D0:=CC.d0;have D1:=CC.d1;have DL:=CC.lt;have B0:=CC.box.c0;have B1:=CC.box.c1;have B2:=CC.box.c2;have FB:=CC.box.fz;have P0:=CC.bA.c0;have P1:=CC.bA.c1;have P2:=CC.bA.c2;have FP:=CC.bA.fz;have dc:=CC.box.lt;have ji:=CC.bA.lt;have k0:=CC.keeps
    have hE:(sl=false∨(sl=true∧nx=0))∨(sl=true∧nx≠0):=by
     cases sl with
     | false=>exact .inl (.inl rfl)
     | true =>
       by_cases h0:nx=0
       ·exact .inl (.inr ⟨rfl,h0⟩)
       ·exact .inr ⟨rfl,h0⟩
    rcases hE with hE|⟨g1,g2⟩
    ·have ja:sl=false∨nx=0:=hE.elim .inl (fun h=>.inr h.2)
     rw[if_pos ja]at jw
     replace jw:=Lib.hid jw
     clear ja cS
     rcases hE with g1|⟨g1,g2⟩
     ·subst g1
      (go_upto_region 36 with fail;(repeat go_step);(try simp only[Exit.inBlock,Exit.then]);refine bodyPost_ret (v:=.tuple #[aF ⟨nx,dx,nm⟩,.int .i64 0]) ?_ rfl ?_;(rw[results_cell_tmp rfl];unfold aF;go_simp);refine⟨by rw[<- jw.out],?_⟩;(repeat exact kE))
     ·subst g1
      have sJ:(nx != 0)=false:=by simpa using g2
      clear g2
      (go_upto_region 36 with fail;(repeat go_step);(try simp only[Exit.inBlock,Exit.then]);refine bodyPost_ret (v:=.tuple #[aF ⟨nx,dx,nm⟩,.int .i64 0]) ?_ rfl ?_;(rw[results_cell_tmp rfl];unfold aF;go_simp);refine⟨by rw[<- jw.out],?_⟩;(repeat exact kE))
    ·rw[if_neg (fun h=>h.elim (fun h=>by rw[g1]at h;cases h) g2)]at jw
     subst g1
     have sJ:(nx != 0)=true:=by simpa using g2
     have mP:=cS
     (have hh:=mP g2;obtain⟨kk,xS,hkk⟩:=eP hh;subst xS;obtain⟨gr,Bf,q',m',xT,Mc,qJ⟩:=h.rowAt hkk;subst xT;have hgl:=qJ.lt;have hrow:=qJ.ai CC.keeps;have Md:=hrow.c0;have Fp:=hrow.c3;have Fq:=hrow.lt;clear hh)
     clear g2
     by_cases hk2:(nd d kk).kind=2
     ·rw[if_neg (fun h=>h hk2)]at jw
      replace jw:=Lib.hid jw
      have Vr:((nd d kk).kind != 2)=false:=by simpa using hk2
      clear hk2
      (go_upto_region 36 with fail;(repeat go_step);(try simp only[Exit.inBlock,Exit.then]);refine bodyPost_ret (v:=.tuple #[aF ⟨(kk:Int),dx,nm⟩,.int .i64 0]) ?_ rfl ?_;(rw[results_cell_tmp rfl];unfold aF;go_simp);refine⟨by rw[<- jw.out],?_⟩;(repeat exact kE))
     ·rw[if_pos hk2]at jw
      replace jw:=Lib.hid jw
      have Vr:((nd d kk).kind != 2)=true:=by simpa using hk2
      clear hk2
      go_upto_region 35 with fail
      (repeat go_step)
      (try simp only[Exit.inBlock,Exit.then])
      refine bodyPost_ret (v:=.tuple #[aF .no,.int .i64 14]) ?_ rfl ?_
      ·rw[results_cell_tmp rfl];unfold aF aJ.no;go_simp
      ·refine⟨by rw[<- jw.out],?_⟩
       repeat exact kE
 ):P:=h
end Go.Proofs.YtnanhmfpikddkaaGreatDoor
