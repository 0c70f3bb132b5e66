/-
  Layer 5,plain: the disks that are built node by node. No program in sight.
-/
import Derived.Test.YtnanhmfpikddkaaGreatDoorG09
import Derived.Test.YtnanhmfpikddkaaGreatDoorG07
import Derived.Test.YtnanhmfpikddkaaGreatDoorG04
import Derived.Test.YtnanhmfpikddkaaGreatDoorG08

set_option linter.unusedSimpArgs false
set_option linter.unusedVariables false
set_option maxRecDepth 100000
namespace Go.Proofs.YtnanhmfpikddkaaGreatDoor
structure N5 where
 at':Int
 name:ByteArray
 kind:Int
 mode:Int
 data:ByteArray
theorem cJ.node {d d':ag} (h:cJ d d') (i:Int):nd d' i=nd d i∨nd d' i=Nd.gone:=by
 induction h with
 | refl=>exact .inl rfl
 | step j hj _ ih =>
   rw[kT hj.1]at ih
   split at ih
   ·exact .inr (ih.elim id id)
   ·exact ih
theorem ME {d:ag} {i:Int} (h1:has d i) (h2:(nd d i).holds≠0):gq d i=0:=by
 unfold gq
 rw[if_neg h1,if_neg h2]
theorem yj {d:ag} {room kind m:Int} {s:ByteArray} (h:cP d room kind m s=0):1<=kind∧kind<=3:=by
 unfold cP at h
 split at h;· cases h
 split at h;· cases h
 omega
theorem vI {d:ag} {room i k:Int} {name:ByteArray} (h:cH d room i name k=0):aO d i=0∧bw (nd d i).ah name=0:=by
 unfold cH at h
 split at h
 ·next e=>exact absurd h e
 ·next e =>
  refine⟨Classical.not_not.1 e,?_⟩
  split at h;· cases h
  split at h;· cases h
  split at h;· cases h
  split at h
  ·next e=>exact absurd h e
  ·next e=>exact Classical.not_not.1 e
theorem oO {d:ag} {i:Int} (h:aO d i=0):has d i∧(nd d i).kind=2:=by
 unfold aO at h
 split at h;· cases h
 split at h
 ·next e1 e2=>exact⟨e1,e2⟩
 ·cases h
theorem FM {d:ag} {n:Nd} (hn:n.ah=[]) {i:Int} (hi:i≠d.length):¬cU (d++[n]) d.length i:=by
 have:∀i,cU (d++[n]) d.length i->i=d.length:=by
  intro i h
  induction h with
  | self=>rfl
  | step hp _ ih =>
    obtain⟨_,e,he,_⟩:=hp
    rw[ih,iI,if_pos rfl,hn]at he
    cases he
 exact fun h=>hi (this i h)
theorem Bo {d:ag} {room i k:Int} {name:ByteArray}:(bM d room i name k).length=d.length:=by
 unfold bM
 split
 ·unfold bN dz;rw[jl]
 ·rfl
theorem yo {d:ag} {room i k:Int} {name:ByteArray}:aH (bM d room i name k)<=aH d+1:=by
 unfold bM
 split
 ·next h =>
  obtain⟨h1,h2⟩:=vI h
  exact Nat.le_of_eq (Bp (oO h1).1 h2)
 ·omega
theorem FN (d:ag) (i:Int):(eZ d i).length=d.length:=by
 unfold eZ
 split
 ·rw[(rN _).length];unfold gG;rw[jl]
 ·rfl
theorem yp {d:ag} {i:Int}:aH (eZ d i)<=aH d:=by
 unfold eZ
 split
 ·next h =>
  have hi:has d i:=by
   unfold gq at h
   split at h
   ·cases h
   ·next e=>exact e
  have h1:=(rN (gG d i)).aH
  have h2:=oh (n:=(nd d i).bT ((nd d i).holds-1)) hi
  have h3:bJ ((nd d i).bT ((nd d i).holds-1))<=bJ (nd d i):=by
   unfold bJ;simp only[Nd.bT];omega
  unfold gG at *
  omega
 ·exact Nat.le_refl _
theorem yq {d:ag} {i:Int} (hi:has d i) (j:Int):nd (gG d i) j=if j=i then(nd d i).bT ((nd d i).holds-1)else nd d j:=gu (bF hi).1 (bF hi).2 _ _
theorem Pu (d:ag) (up:Int->Int) (at':Int) (x:ByteArray) (follow:Bool) (n:Nat):(ck d up at' x follow n).p.name.size<=255:=by
 unfold ck
 split;· exact Nat.zero_le _
 split;· exact Nat.zero_le _
 split;· exact Nat.zero_le _
 split;· exact Nat.zero_le _
 split;· next h _=>exact Nat.le_of_not_lt h
 split;· next h _ _=>exact Nat.le_of_not_lt h
 split;· exact Nat.zero_le _
 next h _ _ _=>exact Nat.le_of_not_lt h
theorem Iz (d:ag) (up:Int->Int) (slash follow:Bool):∀(l:List ByteArray) (at':Int) (n:Nat) (p q:aJ),p.name.size<=255->scan d up slash follow l at' n p=.fin q->q.name.size<=255
 | [],_,_,p,q,hp,h=>by
   unfold scan at h
   cases h
   exact hp
 | x::r,at',n,p,q,hp,h=>by
   unfold scan at h
   simp only at h
   split at h;· cases h
   split at h;· cases h
   split at h;· cases h
   exact Iz d up slash follow r _ _ _ q (Pu _ _ _ _ _ _) h
theorem IA (d:ag) (up:Int->Int) (follow:Bool):∀(fuel:Nat) (from':Int) (s:ByteArray) (n:Nat),(eD d up follow fuel from' s n).1.name.size<=255
 | 0,_,_,_=>by unfold eD;decide
 | fuel+1,from',s,n=>by
   unfold eD
   split;· exact Nat.zero_le _
   split;· exact Nat.zero_le _
   split
   ·next p hp =>
    have:=Iz d up (cg s) follow _ _ _ _ _ (Nat.zero_le _) hp
    unfold jC
    split;· exact this
    split;· exact Nat.zero_le _
    exact this
   ·exact Nat.zero_le _
   ·exact IA d up follow fuel _ _ _
theorem si (d:ag) (at':Int) (s:ByteArray) (follow:Bool):(aQ d at' s follow).1.name.size<=255:=IA _ _ _ _ _ _ _
theorem zG (d:ag) (at':Int) (s:ByteArray) (follow:Bool):(aL d at' s follow).1.name.size<=255:=by
 unfold aL iL
 split;· exact Nat.zero_le _
 split;· exact Nat.zero_le _
 exact si _ _ _ _
theorem IC {d:ag} {at':Int} {s:ByteArray} {follow:Bool} (h:(aL d at' s follow).2=0):aL d at' s follow=aQ d at' s follow∧(aQ d at' s follow).1.node≠0:=by
 unfold aL iL at *
 split at h
 ·next h1=>exact absurd h h1
 ·next h1 =>
  rw[if_neg h1]
  split at h
  ·cases h
  ·next h2=>rw[if_neg h2];exact⟨rfl,h2⟩
theorem uD {d:ag} {at':Int} {s:ByteArray} {slash:Bool} {p:aJ} (h:eE d at' s slash=(p,0)):has d p.dir∧p.name.size<=255∧p.node=0∧p=(aQ d at' s false).1∧cD d p.dir 128=0:=by
 have hsz:=si d at' s false
 unfold eE at h
 split at h
 ·next h1=>rw[Prod.mk.injEq]at h;exact absurd h.2 h1
 split at h
 ·rw[Prod.mk.injEq]at h;exact absurd h.2 (by decide)
 split at h
 ·rw[Prod.mk.injEq]at h;exact absurd h.2 (by decide)
 next h1 h2 h3 =>
 rw[Prod.mk.injEq]at h
 obtain⟨rfl,h4⟩:=h
 refine⟨?_,hsz,Classical.not_not.1 h2,rfl,h4⟩
 unfold cD at h4
 split at h4
 ·cases h4
 ·next hh=>exact Classical.not_not.1 hh
theorem Dd {d:ag} {room kind m:Int} {s:ByteArray} (h:cP d room kind m s=0):iq d room kind m s=d++[aU kind m s]∧lu d room kind m s=d.length:=by
 unfold iq lu
 rw[if_pos h,if_pos h]
 exact⟨rfl,rfl⟩
theorem uE (d:ag) (kind m:Int) (s:ByteArray):aH (d++[aU kind m s])=aH d+2:=by
 rw[Gu]
 rfl
theorem ID {d:ag} {kind m:Int} {s:ByteArray} {i:Int} (hi:has d i):¬cU (d++[aU kind m s]) d.length i:=FM rfl (fun e=>by
 have:=(bF hi)
 omega)
noncomputable def fF (calls fail:Int) (d:ag) (room at' mask:Int) (s:ByteArray) (flags m:Int):ag × Int × Int :=
 if tf flags=true∧eG calls fail≠0 then(d,0,eG calls fail)else jc d room at' mask s flags m
def kJ (calls flags:Int):Int:=if tf flags=true then calls+1 else calls
def NH (d:ag):Prop:=∀i,(nd d i).kind=2->(nd d i).holds=0
def tq (d:ag) (k:Int):Prop:=∀i,i≠k->(nd d i).kind=2->(nd d i).holds=0
section
variable{d d':ag} {room:Int}
theorem tq.all {k:Int} (h:tq d k) (hk:(nd d k).kind=2->(nd d k).holds=0):NH d:=fun i hi=>by
 by_cases e:i=k
 ·subst e;exact hk hi
 ·exact h i e hi
theorem Qo:NH bW:=fun i hi=>by
 rw[qV]at hi ⊢
 split at hi
 ·next e=>rw[if_pos e];rfl
 ·cases hi
def gY (d d':ag):Prop:=∀j,(nd d' j).kind=0∨((nd d' j).kind=(nd d j).kind∧(nd d' j).holds=(nd d j).holds)
theorem gY.refl (d:ag):gY d d:=fun _=>.inr ⟨rfl,rfl⟩
theorem tq.same {k:Int} (h:tq d k) (hs:gY d d'):tq d' k:=fun i hi hk=>by
 rcases hs i with e|⟨e1,e2⟩
 ·rw[e]at hk;cases hk
 ·rw[e2];exact h i hi (by rw[<- e1];exact hk)
theorem NH.same (h:NH d) (hs:gY d d'):NH d':=fun i hk=>by
 rcases hs i with e|⟨e1,e2⟩
 ·rw[e]at hk;cases hk
 ·rw[e2];exact h i (by rw[<- e1];exact hk)
theorem wI (d:ag):gY d (gc d):=fun j=>by
 by_cases h:has (gc d) j
 ·obtain⟨_,e⟩:=(rN d).was h
  exact .inr ⟨by rw[e],by rw[e]⟩
 ·exact .inl (j8 h)
theorem gY.trans {a b c:ag} (h:gY a b) (k:gY b c):gY a c:=fun j=>by
 rcases k j with e|⟨e1,e2⟩
 ·exact .inl e
 ·rcases h j with f|⟨f1,f2⟩
  ·exact .inl (by rw[e1,f])
  ·exact .inr ⟨by rw[e1,f1],by rw[e2,f2]⟩
theorem zX {i:Int} {n:Nd} (hi:has d i) (h1:n.kind=(nd d i).kind) (h2:n.holds=(nd d i).holds):gY d (aX d i n):=fun j=>by
 rw[gu (bF hi).1 (bF hi).2]
 split
 ·next e=>subst e;exact .inr ⟨h1,h2⟩
 ·exact .inr ⟨rfl,rfl⟩
theorem zY {i:Int} (hi:has d i) (es:List aD):gY d (dz d i es):=zX hi rfl rfl
theorem uL (i:Int) (name:ByteArray) (k:Int):gY d (bM d room i name k):=by
 unfold bM
 split
 ·next he=>exact zY (oO (vI he).1).1 _
 ·exact gY.refl _
theorem Jc (i:Int) (name:ByteArray):gY d (iU d i name):=by
 unfold iU
 split
 ·next he =>
  have hl:bH d i name=0:=by
   by_cases e:bH d i name=0
   ·exact e
   ·unfold gF at he
    rw[if_pos e]at he
    exact he
  have hf:=(mI hl).1
  exact(zY (oO hf).1 _).trans (wI _)
 ·exact gY.refl _
theorem Jd (i m:Int):gY d (oo d i m):=by
 unfold oo
 split
 ·next he =>
  have hi:has d i:=fun e=>by unfold ic at he;first|(rw[if_pos e]at he;cases he)|(simp[e]at he)
  exact zX hi rfl rfl
 ·exact gY.refl _
theorem Dp (i:Int):gY d (dD d i):=by
 unfold dD
 split
 ·next he =>
  have hi:has d i:=fun e=>by unfold dM at he;rw[if_pos e]at he;cases he
  exact zX hi rfl rfl
 ·exact gY.refl _
theorem Je (i x:Int) (s:ByteArray):gY d (iy d room i x s):=by
 unfold iy
 split
 ·next he =>
  have hi:has d i:=fun e=>by
   have:=he.1
   unfold iK dM at this
   simp[e]at this
  exact zX hi rfl rfl
 ·exact gY.refl _
theorem Jf (h:NH d) (i:Int):NH (eZ d i):=by
 unfold eZ
 split
 ·next he =>
  refine NH.same ?_ (wI _)
  have hi:has d i:=fun e=>by unfold gq at he;rw[if_pos e]at he;cases he
  have hh:(nd d i).holds≠0:=fun e=>by unfold gq at he;rw[if_neg hi,if_pos e]at he;cases he
  intro j hj
  rw[yq hi]at hj ⊢
  split at hj
  ·next e =>
   exact absurd (h i hj) hh
  ·next e=>rw[if_neg e];exact h j hj
 ·exact h
theorem Jg (h:NH d) (p:aJ) (kind m:Int) (s:ByteArray):NH (gV d room p kind m s).1:=by
 unfold gV
 split
 ·exact h
 ·next he =>
  have hk:=yj (Classical.not_not.1 he)
  unfold qu
  have h1:tq (d++[aU kind m s]) d.length:=fun i hi hkk=>by
   rw[iI,if_neg hi]at hkk ⊢
   exact h i hkk
  have h2:tq (bM (d++[aU kind m s]) room p.dir p.name d.length) d.length:=h1.same (uL _ _ _)
  have h3:nd (d++[aU kind m s]) d.length=aU kind m s:=by rw[iI,if_pos rfl]
  generalize pq:bM (d++[aU kind m s]) room p.dir p.name d.length=d2 at *
  have h4:(nd d2 d.length).kind=0∨((nd d2 d.length).kind=kind∧(nd d2 d.length).holds=1):=by
   rcases(pq▸uL (d:=d++[aU kind m s]) (room:=room) p.dir p.name d.length) (d.length:Int)with e|⟨e1,e2⟩
   ·exact .inl e
   ·rw[h3]at e1 e2
    exact .inr ⟨e1,e2⟩
  unfold eZ
  split
  ·next hr =>
   refine NH.same ?_ (wI _)
   have hi:has d2 d.length:=fun e=>by unfold gq at hr;rw[if_pos e]at hr;cases hr
   intro j hj
   rw[yq hi]at hj ⊢
   split
   ·next e =>
    rcases h4 with e4|⟨_,e4⟩
    ·exact absurd e4 hi
    ·show(nd d2 d.length).holds-1=0
     rw[e4];rfl
   ·next e =>
    rw[if_neg e]at hj
    exact h2 j e hj
  ·next hr =>
   refine h2.all fun hk2=>?_
   rcases h4 with e4|⟨_,e4⟩
   ·rw[e4]at hk2;cases hk2
   ·exfalso
    apply hr
    unfold gq
    rw[if_neg (by rw[hk2];decide),if_neg (by rw[e4];decide)]
theorem Qp (h:NH d) (at' mask:Int) (s:ByteArray) (m:Int):NH (gz d room at' mask s m).1:=by
 unfold gz
 split
 ·exact h
 ·exact Jg h _ _ _ _
theorem Qq (h:NH d) (at':Int) (t s:ByteArray):NH (kg d room at' t s).1:=by
 unfold kg
 split
 ·exact h
 ·split
  ·exact h
  ·exact Jg h _ _ _ _
theorem Qr (h:NH d) (at':Int) (o s:ByteArray):NH (kH d room at' o s).1:=by
 unfold kH
 split
 ·exact h
 ·split
  ·exact h
  ·split
   ·exact h
   ·exact h.same (uL _ _ _)
theorem Jh (h:NH d) (at':Int) (s:ByteArray) (folder:Bool):NH (eI d at' s folder).1:=by
 unfold eI
 split
 ·exact h
 ·exact h.same (Jc _ _)
theorem Ji (f:Int) (name:ByteArray) (t:Int) (other:ByteArray):gY d (iJ d room f name t other):=by
 unfold iJ
 split
 ·next he =>
  have hm:=he.1
  have hl:bH d f name=0:=by
   by_cases e:bH d f name=0
   ·exact e
   ·unfold jA at hm
    rw[if_pos e]at hm
    exact hm
  have hft:aO d t=0:=by
   by_cases e:aO d t=0
   ·exact e
   ·unfold jA at hm
    rw[if_neg (fun h=>h hl),if_pos e]at hm
    exact hm
  have hf:=(oO (mI hl).1).1
  have ht:=(oO hft).1
  have h1:gY d (eM d t other (aN d f name)):=zY ht _
  have h2:Go.Proofs.YtnanhmfpikddkaaGreatDoor.has (eM d t other (aN d f name)) f:=(qc ht _ f).2 hf
  exact(h1.trans (zY h2 _)).trans (wI _)
 ·exact gY.refl _
theorem Qs (h:NH d) (at':Int) (a b:ByteArray):NH (jr d room at' a b).1:=by
 unfold jr
 repeat(first|exact h|exact h.same (Ji _ _ _ _)|split)
theorem Qt (h:NH d) (at':Int) (s:ByteArray) (m:Int):NH (kI d at' s m).1:=by
 unfold kI
 split
 ·exact h
 ·exact h.same (Jd _ _)
theorem Jj (h:NH d) {i:Int} (hi:(nd d i).kind≠2):NH (eJ d i):=by
 unfold eJ
 split
 ·next hh =>
  intro j hj
  unfold kW at hj ⊢
  rw[gu (bF hh).1 (bF hh).2]at hj ⊢
  split at hj
  ·next e=>exact absurd hj hi
  ·next e=>rw[if_neg e];exact h j hj
 ·exact h
theorem Qu (h:NH d) (mask:Int) (p:aJ) (s:ByteArray) (flags m:Int):NH (fL d room mask p s flags m).1:=by
 have h1:NH (d++[aU 1 (bO m mask) ⟨#[]⟩]):=fun i hi=>by
  rw[iI]at hi ⊢
  split at hi
  ·cases hi
  ·next e=>rw[if_neg e];exact h i hi
 unfold fL
 repeat(first|exact h|exact Jf (h1.same (uL _ _ _)) _|exact h1.same (uL _ _ _)|split)
theorem Qv (h:NH d) (id flags:Int):NH (fM d id flags).1:=by
 unfold fM
 split
 ·exact h
 ·next he =>
  have hk:(nd d id).kind=1:=by
   have he':=Classical.not_not.1 he
   unfold oD at he'
   by_cases e2:(nd d id).kind=2
   ·rw[if_pos e2]at he';cases he'
   rw[if_neg e2]at he'
   by_cases e1:(nd d id).kind≠1
   ·rw[if_pos e1]at he';cases he'
   exact Classical.not_not.1 e1
  show NH (eJ (if bg flags 8=true then dD d id else d) id)
  split
  ·refine Jj (h.same (Dp id)) ?_
   rcases Dp (d:=d) id id with e|⟨e,_⟩
   ·rw[e];decide
   ·rw[e,hk];decide
  ·exact Jj h (by rw[hk];decide)
theorem Qw (h:NH d) (at' mask:Int) (s:ByteArray) (flags m:Int):NH (jc d room at' mask s flags m).1:=by
 unfold jc
 repeat(first|exact h|exact Qu h _ _ _ _ _|exact Qv h _ _|split)
theorem pz (h:NH d) (hI:aG d) (hcl:bK d): ∀i u,aO d i=0->kY d i u->iA d i=u:=by
 intro i u hf hu
 have hk:(nd d i).kind=2:=by
  unfold aO at hf
  by_cases e:(nd d i).kind=0
  ·rw[if_pos e]at hf;cases hf
  rw[if_neg e]at hf
  by_cases e2:(nd d i).kind=2
  ·exact e2
  ·rw[if_neg e2]at hf;cases hf
 by_cases h1:i=1
 ·subst h1
  rcases hu with⟨_,rfl⟩|⟨e,he,h2⟩
  ·unfold iA;rw[if_pos rfl]
  ·exact absurd h2 (hI.tgt u e he).2
 rcases hu with⟨hc,_⟩|⟨e,he,h2⟩
 ·exfalso
  refine hcl i ⟨?_,?_,h i hk⟩
  ·unfold has;rw[hk];decide
  ·unfold links;rw[if_neg h1,hc]
 ·exact De hI h1 ⟨hk,e,he,h2⟩ (fun a b=>hI.uq a b)
theorem Qx (h:NH d) (i x:Int) (s:ByteArray):NH (iy d room i x s):=h.same (Je _ _ _)
end
theorem FO {d:ag} {room i k:Int} {name:ByteArray} (h:cH d room i name k=0):aO d i=0∧has d k∧((nd d k).kind=2->links d k=0)∧bw (nd d i).ah name=0:=by
 obtain⟨h1,h2⟩:=vI h
 refine⟨h1,?_,?_,h2⟩
 ·intro h0
  unfold cH at h
  rw[if_neg (by rw[h1];simp),if_pos h0]at h
  cases h
 ·intro hk
  unfold cH at h
  rw[if_neg (by rw[h1];simp)]at h
  split at h;· cases h
  split at h;· cases h
  ·next e=>exact Nat.eq_zero_of_not_pos fun hp=>e ⟨hk,hp⟩
theorem MF {d:ag} {room kind m:Int} {s:ByteArray} (h:cP d room kind m s=0):iV (aU kind m s):=by
 obtain⟨k1,k2⟩:=yj h
 unfold cP at h
 rw[if_neg (by omega),if_neg (by omega)]at h
 split at h;· cases h
 next h2 =>
 split at h;· cases h
 next hm =>
 split at h;· cases h
 next hs =>
 have hmo:0<=m∧m<=4095:=by simpa[ia]using hm
 have hd:kind=2->s=⟨#[]⟩:=fun e=>by
  have h0:s.size=0:=Classical.not_not.1 fun h=>h2 ⟨e,h⟩
  exact qL (List.eq_nil_of_length_eq_zero (by simpa using h0))
 exact⟨by show 0<=kind;omega,k2,fun e=>by have e:kind=0:=e;omega,hmo.1,hmo.2,(by show(0:Int)<=1;decide),by show s.size<=_;omega,hd,fun _=>rfl,List.Pairwise.nil,(fun _ h=>by cases h)⟩
theorem Si (d:ag):aH (gc d)<=aH d:=(rN d).aH
theorem Sj {d:ag} {i:Int} {n:Nd} (hi:has d i) (hm:bJ n<=bJ (nd d i)+1):aH (aX d i n)<=aH d+1:=by
 have:=oh (n:=n) hi
 omega
theorem Ei {d:ag} {i:Int} {n:Nd} (hi:has d i) (hm:bJ n<=bJ (nd d i)):aH (aX d i n)<=aH d:=by
 have:=oh (n:=n) hi
 omega
section
variable{d:ag} {room:Int}
theorem KD (i:Int):aH (eJ d i)<=aH d+1:=by
 unfold eJ
 split
 ·next hi=>exact Sj (n:=(nd d i).bT ((nd d i).holds+1)) hi (by unfold bJ;simp only[Nd.bT];omega)
 ·omega
theorem Sk (i m:Int):aH (oo d i m)<=aH d:=by
 unfold oo
 split
 ·next he =>
  have hi:has d i:=by
   unfold ic at he
   split at he
   ·cases he
   ·next h=>exact h
  exact Ei (n:=(nd d i).gS m) hi (Nat.le_refl _)
 ·exact Nat.le_refl _
theorem Ej (i:Int):aH (dD d i)<=aH d:=by
 unfold dD
 split
 ·next hf=>exact Ei (n:=(nd d i).dN ⟨#[]⟩) (m8 hf).1 (Nat.le_refl _)
 ·exact Nat.le_refl _
theorem Sm (i x:Int) (s:ByteArray):aH (iy d room i x s)<=aH d:=by
 unfold iy
 split
 ·next he =>
  have hi:has d i:=by
   have h1:=he.1
   unfold iK at h1
   split at h1
   ·next e=>exact absurd h1 e
   ·next e=>exact(m8 (Classical.not_not.1 e)).1
  exact Ei (n:=iw (nd d i) x.toNat s) hi (Nat.le_refl _)
 ·exact Nat.le_refl _
theorem Sn (hI:aG d) (i:Int) (name:ByteArray):aH (iU d i name)<=aH d:=by
 unfold iU
 split
 ·next he =>
  have h0:bH d i name=0:=by
   unfold gF at he
   split at he
   ·next e=>exact absurd he e
   ·next e=>exact Classical.not_not.1 e
  obtain⟨f0,hg⟩:=mI h0
  have:=ur hI (fD f0).1 hg
  have:=Si (aZ d i name)
  omega
 ·exact Nat.le_refl _
theorem KE (p:aJ) (kind m:Int) (s:ByteArray):aH (gV d room p kind m s).1<=aH d+3:=by
 unfold gV qu
 split
 ·exact Nat.le_add_right _ _
 ·have h1:=yp (d:=bM (d++[aU kind m s]) room p.dir p.name d.length) (i:=d.length)
  have h2:=yo (d:=d++[aU kind m s]) (room:=room) (i:=p.dir) (k:=d.length) (name:=p.name)
  rw[uE]at h2
  exact Nat.le_trans h1 h2
theorem Jq (at' mask:Int) (s:ByteArray) (m:Int):aH (gz d room at' mask s m).1<=aH d+3:=by
 unfold gz
 split
 ·exact Nat.le_add_right _ _
 ·exact KE _ _ _ _
theorem QY (at':Int) (t s:ByteArray):aH (kg d room at' t s).1<=aH d+3:=by
 unfold kg
 split
 ·exact Nat.le_add_right _ _
 split
 ·exact Nat.le_add_right _ _
 ·exact KE _ _ _ _
theorem QZ (at':Int) (o s:ByteArray):aH (kH d room at' o s).1<=aH d+1:=by
 unfold kH
 split
 ·exact Nat.le_add_right _ _
 split
 ·exact Nat.le_add_right _ _
 split
 ·exact Nat.le_add_right _ _
 ·exact yo
theorem Jx (hI:aG d) (at':Int) (s:ByteArray) (folder:Bool):aH (eI d at' s folder).1<=aH d:=by
 unfold eI
 split
 ·exact Nat.le_refl _
 ·exact Sn hI _ _
theorem Q1 (at':Int) (s:ByteArray) (m:Int):aH (kI d at' s m).1<=aH d:=by
 unfold kI
 split
 ·exact Nat.le_refl _
 ·exact Sk _ _
theorem Sp (mask:Int) (p:aJ) (s:ByteArray) (flags m:Int):aH (fL d room mask p s flags m).1<=aH d+3:=by
 have h2:=yo (d:=d++[aU 1 (bO m mask) ⟨#[]⟩]) (room:=room) (i:=p.dir) (k:=d.length) (name:=p.name)
 rw[uE]at h2
 unfold fL
 split
 ·exact Nat.le_add_right _ _
 split
 ·exact Nat.le_add_right _ _
 split
 ·exact Nat.le_add_right _ _
 split
 ·exact Nat.le_add_right _ _
 split
 ·exact Nat.le_trans yp h2
 ·exact h2
theorem Sq (id flags:Int):aH (fM d id flags).1<=aH d+1:=by
 unfold fM
 split
 ·exact Nat.le_add_right _ _
 ·split
  ·have h1:=KD (d:=dD d id) id
   have h2:=Ej (d:=d) id
   simp only
   omega
  ·exact KD _
theorem Sr (at' mask:Int) (s:ByteArray) (flags m:Int):aH (jc d room at' mask s flags m).1<=aH d+3:=by
 unfold jc
 split
 ·exact Nat.le_add_right _ _
 split
 ·exact Sp _ _ _ _ _
 split
 ·exact Nat.le_add_right _ _
 ·have:=Sq (d:=d) (aQ d at' s (!ni flags)).1.node flags
  omega
end
section
variable{d:ag} {room kind m:Int} {s:ByteArray}
theorem Ek (hI:aG d) (hcl:bK d) (he:cP d room kind m s=0):aG (d++[aU kind m s])∧bK (d++[aU kind m s])∧aH (d++[aU kind m s])<=aH d+2:=by
 have hok:=MF he
 obtain⟨k1,k2⟩:=yj he
 have bS:(aU kind m s).kind≠0:=by show kind≠0;omega
 refine⟨hI.add bS hok rfl,Gs hcl rfl (by show(1:Int)≠0;decide),?_⟩
 exact Nat.le_of_eq (uE d kind m s)
theorem KF (hI:aG d) (hcl:bK d) (he:cP d room kind m s=0) {i:Int} (hi:i≠d.length) (name:ByteArray) :
 aG (bM (d++[aU kind m s]) room i name d.length)∧bK (bM (d++[aU kind m s]) room i name d.length)∧aH (bM (d++[aU kind m s]) room i name d.length)<=aH d+3:=by
 obtain⟨sB,KG,bU⟩:=Ek hI hcl he
 have hab:¬cU (d++[aU kind m s]) d.length i:=FM rfl (by omega)
 have hms:=yo (d:=d++[aU kind m s]) (room:=room) (i:=i) (name:=name) (k:=d.length)
 generalize d++[aU kind m s]=d1 at *
 unfold bM at hms ⊢
 split
 ·next e =>
  rw[if_pos e]at hms
  obtain⟨e1,e2,e3,e4⟩:=FO e
  have hf:=oO e1
  refine⟨GH sB hf.2 e2 e3 e4 (fun _=>hab),?_,by omega⟩
  rintro j ⟨h1,h2,h3⟩
  have hkk:∀j,(nd (bN d1 i name d.length) j).kind=(nd d1 j).kind∧(nd (bN d1 i name d.length) j).holds=(nd d1 j).holds:=fun j=>by
   unfold bN
   rw[lW hf.1]
   split
   ·next e=>subst e;exact⟨rfl,rfl⟩
   ·exact⟨rfl,rfl⟩
  have hl:=Ch (k:=(d.length:Int)) hf.1 e4 j
  refine KG j ⟨?_,by omega,by rw[<- (hkk j).2];exact h3⟩
  unfold has at h1 ⊢
  rw[<- (hkk j).1]
  exact h1
 ·exact⟨sB,KG,by omega⟩
end
end Go.Proofs.YtnanhmfpikddkaaGreatDoor
set_option maxHeartbeats 8000000
namespace Go.Proofs.YtnanhmfpikddkaaGreatDoor
open Go Go.RowKit
def NI (S:Nat->Prop) (L:List Nat) (g:Nat):Prop:=S g∧∀x∈L,g≠x
theorem NI.new {S:Nat->Prop} {L:List Nat} {w w':World} (hS:∀g,w.heap.size<=g->S g) (k:aa af w w') (hL:∀x∈L,x<w'.heap.size):∀g,w'.heap.size<=g->NI S L g:=fun g hg =>
 ⟨hS g (Nat.le_trans k.size hg),fun x hx e=>by have:=hL x hx;omega⟩
def l8 (S:Nat->Prop) (w:World) (X:ag × Int) (room calls fail:Int):Ending->World->Prop:=fun e w' =>
 ∃p' c',e=.returned (.tuple #[fV p' c' X.1.length room calls fail,.int .i64 X.2])∧aI S w' p' c' X.1∧aa af w w'
section
variable{S:Nat->Prop} {w wx wy:World} {p:Option Addr} {c:Nat} {d:ag} {room calls fail:Int} {L:List Nat}
theorem aI.drop (h:aI (NI S L) w p c d):aI S w p c d:=h.cN (aa.refl af w) (fun _ _ _ h=>h) (fun g hg _=>hg.1)
theorem aI.more (h:aI (NI S L) w p c d) (k:aa af w wx) (b:Nat) (hb:w.heap.size<=b):aI (NI S (b::L)) wx p c d :=
 h.cN k (fun _ _ _ h=>h) (fun g hg hl=>⟨hg.1,fun x hx e=>by
  rcases List.mem_cons.1 hx with rfl|hx
  ·omega
  ·exact hg.2 x hx e⟩)
theorem aI.put {b:Nat} (h:aI (NI S L) w p c d) (k:aa (fun g=>g=b) w wx) (hb:b∈L):aI (NI S L) wx p c d:=h.cN k (fun g hg _ e=>hg.2 b hb e) (fun _ hg _=>hg)
theorem aI.first (h:aI S w p c d) (k:aa af w wx) (hL:∀x∈L,w.heap.size<=x):aI (NI S L) wx p c d:=h.cN k (fun _ _ _ h=>h) (fun g hg hl=>⟨hg,fun x hx e=>by have:=hL x hx;omega⟩)
theorem DV (d:ag) (i:Int):jS d i (-1)=gq d i:=by
 unfold jS gq has
 by_cases hi:(nd d i).kind=0
 ·rw[if_pos hi,if_neg (fun h=>h.1 hi)]
 ·by_cases hh:(nd d i).holds=0
  ·rw[if_neg hi,if_pos hh,if_neg (fun h=>h.2.elim (by decide) (fun h=>h hh))]
  ·rw[if_neg hi,if_neg hh,if_pos ⟨hi,.inr hh⟩]
theorem LQ (h:aI S w p c d) (hS:∀g,w.heap.size<=g->S g) (hI:aG d) (hcl:bK d) (hms:aH d+4<=2147483648) (P:aJ) (hP:P.dir≠d.length) (EZ:P.name.size<=255) (kind m:Int) (s:ByteArray) (hsz:s.size<=4294967296) :
 Calls Tryz.prog 83 #[fV p c d.length room calls fail,.agg #[.int .i64 P.node,.int .i64 P.dir,.string P.name],.int .i64 kind,.int .i64 m,.string s] w (l8 S w (gV d room P kind m s) room calls fail):=by
 obtain⟨pn,pd,pm⟩:=P
 simp only at hP EZ ⊢
 have eC:aP d:=by unfold aP;omega
 have hcap:=h.cap
 have hmax:=h.max
 unfold maxLen at hmax
 have HH:=Lib.hid h
 have HS:=Lib.hid hS
 unfold fV
 obtain⟨X,hX⟩:∃X,gV d room ⟨pn,pd,pm⟩ kind m s=X:=⟨_,rfl⟩
 rw[hX]
 replace hX:=Lib.hid hX
 go_enter Tryz.func83,Tryz.ntmps83
 go_upto_region 1 with fail
 have HF:=Lib.hid (F6.new w (.slice p d.length c) room calls fail #[.int .i64 pn,.int .i64 pd,.string pm] #[.slice none 0 0,.int .i64 0,.int .i64 0,.int .i64 0] 39 82 39)
 generalize((w.alloc (.cells #[.slice p d.length c,.int .i64 room,.int .i64 calls,.int .i64 fail] 39)).alloc (.cells #[.int .i64 pn,.int .i64 pd,.string pm] 82)).alloc (.cells #[.slice none 0 0,.int .i64 0,.int .i64 0,.int .i64 0] 39)=w0 at *
 have oM:=Lib.hid (h.first (L:=[w.heap.size,w.heap.size+1,w.heap.size+1+1]) HF.out.k (by simp;omega))
 have jd:=Lib.hid (EP (room:=room) oM.out (NI.new hS HF.out.k (by have:=HF.out.b2.lt;simp;omega)) hI eC kind m s hsz)
 clear h hS
 have f0:=HF.out.b0.cell 0 _ rfl;have f1:=HF.out.b0.cell 1 _ rfl;have f2:=HF.out.b0.cell 2 _ rfl;have f3:=HF.out.b0.cell 3 _ rfl;have u0:=HF.out.b1.cell 0 _ rfl;have u1:=HF.out.b1.cell 1 _ rfl;have u2:=HF.out.b1.cell 2 _ rfl;have ak:=HF.out.b2.cell 0 _ rfl;have aq:=HF.out.b2.cell 1 _ rfl;have au:=HF.out.b2.cell 2 _ rfl;have aB:=HF.out.b2.cell 3 _ rfl;have ay:=HF.out.b0.lt;have av:=HF.out.b2.lt;have aA:=HF.out.b0.fz;have ax:=HF.out.b2.fz
 unfold tM aE at jd
 by_cases he:cP d room kind m s=0
 case neg =>
  have hb:(cP d room kind m s != 0)=true:=by simpa using he
  have e1:iq d room kind m s=d:=by unfold iq;rw[if_neg he]
  have e2:gV d room ⟨pn,pd,pm⟩ kind m s=(d,cP d room kind m s):=by unfold gV;rw[if_pos he]
  rw[e1]at jd
  obtain rfl:X=(d,cP d room kind m s):=hX.out.symm.trans e2
  clear e1 e2 he hX
  generalize cP d room kind m s=ee at *
  generalize lu d room kind m s=ii at *
  go_upto_region 2 with(go_at_call 117;go_loud(refine jd.out.mono ?_);rintro e w1 ⟨p1,c1,rfl,hr1,hkn⟩;(clear f0 f1 f2 f3 u0 u1 u2 ak aq au aB ay av aA ax;replace HF:=Lib.hid (HF.out.on hkn);have f0:=HF.out.b0.cell 0 _ rfl;have f1:=HF.out.b0.cell 1 _ rfl;have f2:=HF.out.b0.cell 2 _ rfl;have f3:=HF.out.b0.cell 3 _ rfl;have u0:=HF.out.b1.cell 0 _ rfl;have u1:=HF.out.b1.cell 1 _ rfl;have u2:=HF.out.b1.cell 2 _ rfl;have ak:=HF.out.b2.cell 0 _ rfl;have aq:=HF.out.b2.cell 1 _ rfl;have au:=HF.out.b2.cell 2 _ rfl;have aB:=HF.out.b2.cell 3 _ rfl;have ay:=HF.out.b0.lt;have av:=HF.out.b2.lt;have aA:=HF.out.b0.fz;have ax:=HF.out.b2.fz))
  replace HF:=Lib.hid (HF.out.on ((aa.refl af w1).alloc (.cells #[.slice p1 d.length c1,.int .i64 room] 37)))
  clear f0 f1 f2 f3 u0 u1 u2 ak aq au aB ay av aA ax
  generalize w1.alloc (.cells #[.slice p1 d.length c1,.int .i64 room] 37)=w2 at *
  have f0:=HF.out.b0.cell 0 _ rfl;have f1:=HF.out.b0.cell 1 _ rfl;have f2:=HF.out.b0.cell 2 _ rfl;have f3:=HF.out.b0.cell 3 _ rfl;have u0:=HF.out.b1.cell 0 _ rfl;have u1:=HF.out.b1.cell 1 _ rfl;have u2:=HF.out.b1.cell 2 _ rfl;have ak:=HF.out.b2.cell 0 _ rfl;have aq:=HF.out.b2.cell 1 _ rfl;have au:=HF.out.b2.cell 2 _ rfl;have aB:=HF.out.b2.cell 3 _ rfl;have ay:=HF.out.b0.lt;have av:=HF.out.b2.lt;have aA:=HF.out.b0.fz;have ax:=HF.out.b2.fz
  go_wp2_with fail
  refine bodyPost_ret (v:=.tuple #[.agg #[.slice p d.length c,.int .i64 room,.int .i64 calls,.int .i64 fail],.int .i64 ee]) ?_ rfl ⟨p,c,rfl,HH.out.ai (HF.out.fin _ _ _ _),HF.out.fin _ _ _ _⟩
  rw[cL rfl]
  go_simp
 case pos =>
  obtain⟨m1,m2,m3⟩:=Ek hI hcl he
  obtain⟨n1,n2,n3⟩:=KF hI hcl he hP pm
  have e1:iq d room kind m s=d++[aU kind m s]:=by unfold iq;rw[if_pos he]
  have e3:lu d room kind m s=d.length:=by unfold lu;rw[if_pos he]
  have e2:gV d room ⟨pn,pd,pm⟩ kind m s=(eZ (bM (d++[aU kind m s]) room pd pm d.length) d.length,cH (d++[aU kind m s]) room pd pm d.length):=by
   unfold gV qu
   rw[if_neg (fun h=>h he)]
  have hl1:(d++[aU kind m s]).length=d.length+1:=by simp
  have hl2:(bM (d++[aU kind m s]) room pd pm d.length).length=d.length+1:=by rw[Bo,hl1]
  have gX:∀(wx:World) (p2:Option Addr) (c2:Nat) (L:List Nat),aI (NI S L) wx p2 c2 (bM (d++[aU kind m s]) room pd pm d.length)->(∀g,wx.heap.size<=g->NI S L g) ->
   Calls Tryz.prog 102 #[aE p2 c2 (bM (d++[aU kind m s]) room pd pm d.length) room,.int .i64 d.length,.int .i64 (-1)] wx (eH (NI S L) wx (eZ (bM (d++[aU kind m s]) room pd pm d.length) d.length) room (gq (bM (d++[aU kind m s]) room pd pm d.length) d.length)):=fun wx p2 c2 L hr hN=>by
   have:=tF (room:=room) hr hN n1 n2 (by omega) (d.length:Int) (-1) (.inr rfl)
   rw[DV]at this
   exact this
  have hr2:∀(wx:World) (p2:Option Addr) (c2:Nat) (L:List Nat),aI (NI S L) wx p2 c2 (d++[aU kind m s])->(∀g,wx.heap.size<=g->NI S L g) ->
   Calls Tryz.prog 86 #[aE p2 c2 (d++[aU kind m s]) room,.int .i64 pd,.string pm,.int .i64 d.length] wx (eH (NI S L) wx (bM (d++[aU kind m s]) room pd pm d.length) room (cH (d++[aU kind m s]) room pd pm d.length)):=fun wx p2 c2 L hr hN =>
   EC (room:=room) hr hN m1 (by unfold aP;omega) pd pm d.length (by unfold maxLen;omega)
  have oz:(eZ (bM (d++[aU kind m s]) room pd pm d.length) d.length).length<=2147483648:=by
   have:=jm (eZ (bM (d++[aU kind m s]) room pd pm d.length) d.length)
   have:=yp (d:=bM (d++[aU kind m s]) room pd pm d.length) (i:=(d.length:Int))
   omega
  rw[e1,e3,he]at jd
  obtain rfl:X=_:=hX.out.symm.trans e2
  clear hX
  replace hr2:=Lib.hid hr2
  replace gX:=Lib.hid gX
  clear e1 e2 e3 he m1 m2 m3 n1 n2 n3 hI hcl hms hP eC
  generalize gq (bM (d++[aU kind m s]) room pd pm d.length) d.length=re at *
  generalize cH (d++[aU kind m s]) room pd pm d.length=ee at *
  generalize eZ (bM (d++[aU kind m s]) room pd pm d.length) d.length=d3 at *
  generalize bM (d++[aU kind m s]) room pd pm d.length=d2 at *
  generalize d++[aU kind m s]=d1 at *
  unfold eH aE at hr2 gX
  rw[hl1]at jd hr2
  rw[hl2]at gX
  go_upto_region 2 with(go_at_call 117;go_loud(refine jd.out.mono ?_);rintro e w1 ⟨p1,c1,rfl,hr1,hkn⟩;(clear f0 f1 f2 f3 u0 u1 u2 ak aq au aB ay av aA ax;replace HF:=Lib.hid (HF.out.on hkn);have f0:=HF.out.b0.cell 0 _ rfl;have f1:=HF.out.b0.cell 1 _ rfl;have f2:=HF.out.b0.cell 2 _ rfl;have f3:=HF.out.b0.cell 3 _ rfl;have u0:=HF.out.b1.cell 0 _ rfl;have u1:=HF.out.b1.cell 1 _ rfl;have u2:=HF.out.b1.cell 2 _ rfl;have ak:=HF.out.b2.cell 0 _ rfl;have aq:=HF.out.b2.cell 1 _ rfl;have au:=HF.out.b2.cell 2 _ rfl;have aB:=HF.out.b2.cell 3 _ rfl;have ay:=HF.out.b0.lt;have av:=HF.out.b2.lt;have aA:=HF.out.b0.fz;have ax:=HF.out.b2.fz))
  have xG:w.heap.size+3<=w1.heap.size:=by omega
  replace HF:=Lib.hid (HF.out.on ((aa.refl af w1).alloc (.cells #[.slice p1 (d.length+1) c1,.int .i64 room] 37)))
  have HD:=Lib.hid (Bk.new (aa.refl af (w1.alloc (.cells #[.slice p1 (d.length+1) c1,.int .i64 room] 37))))
  have HR:=Lib.hid (hr1.more ((aa.refl af w1).alloc (.cells #[.slice p1 (d.length+1) c1,.int .i64 room] 37)) w1.heap.size (Nat.le_refl _))
  clear f0 f1 f2 f3 u0 u1 u2 ak aq au aB ay av aA ax
  clear hr1 hkn jd oM
  generalize w1.alloc (.cells #[.slice p1 (d.length+1) c1,.int .i64 room] 37)=w2 at *
  generalize w1.heap.size=DB at *
  -- Enter
  have HE:=Lib.hid (hr2.out w2 p1 c1 _ HR.out (NI.new HS.out HF.out.k (by have:=HF.out.b2.lt;have:=HD.out.lt;simp;omega)))
  have f0:=HF.out.b0.cell 0 _ rfl;have f1:=HF.out.b0.cell 1 _ rfl;have f2:=HF.out.b0.cell 2 _ rfl;have f3:=HF.out.b0.cell 3 _ rfl;have u0:=HF.out.b1.cell 0 _ rfl;have u1:=HF.out.b1.cell 1 _ rfl;have u2:=HF.out.b1.cell 2 _ rfl;have ak:=HF.out.b2.cell 0 _ rfl;have aq:=HF.out.b2.cell 1 _ rfl;have au:=HF.out.b2.cell 2 _ rfl;have aB:=HF.out.b2.cell 3 _ rfl;have ay:=HF.out.b0.lt;have av:=HF.out.b2.lt;have aA:=HF.out.b0.fz;have ax:=HF.out.b2.fz
  have e0:=HD.out.cell 0 _ rfl
  have e1:=HD.out.cell 1 _ rfl
  go_upto_region 5 with(go_at_call 86;go_loud(refine HE.out.mono ?_);rintro e w3 ⟨p2,c2,rfl,hr,hkn⟩;clear e0 e1;replace HD:=Lib.hid (HD.out.on hkn);have e0:=HD.out.cell 0 _ rfl;have e1:=HD.out.cell 1 _ rfl;have el:=HD.out.lt;have ef:=HD.out.fz;(clear f0 f1 f2 f3 u0 u1 u2 ak aq au aB ay av aA ax;replace HF:=Lib.hid (HF.out.on hkn);have f0:=HF.out.b0.cell 0 _ rfl;have f1:=HF.out.b0.cell 1 _ rfl;have f2:=HF.out.b0.cell 2 _ rfl;have f3:=HF.out.b0.cell 3 _ rfl;have u0:=HF.out.b1.cell 0 _ rfl;have u1:=HF.out.b1.cell 1 _ rfl;have u2:=HF.out.b1.cell 2 _ rfl;have ak:=HF.out.b2.cell 0 _ rfl;have aq:=HF.out.b2.cell 1 _ rfl;have au:=HF.out.b2.cell 2 _ rfl;have aB:=HF.out.b2.cell 3 _ rfl;have ay:=HF.out.b0.lt;have av:=HF.out.b2.lt;have aA:=HF.out.b0.fz;have ax:=HF.out.b2.fz))
  replace HF:=Lib.hid (HF.out.beside xG (eV w3 DB (.slice p2 (d.length+1) c2) (.int .i64 room)))
  replace HD:=Lib.hid ((HD.out.put 0 (.slice p2 (d.length+1) c2)).put 1 (.int .i64 room))
  replace HR:=Lib.hid (hr.put (eV w3 DB (.slice p2 (d.length+1) c2) (.int .i64 room)) (by simp))
  clear f0 f1 f2 f3 u0 u1 u2 ak aq au aB ay av aA ax
  clear hr hkn HE hr2 e0 e1 el ef
  generalize(w3.setCell ⟨DB,0,none⟩ (.slice p2 (d.length+1) c2)).setCell ⟨DB,1,none⟩ (.int .i64 room)=w4 at *
  -- Hold
  have HE:=Lib.hid (gX.out w4 p2 c2 _ HR.out (NI.new HS.out HF.out.k (by have:=HF.out.b2.lt;have:=HD.out.lt;simp;omega)))
  have f0:=HF.out.b0.cell 0 _ rfl;have f1:=HF.out.b0.cell 1 _ rfl;have f2:=HF.out.b0.cell 2 _ rfl;have f3:=HF.out.b0.cell 3 _ rfl;have u0:=HF.out.b1.cell 0 _ rfl;have u1:=HF.out.b1.cell 1 _ rfl;have u2:=HF.out.b1.cell 2 _ rfl;have ak:=HF.out.b2.cell 0 _ rfl;have aq:=HF.out.b2.cell 1 _ rfl;have au:=HF.out.b2.cell 2 _ rfl;have aB:=HF.out.b2.cell 3 _ rfl;have ay:=HF.out.b0.lt;have av:=HF.out.b2.lt;have aA:=HF.out.b0.fz;have ax:=HF.out.b2.fz
  have e0:=HD.out.cell 0 _ rfl
  have e1:=HD.out.cell 1 _ rfl
  go_upto_region 6 with(go_at_call 102;go_loud(refine HE.out.mono ?_);rintro e w5 ⟨p3,c3,rfl,hr,hkn⟩;clear e0 e1;replace HD:=Lib.hid (HD.out.on hkn);have e0:=HD.out.cell 0 _ rfl;have e1:=HD.out.cell 1 _ rfl;have el:=HD.out.lt;have ef:=HD.out.fz;(clear f0 f1 f2 f3 u0 u1 u2 ak aq au aB ay av aA ax;replace HF:=Lib.hid (HF.out.on hkn);have f0:=HF.out.b0.cell 0 _ rfl;have f1:=HF.out.b0.cell 1 _ rfl;have f2:=HF.out.b0.cell 2 _ rfl;have f3:=HF.out.b0.cell 3 _ rfl;have u0:=HF.out.b1.cell 0 _ rfl;have u1:=HF.out.b1.cell 1 _ rfl;have u2:=HF.out.b1.cell 2 _ rfl;have ak:=HF.out.b2.cell 0 _ rfl;have aq:=HF.out.b2.cell 1 _ rfl;have au:=HF.out.b2.cell 2 _ rfl;have aB:=HF.out.b2.cell 3 _ rfl;have ay:=HF.out.b0.lt;have av:=HF.out.b2.lt;have aA:=HF.out.b0.fz;have ax:=HF.out.b2.fz))
  replace HF:=Lib.hid (HF.out.beside xG (eV w5 DB (.slice p3 d3.length c3) (.int .i64 room)))
  replace HD:=Lib.hid ((HD.out.put 0 (.slice p3 d3.length c3)).put 1 (.int .i64 room))
  replace HR:=Lib.hid (hr.put (eV w5 DB (.slice p3 d3.length c3) (.int .i64 room)) (by simp))
  clear f0 f1 f2 f3 u0 u1 u2 ak aq au aB ay av aA ax
  clear hr hkn HE gX e0 e1 el ef
  generalize(w5.setCell ⟨DB,0,none⟩ (.slice p3 d3.length c3)).setCell ⟨DB,1,none⟩ (.int .i64 room)=w6 at *
  have f0:=HF.out.b0.cell 0 _ rfl;have f1:=HF.out.b0.cell 1 _ rfl;have f2:=HF.out.b0.cell 2 _ rfl;have f3:=HF.out.b0.cell 3 _ rfl;have u0:=HF.out.b1.cell 0 _ rfl;have u1:=HF.out.b1.cell 1 _ rfl;have u2:=HF.out.b1.cell 2 _ rfl;have ak:=HF.out.b2.cell 0 _ rfl;have aq:=HF.out.b2.cell 1 _ rfl;have au:=HF.out.b2.cell 2 _ rfl;have aB:=HF.out.b2.cell 3 _ rfl;have ay:=HF.out.b0.lt;have av:=HF.out.b2.lt;have aA:=HF.out.b0.fz;have ax:=HF.out.b2.fz
  have e0:=HD.out.cell 0 _ rfl
  have e1:=HD.out.cell 1 _ rfl
  go_upto_region 7 with fail
  replace HR:=Lib.hid (HR.out.put (eV w6 w.heap.size (.slice p3 d3.length c3) (.int .i64 room)) (by simp))
  replace HF:=Lib.hid (HF.out.lK (.slice p3 d3.length c3) room)
  clear f0 f1 f2 f3 u0 u1 u2 ak aq au aB ay av aA ax
  clear e0 e1
  generalize(w6.setCell ⟨w.heap.size,0,none⟩ (.slice p3 d3.length c3)).setCell ⟨w.heap.size,1,none⟩ (.int .i64 room)=w7 at *
  have f0:=HF.out.b0.cell 0 _ rfl;have f1:=HF.out.b0.cell 1 _ rfl;have f2:=HF.out.b0.cell 2 _ rfl;have f3:=HF.out.b0.cell 3 _ rfl;have u0:=HF.out.b1.cell 0 _ rfl;have u1:=HF.out.b1.cell 1 _ rfl;have u2:=HF.out.b1.cell 2 _ rfl;have ak:=HF.out.b2.cell 0 _ rfl;have aq:=HF.out.b2.cell 1 _ rfl;have au:=HF.out.b2.cell 2 _ rfl;have aB:=HF.out.b2.cell 3 _ rfl;have ay:=HF.out.b0.lt;have av:=HF.out.b2.lt;have aA:=HF.out.b0.fz;have ax:=HF.out.b2.fz
  go_wp2_with fail
  refine bodyPost_ret (v:=.tuple #[.agg #[.slice p3 d3.length c3,.int .i64 room,.int .i64 calls,.int .i64 fail],.int .i64 ee]) ?_ rfl ⟨p3,c3,rfl,(HR.out.put (gB w7 (w.heap.size+1+1) _ _ _ _) (by simp)).drop,HF.out.fin _ _ _ _⟩
  rw[cL rfl]
  go_simp
end
set_option maxHeartbeats 2000000
theorem U5 (s:ByteArray) (h1:¬s=⟨#[]⟩) (h2:¬4095<s.size):cO s=if hasB s 0 then 11 else 0:=by
 unfold cO
 rw[if_neg h1,if_neg h2]
 have:=yz s 0
 by_cases hb:hasB s 0=true
 ·rw[if_pos hb,if_pos]
  have:¬jx s 0<0:=fun h=>by rw[this.1 h]at hb;cases hb
  omega
 ·rw[if_neg hb,if_neg]
  have:=this.2 (by simpa using hb)
  omega
theorem U6 (s:ByteArray) (w:World) (hs:s.size<=4294967296) :
 Calls Tryz.prog 139 #[.string s] w fun e w'=>e=.returned (.int .i64 (cO s))∧w'=w:=by
 by_cases h1:s=⟨#[]⟩
 ·subst h1
  have H:=Lib.hid (show cO ⟨#[]⟩=12 by decide)
  go_enter Tryz.func139,Tryz.ntmps139
  go_wp2
  go_ret
  exact⟨cR H.out.symm,rfl⟩
 by_cases h2:4095<s.size
 ·have H:=Lib.hid (show cO s=18 by unfold cO;rw[if_neg h1,if_pos h2])
  have hne:=nr h1
  have AH:s.toList.isEmpty=false:=by simpa using hne
  have h2':(4095:Int)<(s.size:Int):=by omega
  go_enter Tryz.func139,Tryz.ntmps139
  go_wp2
  go_ret
  exact⟨cR H.out.symm,rfl⟩
 ·have H:=Lib.hid (U5 s h1 h2)
  have hne:=nr h1
  have AH:s.toList.isEmpty=false:=by simpa using hne
  have h2':¬(4095:Int)<(s.size:Int):=by omega
  go_enter Tryz.func139,Tryz.ntmps139
  go_wp2
  go_loop [3] (fun i=>∃k:Nat,k<=s.size∧i=.int .i64 k∧∀(j:Nat) (h:j<s.size),j<k->¬s[j]=(0:Int).toNat.toUInt8) (fun i=>s.size-(intOf i).toNat)
  case atStart=>exact⟨0,Nat.zero_le _,rfl,fun j _ hj=>by omega⟩
  case round =>
   obtain⟨k,hk,rfl,hno⟩:=hrel
   have Hno:=Lib.hid hno
   clear hno
   by_cases hlt:k<s.size
   ·have Hb:=Lib.hid (qM s[k] 0 (by decide) (by decide))
    go_wp2
    ·go_ret
     refine⟨cR ?_,rfl⟩
     have h:((s[k].toNat:Int)==0)=true:=by assumption
     rw[Hb.out,decide_eq_true_eq]at h
     have hh:hasB s 0=true:=(ug s 0).2 ⟨k,hlt,h⟩
     rw[H.out,if_pos hh]
    ·have h:((s[k].toNat:Int)==0)=false:=by assumption
     rw[Hb.out,decide_eq_false_iff_not]at h
     go_round
     case rel =>
      refine⟨k+1,by omega,by go_num,fun j hj hjk=>?_⟩
      by_cases e:j=k
      ·subst e;exact h
      ·exact Hno.out j hj (by omega)
     case measure=>simp[intOf];omega
   ·go_wp2
    go_ret
    refine⟨cR ?_,rfl⟩
    rw[H.out,if_neg]
    rw[ug]
    rintro⟨j,hj,e⟩
    exact Hno.out j hj (by omega) e
theorem size_pos {s:ByteArray} (h:¬s=⟨#[]⟩):1<=s.size:=by
 rcases Nat.lt_or_ge s.size 1 with h2|h2
 ·have h3:s.data.toList=[]:=List.eq_nil_of_length_eq_zero (by rw[mN];omega)
  exact absurd (qL (b:=⟨#[]⟩) (by rw[h3])) h
 ·exact h2
theorem U7 (l:List ByteArray) (hl:∀x∈l,¬x=⟨#[]⟩):∀t:ByteArray,¬t=⟨#[]⟩->¬l.foldl eK t=⟨#[]⟩:=by
 induction l with
 | nil=>exact fun t h=>h
 | cons x r ih =>
   intro t ht
   refine ih (fun y hy=>hl y (by simp[hy])) _ ?_
   have h1:=size_pos ht
   unfold eK
   rw[if_neg ht]
   intro e
   have h2:=congrArg ByteArray.size e
   split at h2
   ·rw[ByteArray.size_append]at h2
    have h0:(⟨#[]⟩:ByteArray).size=0:=rfl
    omega
   ·rw[ByteArray.size_append,ByteArray.size_append]at h2
    have h0:(⟨#[]⟩:ByteArray).size=0:=rfl
    omega
theorem U8 (S:Nat->Prop) (w:World) (p:Option Addr) (c:Nat) (l:List ByteArray) (h:bt jX S w p c l) (t:ByteArray) (slash:Bool) (nS:¬t=⟨#[]⟩) (eB:∀x∈l,¬x=⟨#[]⟩)
 (hl:∀x∈l,x.size<=4095) (hn:l.length<=4096) (ht:t.size<=2147483648) :
 Calls Tryz.prog 143 #[.string t,.slice p l.length c,.bool slash] w fun e w'=>e=.returned (.string (mM t l slash))∧w'=w:=by
 have hcap:=h.cap
 have hmax:=h.max
 unfold maxLen at hmax
 have HL:=Lib.hid hl
 clear hl
 have HR:=Lib.hid (show mM t l slash=if slash&&!cg (l.foldl eK t)then l.foldl eK t++dL else l.foldl eK t from rfl)
 have HF:=Lib.hid (fun k:Nat=>Ff (l.take k) 4095 (fun x hx=>HL.out x (List.mem_of_mem_take hx)) t)
 have HN:=Lib.hid (U7 l eB t nS)
 clear eB nS
 generalize mM t l slash=Q at *
 go_enter Tryz.func143,Tryz.ntmps143
 go_wp2
 go_loop [7,8] (fun s i=>∃k:Nat,k<=l.length∧i=.int .i64 k∧s=.string ((l.take k).foldl eK t)) (fun _ i=>l.length-(intOf i).toNat)
 case atStart=>exact⟨0,Nat.zero_le _,rfl,rfl⟩
 case round =>
  obtain⟨k,hk,rfl,rfl⟩:=hrel
  have hf:=HF.out k
  rw[List.length_take,Nat.min_eq_left hk]at hf
  by_cases hlt:k<l.length
  ·obtain⟨x,hx⟩:∃x,l[k]?=some x:=⟨_,List.getElem?_eq_getElem hlt⟩
   obtain⟨gb,off,rfl,hS,hg,c0⟩:=h.str hx
   have hxs:=HL.out x (List.mem_of_getElem? hx)
   have HT:=Lib.hid (show(l.take (k+1)).foldl eK t=eK ((l.take k).foldl eK t) x by rw[List.take_add_one,hx];simp)
   clear hx
   generalize(l.take k).foldl eK t=s at *
   go_wp2_with(go_at_call 160;refine(SX _ _ _ (by omega) (by omega)).mono ?_;rintro e w' ⟨rfl,rfl⟩)
   go_round
   case rel=>exact⟨k+1,by omega,by go_num,by rw[HT.out]⟩
   case measure=>simp[intOf];omega
  ·obtain rfl:k=l.length:=by omega
   have hne:=HN.out
   rw[List.take_length]at hf ⊢
   generalize l.foldl eK t=s at *
   have hsz:=size_pos hne
   have Hb:=Lib.hid (qM (s[s.size-1]'(by omega)) 47 (by decide) (by decide))
   have e1:((s.size-1:Nat):Int)=(s.size:Int)-1:=by omega
   have E1:=Lib.hid e1
   have HE:=Lib.hid (AG s hsz)
   clear e1 hne
   cases slash with
   | false =>
     go_wp2_with fail
     go_ret
     refine⟨?_,rfl⟩
     rw[HR.out]
     simp
   | true =>
     go_wp2_with fail
     all_goals
      go_ret
      refine⟨?_,rfl⟩
      first
       | (have h3:((s[s.size-1].toNat:Int) != 47)=true:=by assumption
          have h5:((s[s.size-1].toNat:Int)==47)=false:=by simpa[bne]using h3
          rw[Hb.out]at h5;have h4:¬s[s.size-1]=47:=of_decide_eq_false h5;rw[HR.out,HE.out];simp[h4];done)
       | (have h3:((s[s.size-1].toNat:Int) != 47)=false:=by assumption
          have h5:((s[s.size-1].toNat:Int)==47)=true:=by simpa[bne]using h3
          rw[Hb.out]at h5;have h4:s[s.size-1]=47:=of_decide_eq_true h5;rw[HR.out,HE.out];simp[h4];done)
       | skip
section
variable{S:Nat->Prop} {w:World} {p:Option Addr} {c:Nat} {d:ag} {room:Int}
theorem U9 (h:aI S w p c d) (hI:aG d) (i:Int) :
 Calls Tryz.prog 141 #[aE p c d room,.int .i64 i] w fun e w'=>e=.returned (.int .i64 (bI d i))∧aa af w w':=by
 have hcap:=h.cap
 have hmax:=h.max
 unfold maxLen at hmax
 have hal:aa af w (w.alloc (.cells #[.slice p d.length c,.int .i64 room] 37)):=(aa.refl _ _).alloc _
 have hh:=qB (room:=room) (h.ai hal) hI.zero i
 by_cases hf:aO d i=0
 ·have hi:has d i:=by
   unfold aO at hf
   split at hf
   ·cases hf
   ·assumption
  obtain⟨k,rfl,hk⟩:=eP hi
  obtain⟨g,off,q,m,rfl,hS,hrow⟩:=h.rowAt hk
  have HQ:=Lib.hid (show bI d k=if (nd d k).mode / 64 % 2=0 then 19 else 0 by unfold bI;rw[if_neg (by rw[hf];simp)])
  rw[hf]at hh
  have HH:=Lib.hid hh
  have hm0:=(hI.node k).mV
  have bU:=(hI.node k).mW
  have HR:=Lib.hid (fun w1 (hk:aa af w w1)=>hrow.ai hk)
  clear hh hrow h hi hf
  generalize bI d k=Q at *
  unfold aE at *
  have HA:=Lib.hid hal
  clear hal
  have hz:((nd d k).mode / 64 % 2==0)=decide ((nd d k).mode / 64 % 2=0):=by rw[Bool.eq_iff_iff];simp
  by_cases h0:(nd d k).mode / 64 % 2=0
  all_goals
   have jO:=HQ.out
   first|(rw[if_pos h0]at jO;rw[decide_eq_true h0]at hz)|(rw[if_neg h0]at jO;rw[decide_eq_false h0]at hz)
   replace jO:=Lib.hid jO
   clear HQ h0
   go_enter Tryz.func141,Tryz.ntmps141
   go_wp2_with(go_at_call 119;refine HH.out.mono ?_;rintro e w1 ⟨rfl,hk1⟩;have b0:w1.cell? ⟨w.heap.size,0,none⟩=some (.slice (some ⟨g,off,none⟩) d.length c):=boxed hk1 0 _ rfl;have hr1:=HR.out _ (HA.out.trans hk1);have r1:=hr1.c1;have rl:=hr1.lt)
   go_ret
   exact⟨cR jO.out.symm,HA.out.trans hk1⟩
 ·have HQ:=Lib.hid (show bI d i=aO d i by unfold bI;rw[if_pos hf])
  have hne:(aO d i != 0)=true:=by simpa using hf
  have HH:=Lib.hid hh
  have HA:=Lib.hid hal
  clear hh hf hal
  generalize aO d i=fe at *
  generalize bI d i=Q at *
  unfold aE at *
  go_enter Tryz.func141,Tryz.ntmps141
  go_wp2_with(go_at_call 119;refine HH.out.mono ?_;rintro e w1 ⟨rfl,hk1⟩)
  go_ret
  exact⟨cR HQ.out.symm,HA.out.trans hk1⟩
def pQ (d:ag) (up:Int->Int) (at':Int) (x:ByteArray):aJ × Int :=
 if x=lH then(.on at',0)else if x=lI then(.on (up at'),0)else if 255<x.size then(.no,18)else(⟨aN d at' x,at',x⟩,0)
theorem Va (h:aI S w p c d) (hI:aG d) (hs:aP d) {up:Int->Int} (cA:∀i u,aO d i=0->kY d i u->up i=u) (at':Int) (hf:aO d at'=0) (x:ByteArray) :
 Calls Tryz.prog 142 #[aE p c d room,.int .i64 at',.string x] w fun e w'=>e=.returned (.tuple #[aF (pQ d up at' x).1,.int .i64 (pQ d up at' x).2])∧aa af w w':=by
 have hcap:=h.cap
 have hmax:=h.max
 unfold maxLen at hmax
 have hal:aa af w ((w.alloc (.cells #[.slice p d.length c,.int .i64 room] 37)).alloc (.cells #[.int .i64 0,.int .i64 0,.string ⟨#[]⟩] 82)):=((aa.refl _ _).alloc _).alloc _
 have e1:(w.alloc (.cells #[.slice p d.length c,.int .i64 room] 37)).heap.size=w.heap.size+1:=by simp
 have HA:=Lib.hid hal
 have HD:=Lib.hid (show pQ d up at' x=if x=lH then(.on at',0)else if x=lI then(.on (up at'),0)else if 255<x.size then(.no,18)else(⟨aN d at' x,at',x⟩,0)from rfl)
 generalize pQ d up at' x=Q at *
 have ht:=hI.two
 by_cases h1:x=lH
 ·have HQ:=HD.out
  rw[if_pos h1]at HQ
  replace HQ:=Lib.hid HQ
  clear HD hal
  subst h1
  unfold aE
  go_enter Tryz.func142,Tryz.ntmps142
  go_wp2
  (try simp only[Exit.inBlock,Exit.then]);refine bodyPost_ret (v:=.tuple #[aF Q.1,.int .i64 Q.2]) ?_ rfl ?_;rw[HQ.out,results_cell_tmp rfl];(try unfold aF);(try unfold aJ.no);(try unfold aJ.on);go_simp;refine⟨rfl,?_⟩;(repeat exact kB)
 have d1:(x.toList==[46])=false:=Fg h1
 by_cases h2:x=lI
 ·have HU:=Lib.hid (EV (room:=room) (h.ai hal) hI.zero (by omega) hs at')
  have HQ:=HD.out
  rw[if_neg h1,if_pos h2]at HQ
  replace HQ:=Lib.hid HQ
  have qH:=Lib.hid (fun u=>cA at' u hf)
  clear HD hal
  subst h2
  unfold aE at *
  go_enter Tryz.func142,Tryz.ntmps142
  go_wp2_with(go_at_call 65;refine HU.out.mono ?_;rintro e w1 ⟨u,rfl,Fh,hk1⟩;have hu:=qH.out u Fh;subst hu;have KB:=kN (v0:=.int .i64 0) (v1:=.int .i64 0) (v2:=.string ⟨#[]⟩) hk1;rw[e1]at KB;have B0:=KB.c0;have B1:=KB.c1;have B2:=KB.c2;have FB:=KB.fz;have bl:=KB.lt;have kz:=HA.out.trans hk1)
  (try simp only[Exit.inBlock,Exit.then]);refine bodyPost_ret (v:=.tuple #[aF Q.1,.int .i64 Q.2]) ?_ rfl ?_;rw[HQ.out,results_cell_tmp rfl];(try unfold aF);(try unfold aJ.no);(try unfold aJ.on);go_simp;refine⟨rfl,?_⟩;(repeat exact kB)
 have d2:(x.toList==[46,46])=false:=Fj h2
 by_cases h3:255<x.size
 ·have HQ:=HD.out
  rw[if_neg h1,if_neg h2,if_pos h3]at HQ
  replace HQ:=Lib.hid HQ
  have h3':(255:Int)<(x.size:Int):=by omega
  clear HD hal
  unfold aE at *
  go_enter Tryz.func142,Tryz.ntmps142
  go_wp2
  (try simp only[Exit.inBlock,Exit.then]);refine bodyPost_ret (v:=.tuple #[aF Q.1,.int .i64 Q.2]) ?_ rfl ?_;rw[HQ.out,results_cell_tmp rfl];(try unfold aF);(try unfold aJ.no);(try unfold aJ.on);go_simp;refine⟨rfl,?_⟩;(repeat exact kB)
 ·have HL:=Lib.hid (nC (room:=room) (h.ai hal) hI at' x)
  have HQ:=HD.out
  rw[if_neg h1,if_neg h2,if_neg h3]at HQ
  replace HQ:=Lib.hid HQ
  have h3':¬(255:Int)<(x.size:Int):=by omega
  clear HD hal
  generalize aN d at' x=k at *
  generalize bH d at' x=le at *
  unfold aE at *
  go_enter Tryz.func142,Tryz.ntmps142
  go_wp2_with(go_at_call 123;refine HL.out.mono ?_;rintro e w1 ⟨rfl,hk1⟩;have KB:=kN (v0:=.int .i64 0) (v1:=.int .i64 0) (v2:=.string ⟨#[]⟩) hk1;rw[e1]at KB;have B0:=KB.c0;have B1:=KB.c1;have B2:=KB.c2;have FB:=KB.fz;have bl:=KB.lt;have kz:=HA.out.trans hk1)
  (try simp only[Exit.inBlock,Exit.then]);refine bodyPost_ret (v:=.tuple #[aF Q.1,.int .i64 Q.2]) ?_ rfl ?_;rw[HQ.out,results_cell_tmp rfl];(try unfold aF);(try unfold aJ.no);(try unfold aJ.on);go_simp;refine⟨rfl,?_⟩;(repeat exact kB)
end
end Go.Proofs.YtnanhmfpikddkaaGreatDoor
