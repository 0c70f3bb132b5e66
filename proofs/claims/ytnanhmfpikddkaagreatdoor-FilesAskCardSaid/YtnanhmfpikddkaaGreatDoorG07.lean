/-
  The reference's Move: its variables in memory,and the facts of its two puts.
-/
import Derived.Test.YtnanhmfpikddkaaGreatDoorG05
import Derived.Test.YtnanhmfpikddkaaGreatDoorG06
import Derived.Test.YtnanhmfpikddkaaGreatDoorG04
import Derived.Deep.RegionHeld3

set_option linter.unusedSimpArgs false
set_option linter.unusedVariables false
namespace Go.Proofs.YtnanhmfpikddkaaGreatDoor
open Go.RowKit
set_option maxRecDepth 100000
set_option maxHeartbeats 1000000
theorem nZ.keep {F:Nat->Prop} {w w1 w2:World} {p:Option Addr} {n c:Nat} {room:Int} (h:nZ w w1 p n c room) (k:aa F w1 w2) (hA:¬F w.heap.size) (hC:¬F (w.heap.size+1)) (hF:∀b,F b->w.heap.size<=b):nZ w w2 p n c room:=by
 have l1:=dm h.A0
 have l2:=dm h.C0
 have:=k.size
 exact⟨(k.cell (p:=⟨w.heap.size,0,none⟩) l1 hA).trans h.A0,(k.cell (p:=⟨w.heap.size,1,none⟩) l1 hA).trans h.A1,(k.cell (p:=⟨w.heap.size+1,0,none⟩) l2 hC).trans h.C0,(k.cell (p:=⟨w.heap.size+1,1,none⟩) l2 hC).trans h.C1,
  fun j=>(k.frozen (p:=⟨w.heap.size,j,none⟩) l1 hA).trans (h.zA j),fun j=>(k.frozen (p:=⟨w.heap.size+1,j,none⟩) l2 hC).trans (h.zC j),by have:=h.size;omega,h.keeps.step k (fun b hb=>.inr (hF b hb))⟩
theorem nZ.xx {w w1:World} {p p':Option Addr} {n n' c c':Nat} {room room':Int} (h:nZ w w1 p n c room):nZ w ((w1.setCell ⟨w.heap.size,0,none⟩ (.slice p' n' c')).setCell ⟨w.heap.size,1,none⟩ (.int .i64 room')) p' n' c' room':=by
 have k:aa (fun b=>b=w.heap.size) w1 ((w1.setCell ⟨w.heap.size,0,none⟩ (.slice p' n' c')).setCell ⟨w.heap.size,1,none⟩ (.int .i64 room')):=(cB w1 ⟨w.heap.size,0,none⟩ _).trans (cB _ ⟨w.heap.size,1,none⟩ _)
 have l2:=dm h.C0
 have hC:¬w.heap.size+1=w.heap.size:=by omega
 have:=k.size
 refine⟨?_,?_,(k.cell (p:=⟨w.heap.size+1,0,none⟩) l2 hC).trans h.C0,(k.cell (p:=⟨w.heap.size+1,1,none⟩) l2 hC).trans h.C1,fun j=>?_,fun j=>(k.frozen (p:=⟨w.heap.size+1,j,none⟩) l2 hC).trans (h.zC j),by have:=h.size;omega,h.keeps.step k (fun b hb=>.inr (by omega))⟩
 ·have h1:=cZ (g:=w.heap.size) (k:=0) (u:=.slice p' n' c') (j:=0) h.A0
  rw[if_pos rfl]at h1
  have h2:=cZ (g:=w.heap.size) (k:=1) (u:=.int .i64 room') (j:=0) h1
  rw[if_neg (by decide)]at h2
  exact h2
 ·have h1:=cZ (g:=w.heap.size) (k:=0) (u:=.slice p' n' c') (j:=1) h.A1
  rw[if_neg (by decide)]at h1
  have h2:=cZ (g:=w.heap.size) (k:=1) (u:=.int .i64 room') (j:=1) h1
  rw[if_pos rfl]at h2
  exact h2
 ·exact(j6 _ _ _ _).trans ((j6 _ _ _ _).trans (h.zA j))
theorem mO.keep {F:Nat->Prop} {w1 w2 w3:World} {v0 v1 v2 v3 v4:Value} (h:mO w1 w2 v0 v1 v2 v3 v4) (k:aa F w2 w3) (hN:¬F w1.heap.size):mO w1 w3 v0 v1 v2 v3 v4:=by
 have l:=dm h.N0
 exact⟨(k.cell (p:=⟨w1.heap.size,0,none⟩) l hN).trans h.N0,(k.cell (p:=⟨w1.heap.size,1,none⟩) l hN).trans h.N1,(k.cell (p:=⟨w1.heap.size,2,none⟩) l hN).trans h.N2,(k.cell (p:=⟨w1.heap.size,3,none⟩) l hN).trans h.N3,
  (k.cell (p:=⟨w1.heap.size,4,none⟩) l hN).trans h.N4,fun j=>(k.frozen (p:=⟨w1.heap.size,j,none⟩) l hN).trans (h.zN j)⟩
theorem mO.AO {w1 w2:World} {v0 v1 v2 v3 v4:Value} (h:mO w1 w2 v0 v1 v2 v3 v4) (v:Value):mO w1 (w2.setCell ⟨w1.heap.size,4,none⟩ v) v0 v1 v2 v3 v:=by
 have h0:=cZ (g:=w1.heap.size) (k:=4) (u:=v) (j:=0) h.N0
 have h1:=cZ (g:=w1.heap.size) (k:=4) (u:=v) (j:=1) h.N1
 have h2:=cZ (g:=w1.heap.size) (k:=4) (u:=v) (j:=2) h.N2
 have h3:=cZ (g:=w1.heap.size) (k:=4) (u:=v) (j:=3) h.N3
 have h4:=cZ (g:=w1.heap.size) (k:=4) (u:=v) (j:=4) h.N4
 rw[if_neg (by decide)]at h0 h1 h2 h3
 rw[if_pos rfl]at h4
 exact⟨h0,h1,h2,h3,h4,fun j=>(j6 _ _ _ _).trans (h.zN j)⟩
theorem mO.l9 {w1 w2:World} {v0 v1 v2 v3 v4:Value} (h:mO w1 w2 v0 v1 v2 v3 v4) (u0 u1 u2 u3 u4:Value):mO w1 (Go.Proofs.YtnanhmfpikddkaaGreatDoor.l9 w2 w1.heap.size 0 u0 u1 u2 u3 u4) u0 u1 u2 u3 u4:=by
 have step:∀(W:World) (i:Nat) (u:Value) (x0 x1 x2 x3 x4:Value),mO w1 W x0 x1 x2 x3 x4->mO w1 (W.setCell ⟨w1.heap.size,i,none⟩ u) (if 0=i then u else x0) (if 1=i then u else x1) (if 2=i then u else x2) (if 3=i then u else x3) (if 4=i then u else x4):=fun W i u x0 x1 x2 x3 x4 hW=>by
  have e:∀j x,W.cell? ⟨w1.heap.size,j,none⟩=some x->(W.setCell ⟨w1.heap.size,i,none⟩ u).cell? ⟨w1.heap.size,j,none⟩=some (if j=i then u else x):=fun j x hx=>by
   have:=cZ (g:=w1.heap.size) (k:=i) (u:=u) (j:=j) hx
   rw[this]
  exact⟨e 0 _ hW.N0,e 1 _ hW.N1,e 2 _ hW.N2,e 3 _ hW.N3,e 4 _ hW.N4,fun j=>(j6 _ _ _ _).trans (hW.zN j)⟩
 unfold Go.Proofs.YtnanhmfpikddkaaGreatDoor.l9
 have s0:=step _ 0 u0 _ _ _ _ _ h
 have s1:=step _ 1 u1 _ _ _ _ _ s0
 have s2:=step _ 2 u2 _ _ _ _ _ s1
 have s3:=step _ 3 u3 _ _ _ _ _ s2
 have s4:=step _ 4 u4 _ _ _ _ _ s3
 simpa using s4
section
variable{S:Nat->Prop} {w w2:World} {p:Option Addr} {c:Nat} {d:ag} {room:Int} {N:Nat}
theorem aI.Ls (h:aI S w p c d) (hk:aa af w w2) (hN:w.heap.size+2<=N):aI (fQ S w N) w2 p c d:=h.cN hk (fun _ _ _ h=>h) (fun g hg hl=>⟨⟨hg,by omega,by omega⟩,by omega⟩)
theorem vk (hS:∀g,w.heap.size<=g->S g) (hN:w.heap.size+2<=N) (hsz:N<w2.heap.size):∀g,w2.heap.size<=g->fQ S w N g:=fun g hg=>⟨⟨hS g (by omega),by omega,by omega⟩,by omega⟩
theorem aI.Lt (h:aI (fQ S w N) w2 p c d):aI (jh S w) w2 p c d:=h.cN (aa.refl af _) (fun _ _ _ h=>h) (fun _ hg _=>hg.1)
theorem aI.var {w3:World} {F:Nat->Prop} (h:aI (fQ S w N) w2 p c d) (k:aa F w2 w3) (hF:∀b,F b->b=w.heap.size∨b=w.heap.size+1∨b=N):aI (fQ S w N) w3 p c d :=
 h.cN k (fun b hb _ e=>by rcases hF b e with e|e|e<;>first|exact hb.1.2.1 e|exact hb.1.2.2 e|exact hb.2 e) (fun _ hg _=>hg)
theorem bt.vl {α:Type} {E:hU α} {q:Option Addr} {m:Nat} {l:List α} {w3:World} {F:Nat->Prop} (h:bt E (fQ S w N) w2 q m l) (k:aa F w2 w3) (hF:∀b,F b->b=w.heap.size∨b=w.heap.size+1∨b=N):bt E (fQ S w N) w3 q m l :=
 h.cN k (fun b hb _ e=>by rcases hF b e with e|e|e<;>first|exact hb.1.2.1 e|exact hb.1.2.2 e|exact hb.2 e) (fun _ hg _=>hg)
theorem AP (h:aI (fQ S w N) w2 p c d) (hS:∀g,w.heap.size<=g->S g) (hN:w.heap.size+2<=N) (hsz:N<w2.heap.size) (hs:d.length<=4294967296) (k:Nat) (hk:k<d.length) (l:List aD) (q:Option Addr) (m:Nat) (hx:bt aK (fQ S w N) w2 q m l)
 (d':ag) (hd:dz d (k:Int) l=d') :
 Calls Tryz.prog 121 #[.agg #[.slice p d.length c,.int .i64 room],.int .i64 k,.agg #[.int .i64 (nd d (k:Int)).kind,.int .i64 (nd d (k:Int)).mode,.int .i64 (nd d (k:Int)).holds,.string (nd d (k:Int)).data,.slice q l.length m]] w2 fun e w' =>
  ∃p' c',e=.returned (.agg #[.slice p' d.length c',.int .i64 room])∧aI (fQ S w N) w' p' c' d'∧aa af w2 w':=by
 refine(sE (S:=fQ S w N) (room:=room) h (vk hS hN hsz) k hk hs ((nd d (k:Int)).dZ l) q m hx).mono ?_
 rintro e w' ⟨v',rfl,⟨p',c',rfl,eU⟩,hk'⟩
 have hl:(aX d (k:Int) ((nd d (k:Int)).dZ l)).length=d.length:=jl _ _ _
 refine⟨p',c',by unfold aE;rw[hl],?_,hk'⟩
 rw[<- hd]
 exact eU
end
set_option maxRecDepth 100000
set_option maxHeartbeats 1000000
def ux:Nd:=⟨2,493,0,⟨#[]⟩,[]⟩
def bW:ag:=[Nd.gone,ux]
theorem qV (i:Int):nd bW i=if i=1 then ux else Nd.gone:=by
 unfold nd bW
 by_cases h0:0<=i
 ·rw[if_pos h0]
  by_cases h1:i=1
  ·subst h1;rfl
  ·rw[if_neg h1]
   by_cases h2:i=0
   ·subst h2;rfl
   ·rw[List.getElem?_eq_none (by simp;omega)];rfl
 ·rw[if_neg h0,if_neg (by omega)]
theorem uy (i:Int):has bW i↔i=1:=by
 unfold has
 rw[qV]
 split
 ·next e=>exact⟨fun _=>e,fun _=>by decide⟩
 ·next e=>exact⟨fun h=>absurd rfl h,fun h=>absurd h e⟩
theorem G1 (i:Int):cnt bW i=0:=by simp[cnt,cu,bW,eY,Nd.gone,ux]
theorem G2:used bW=0:=by decide
theorem y9:aH bW=2:=by decide
theorem G3:count bW=1:=by decide
theorem Cy (i:Int):(nd bW i).ah=[]:=by rw[qV];split<;>rfl
theorem G4:bK bW:=fun i h=>by
 have:=(uy i).1 h.1
 subst this
 exact aG.Gp h
theorem Cz:aG bW:=by
 refine⟨by decide,by rw[qV];rfl,by rw[qV];rfl,fun i=>?_,fun i e h=>?_,fun i h=>?_,fun i=>⟨i,fun j hj=>?_⟩⟩
 ·rw[qV]
  split
  ·exact⟨by decide,by decide,(fun h=>by cases h),by decide,by decide,by decide,by decide,fun _=>rfl,fun _=>rfl,List.Pairwise.nil,(fun _ h=>by cases h)⟩
  ·exact iV.none
 ·rw[Cy]at h;cases h
 ·have:=G1 i
  unfold links
  split<;>omega
 ·obtain⟨_,e,h,_⟩:=hj
  rw[Cy]at h;cases h
theorem Oe {w:World} {B A G:Nat} {room:Int} (h0:w.cell? ⟨A,0,none⟩=some (.map (some B))) (h1:w.cell? ⟨A,1,none⟩=some (.int .i64 2)) (h2:w.cell? ⟨A,2,none⟩=some (.int .i64 0)) (h3:w.cell? ⟨A,3,none⟩=some (.int .i64 room))
 (hfz:∀j,w.frozen? ⟨A,j,none⟩=false) (hm:gj w B [(1,.pointer (some ⟨G,0,none⟩))]) (hN:kZ w G (.slice none 0 0) (.slice none 0 0) ux 1 1) (Og:A≠B) (Oh:A≠G) (Oi:B≠G) (hr:0<=room) (hr2:room<=9223372036854775807) :
 ∃R,cK R w A bW room∧∀x,x≠A->x≠B->x≠G->R.tag x=.none:=by
 refine⟨⟨B,[(1,.pointer (some ⟨G,0,none⟩))],fun _=>G,fun _=>.slice none 0 0,fun _=>.slice none 0 0,fun x=>if x=A then .disk else if x=B then .map else if x=G then .node 1 else .none⟩,
  ⟨⟨fun _=>1,fun _=>1,⟨h0,h1,h2,h3,hfz,if_pos rfl,?_,hm,fun i=>?_,G3.symm,fun i hi=>?_,(fun i hi x hx=>by simp[Value.ownBlock]at hx),(fun i hi x hx=>by simp[Value.ownBlock]at hx),fun i hi=>?_,fun x hx=>?_⟩,Cz,fun i hi=>?_,fun i hi=>absurd hi (by unfold zp;omega),
    fun i hi=>⟨fun j hj=>?_,fun _=>rfl,fun h=>by cases h⟩,by unfold aP;rw[y9];decide,fun _ _=>by decide⟩,G4,by rw[G2];exact hr,hr2⟩,fun x x1 x2 x3=>?_⟩
 ·show(if B=A then _ else if B=B then _ else _)=_
  rw[if_neg (fun e=>Og e.symm),if_pos rfl]
 ·simp only[uy,gJ,List.find?_cons,List.find?_nil]
  by_cases e:i=1
  ·subst e;rfl
  ·have:¬(1:Int)=i:=fun h=>e h.symm
   simp[e,this]
 ·have:=(uy i).1 hi
  subst this
  show(if G=A then _ else if G=B then _ else if G=G then _ else _)=_
  rw[if_neg (fun e=>Oh e.symm),if_neg (fun e=>Oi e.symm),if_pos rfl]
 ·have:=(uy i).1 hi
  subst this
  rw[qV,if_pos rfl]
  exact hN
 ·show(if x=A then _ else if x=B then _ else if x=G then _ else _)=_
  have e1:=dm h0
  have e2:=hm.lt
  have e3:=hN.lt
  simp only at e1
  rw[if_neg (by omega),if_neg (by omega),if_neg (by omega)]
 ·have:=(uy i).1 hi
  subst this
  have:=G1 1
  unfold links zp
  rw[this];rfl
 ·obtain⟨_,e,h,_⟩:=hj
  rw[Cy]at h;cases h
 ·show(if x=A then _ else if x=B then _ else if x=G then _ else _)=_
  rw[if_neg x1,if_neg x2,if_neg x3]
structure rW (W:World) (R:RD) (w:World) (a:Nat) (d:ag) (room:Int):Prop where
 disk:cK R w a d room
 keeps:aa af W w
 tag:∀x,x<W.heap.size->R.tag x=.none
def oW (W w:World) (a:Nat) (d:ag) (room:Int):Prop:=∃R,rW W R w a d room
theorem rW.to {W:World} {R:RD} {w w':World} {a:Nat} {d d':ag} {room:Int} (h:rW W R w a d room) (t:dn R w a d' room w'):oW W w' a d' room:=by
 obtain⟨R',h1,h2⟩:=t
 have hs:=h.keeps.size
 refine⟨R',h1,h.keeps.step h2.keeps (fun g hg=>?_),fun x hx=>by rw[h2.same x (by omega)];exact h.tag x hx⟩
 by_cases hl:g<W.heap.size
 ·exact absurd (h.tag g hl) hg
 ·exact .inr (by omega)
theorem rW.on {W:World} {R:RD} {w w':World} {a:Nat} {d:ag} {room:Int} (h:rW W R w a d room) (k:aa af w w'):rW W R w' a d room:=⟨h.disk.ai k,h.keeps.trans k,h.tag⟩
theorem oW.on {W w w':World} {a:Nat} {d:ag} {room:Int} (h:oW W w a d room) (k:aa af w w'):oW W w' a d room:=by
 obtain⟨R,h⟩:=h
 exact⟨R,h.on k⟩
theorem oW.keeps {W w:World} {a:Nat} {d:ag} {room:Int} (h:oW W w a d room):aa af W w:=by
 obtain⟨R,h⟩:=h
 exact h.keeps
theorem cK.top {R:RD} {w:World} {a:Nat} {d:ag} {room:Int} (h:cK R w a d room):∀x,R.F x->x<w.heap.size:=fun x hx=>by
 obtain⟨⟨lk,up,hC⟩,_,_,_⟩:=h
 by_cases hl:x<w.heap.size
 ·exact hl
 ·exact absurd (hC.rep.top x (by omega)) hx
theorem rW.call {W:World} {R:RD} {w wx w':World} {a:Nat} {d d':ag} {room:Int} (h:rW W R w a d room) (k:aa af w wx) (t:dn R wx a d' room w') :
 oW W w' a d' room∧aa (fun g=>g<w.heap.size) wx w':=by
 refine⟨(h.on k).to t,?_⟩
 obtain⟨R',_,h2⟩:=t
 exact h2.keeps.mono (fun x _ hx=>h.disk.top x hx)
theorem Oj {w w5:World} {room:Int} (hr:0<=room) (hr2:room<=9223372036854775807) (T1 T2:TypeId) {G:Nat} (hG:G=w.heap.size+2) (sX:gj w5 w.heap.size [(1,.pointer (some ⟨G,0,none⟩))])
 (bX:aa (fun g=>g=w.heap.size) (((w.alloc (.map #[] 0)).alloc (.cells #[.map (some w.heap.size),.int .i64 2,.int .i64 0,.int .i64 room] T1)).alloc (.cells #[.int .i64 2,.int .i64 493,.int .i64 1,.int .i64 0,.slice none 0 0,.slice none 0 0,.int .i64 1] T2)) w5) :
 oW w w5 (w.heap.size+1) bW room:=by
 subst hG
 have s1:(w.alloc (.map #[] 0)).heap.size=w.heap.size+1:=by simp
 have s2:((w.alloc (.map #[] 0)).alloc (.cells #[.map (some w.heap.size),.int .i64 2,.int .i64 0,.int .i64 room] T1)).heap.size=w.heap.size+2:=by simp
 have n1:=heap_alloc_new (w.alloc (.map #[] 0)) (.cells #[.map (some w.heap.size),.int .i64 2,.int .i64 0,.int .i64 room] T1)
 have n2:=heap_alloc_new ((w.alloc (.map #[] 0)).alloc (.cells #[.map (some w.heap.size),.int .i64 2,.int .i64 0,.int .i64 room] T1)) (.cells #[.int .i64 2,.int .i64 493,.int .i64 1,.int .i64 0,.slice none 0 0,.slice none 0 0,.int .i64 1] T2)
 rw[s1]at n1
 rw[s2]at n2
 have n1':=(Below.heap_alloc ((w.alloc (.map #[] 0)).alloc (.cells #[.map (some w.heap.size),.int .i64 2,.int .i64 0,.int .i64 room] T1)) (.cells #[.int .i64 2,.int .i64 493,.int .i64 1,.int .i64 0,.slice none 0 0,.slice none 0 0,.int .i64 1] T2) (w.heap.size+1) (by omega)).trans n1
 have k0:aa af w (((w.alloc (.map #[] 0)).alloc (.cells #[.map (some w.heap.size),.int .i64 2,.int .i64 0,.int .i64 room] T1)).alloc (.cells #[.int .i64 2,.int .i64 493,.int .i64 1,.int .i64 0,.slice none 0 0,.slice none 0 0,.int .i64 1] T2)):=(((aa.refl af w).alloc _).alloc _).alloc _
 have s3:(((w.alloc (.map #[] 0)).alloc (.cells #[.map (some w.heap.size),.int .i64 2,.int .i64 0,.int .i64 room] T1)).alloc (.cells #[.int .i64 2,.int .i64 493,.int .i64 1,.int .i64 0,.slice none 0 0,.slice none 0 0,.int .i64 1] T2)).heap.size=w.heap.size+3:=by simp
 have b1:=(bX.block (w.heap.size+1) (by omega) (by omega)).trans n1'
 have b2:=(bX.block (w.heap.size+2) (by omega) (by omega)).trans n2
 have hA:∀j v,(#[.map (some w.heap.size),.int .i64 2,.int .i64 0,.int .i64 room]:Array Value)[j]?=some v->w5.cell? ⟨w.heap.size+1,j,none⟩=some v:=fun j v hv=>by
  rw[cell_of_row w5 _ j _ T1 (0,0) b1];exact hv
 have hB:∀j v,(#[.int .i64 2,.int .i64 493,.int .i64 1,.int .i64 0,.slice none 0 0,.slice none 0 0,.int .i64 1]:Array Value)[j]?=some v->w5.cell? ⟨w.heap.size+2,j,none⟩=some v:=fun j v hv=>by
  rw[cell_of_row w5 _ j _ T2 (0,0) b2];exact hv
 have hN:kZ w5 (w.heap.size+2) (.slice none 0 0) (.slice none 0 0) ux 1 1 :=
  ⟨hB 0 _ rfl,hB 1 _ rfl,hB 2 _ rfl,hB 3 _ rfl,hB 4 _ rfl,eu.nil _ _,⟨hB 5 _ rfl,frozen_of_row w5 _ 5 _ T2 b2,rfl,Own.nil _ _ _ _,List.Pairwise.nil,(fun _ h=>by cases h),(fun h=>by simp[Value.ownBlock]at h)⟩,hB 6 _ rfl,fun j=>frozen_of_row w5 _ j _ T2 b2⟩
 obtain⟨R,hD,hT⟩:=Oe (A:=w.heap.size+1) (hA 0 _ rfl) (hA 1 _ rfl) (hA 2 _ rfl) (hA 3 _ rfl) (fun j=>frozen_of_row w5 _ j _ T1 b1) sX hN (by omega) (by omega) (by omega) hr hr2
 exact⟨R,hD,k0.step bX (fun g hg=>.inr (by omega)),fun x hx=>hT x (by omega) (by omega) (by omega)⟩
theorem Ok (w:World) (room:Int) (hr2:room<=9223372036854775807) :
 Calls Tryz.prog 37 #[.int .i64 room] w fun e w'=>if room<0 then e=.returned (.tuple #[.pointer none,.int .i64 10])∧w=w' else
  ∃a,e=.returned (.tuple #[.pointer (some ⟨a,0,none⟩),.int .i64 0])∧oW w w' a bW room:=by
 by_cases hr:room<0
 ·simp only[if_pos hr]
  go_enter Tryz.func37,Tryz.ntmps37
  go_wp2
  go_ret2
  exact⟨rfl,rfl⟩
 ·simp only[if_neg hr]
  have hmk:∀wx:World,(Instr.makeMap 109 none).run Tryz.prog wx=.ok (.map (some wx.heap.size)) (wx.alloc (.map #[] 0)):=fun _=>rfl
  go_enter Tryz.func37,Tryz.ntmps37
  go_wp2_with(at_mapUpdate;refine G5 rfl (.tmp 14) (.const (.int .i64 1)) (.tmp 16) _ rfl Tryz.underlying109 Tryz.underlying3 rfl (((gj.made w).keep ((aa.refl af _).alloc _) (fun h=>h)).keep ((aa.refl af _).alloc _) (fun h=>h)) rfl rfl rfl ?_;intro w5 sX bX)
  go_ret2
  exact⟨_,rfl,Oj hr hr2 _ _ (by simp) sX bX⟩
set_option maxRecDepth 100000
theorem Ly {u s:Nat} (h:(u:Int)<=9007199254740992) (h1:s<=4194304):wrap64 ((u:Int)+(s:Int))=(u:Int)+(s:Int):=IntWalk.wrap64_in _ (by omega)
theorem nD (n:Int):IntKind.i64.wrap (wrap64 n)=wrap64 n:=by rw[IntKind.wrap_i64];unfold wrap64;omega
set_option maxRecDepth 100000
set_option maxHeartbeats 2000000
theorem lJ {fn:Func} {p u t:Tmp} {ty:TypeId} (h:fn.results=#[.cell p ty,.tmp u,.tmp t]) (tmps:Array Value) (P:Program) (w:World) :
 (results fn tmps).run P w =
   ((asAddr (tmps.getD p undef)).run P w).andThen fun a w₁=>((loadVar ty a).run P w₁).andThen fun v w₂=>.ok (.tuple #[v,tmps.getD u undef,tmps.getD t undef]) w₂:=by
 simp only[results,h]
 simp[Sem.run_bind,Result.andThen]
def tM (S:Nat->Prop) (w:World) (d':ag) (room id err:Int) (e:Ending) (w':World):Prop :=
 ∃p' c',e=.returned (.tuple #[aE p' c' d' room,.int .i64 id,.int .i64 err])∧aI S w' p' c' d'∧aa af w w'
section
variable{S:Nat->Prop} {w:World} {p:Option Addr} {c:Nat} {d:ag} {room:Int}
theorem Lw {w1:World} {p':Option Addr} {c':Nat} {d':ag} {id err:Int} (h:aI (jh S w) w1 p' c' d') (k:aa af w w1) (v0 v1:Value) :
 tM S w d' room id err (.returned (.tuple #[aE p' c' d' room,.int .i64 id,.int .i64 err])) ((w1.setCell ⟨w.heap.size+1,0,none⟩ v0).setCell ⟨w.heap.size+1,1,none⟩ v1):=by
 obtain⟨p2,c2,e,h1,h2⟩:=dP (room:=room) (err:=err) h k v0 v1
 cases e
 exact⟨_,_,rfl,h1,h2⟩
theorem RL (w:World) (room:Int) (hS:∀g,w.heap.size<=g->S g) :
 Calls Tryz.prog 21 #[.int .i64 room] w fun e w'=>∃p c,e=.returned (aE p c bW room)∧aI S w' p c bW∧aa af w w':=by
 go_enter Tryz.func21,Tryz.ntmps21
 go_wp2
 refine bodyPost_ret (v:=aE (some ⟨w.heap.size+1,0,none⟩) 2 bW room) ?_ rfl ⟨_,_,rfl,⟨[⟨0,0,0,⟨#[]⟩,none,0,0⟩,⟨2,493,0,⟨#[]⟩,none,0,0⟩],rfl,?_,fun i r hi=>?_⟩,((aa.refl _ _).alloc _).alloc _⟩
 ·rw[AK rfl]
  go_simp
  rfl
 ·have h:=nM (E:=pK) (e:=57) (S:=S) (w:=w.alloc (.cells #[.slice (some ⟨w.heap.size+1,0,none⟩) 2 2,.int .i64 room] 37)) [(⟨0,0,0,⟨#[]⟩,none,0,0⟩:jH),⟨2,493,0,⟨#[]⟩,none,0,0⟩] #[.int .i64 0,.int .i64 0,.int .i64 0,.string ⟨#[]⟩,.slice none 0 0,.int .i64 2,.int .i64 493,.int .i64 0,.string ⟨#[]⟩,.slice none 0 0] rfl [(⟨0,0,0,⟨#[]⟩,none,0,0⟩:jH),⟨2,493,0,⟨#[]⟩,none,0,0⟩].length rfl (hS _ (by simp)) (by decide)
  have h2:=h.sl.at'
  have e:(w.alloc (.cells #[.slice (some ⟨w.heap.size+1,0,none⟩) 2 2,.int .i64 room] 37)).heap.size=w.heap.size+1:=by simp
  rw[e]at h2
  exact h2
 ·match i,hi with
  | 0,hi=>cases hi;exact⟨rfl,rfl,rfl,rfl,rfl,(Own.nil aK 60 S _).sl.at'⟩
  | 1,hi=>cases hi;exact⟨rfl,rfl,rfl,rfl,rfl,(Own.nil aK 60 S _).sl.at'⟩
  | n+2,hi=>simp at hi
theorem Tx (h:aI S w p c d) (hI:aG d) (hs:aP d) (kind m:Int) (s:ByteArray) (hsz:s.size<=4294967296) (he:cP d room kind m s≠0) :
 Calls Tryz.prog 117 #[aE p c d room,.int .i64 kind,.int .i64 m,.string s] w (tM S w d room 0 (cP d room kind m s)):=by
 have hcap:=h.cap
 have hmax:=h.max
 unfold maxLen at hmax
 have xC:=Lib.hid (fun(w1:World) (hk:aa af w w1)=>Lx (room:=room) (h.ai hk) hI.zero (by have:=hI.two;omega) hs)
 have ep:=Lib.hid (fun(w1:World) (hk:aa af w w1)=>rD (room:=room) (h.ai hk) hI.zero (by have:=hI.two;omega) hI hs)
 have H0:=Lib.hid (fun(w1:World) (hk:aa af w w1)=>h.ai hk)
 have Hh:=Lib.hid (fun(w1:World) (hk:aa af w w1)=>h.gO hk)
 have B:=iH (w:=w) (aa.refl af ((w.alloc (.cells #[.slice p d.length c,.int .i64 room] 37)).alloc (.cells #[.slice none 0 0,.int .i64 0] 37)))
 have bZ:=lg hI hs
 unfold cP at he ⊢
 clear h hI hs
 unfold aE at *
 by_cases c1:kind<1
 ·rw[if_pos c1]
  clear he
  go_enter Tryz.func117,Tryz.ntmps117
  go_wp2
  (try simp only[Exit.inBlock,Exit.then])
  refine bodyPost_ret (v:=.tuple #[.agg #[.slice p d.length c,.int .i64 room],.int .i64 0,.int .i64 43]) ?_ rfl ?_
  ·rw[lJ rfl]
   go_simp
  ·exact⟨_,_,rfl,H0.out _ (((aa.refl _ _).alloc _).alloc _),((aa.refl _ _).alloc _).alloc _⟩
 rw[if_neg c1]at he ⊢
 by_cases c2:3<kind
 ·rw[if_pos c2]
  clear he
  go_enter Tryz.func117,Tryz.ntmps117
  go_wp2
  (try simp only[Exit.inBlock,Exit.then])
  refine bodyPost_ret (v:=.tuple #[.agg #[.slice p d.length c,.int .i64 room],.int .i64 0,.int .i64 43]) ?_ rfl ?_
  ·rw[lJ rfl]
   go_simp
  ·exact⟨_,_,rfl,H0.out _ (((aa.refl _ _).alloc _).alloc _),((aa.refl _ _).alloc _).alloc _⟩
 rw[if_neg c2]at he ⊢
 by_cases c3:kind=2∧s.size≠0
 ·rw[if_pos c3]
  obtain⟨rfl,c3⟩:=c3
  have hne:(s.toList==[])=false:=beq_false_of_ne (fun e=>c3 ((toList_nil s).1 e))
  clear he c3
  go_enter Tryz.func117,Tryz.ntmps117
  go_wp2
  (try simp only[Exit.inBlock,Exit.then])
  refine bodyPost_ret (v:=.tuple #[.agg #[.slice p d.length c,.int .i64 room],.int .i64 0,.int .i64 43]) ?_ rfl ?_
  ·rw[lJ rfl]
   go_simp
  ·exact⟨_,_,rfl,H0.out _ (((aa.refl _ _).alloc _).alloc _),((aa.refl _ _).alloc _).alloc _⟩
 rw[if_neg c3]at he ⊢
 have k2:kind≠2∨(kind=2∧s=⟨#[]⟩):=by
  by_cases e:kind=2
  ·refine .inr ⟨e,ByteArray.ext (Array.eq_empty_of_size_eq_zero ?_)⟩
   have:¬s.size≠0:=fun h=>c3 ⟨e,h⟩
   have:=Classical.not_not.1 this
   exact this
  ·exact .inl e
 clear c3
 by_cases c4:ia m=false
 ·rw[if_pos c4]
  have hm:m<0∨(¬m<0∧4095<m):=by
   unfold ia at c4
   simp at c4
   omega
  clear he c4
  rcases k2 with k2|⟨rfl,rfl⟩<;>rcases hm with hm|⟨hm,hm2⟩
  all_goals
   go_enter Tryz.func117,Tryz.ntmps117
   go_wp2
   (try simp only[Exit.inBlock,Exit.then])
   refine bodyPost_ret (v:=.tuple #[.agg #[.slice p d.length c,.int .i64 room],.int .i64 0,.int .i64 10]) ?_ rfl ?_
   ·rw[lJ rfl]
    go_simp
   ·exact⟨_,_,rfl,H0.out _ (((aa.refl _ _).alloc _).alloc _),((aa.refl _ _).alloc _).alloc _⟩
 rw[if_neg c4]at he ⊢
 have hm:¬m<0∧¬4095<m:=by
  have:ia m=true:=by simpa using c4
  unfold ia at this
  simp at this
  omega
 obtain⟨hm,hm2⟩:=hm
 clear c4
 by_cases c5:4194304<s.size
 ·rw[if_pos c5]
  have zz:(4194304:Int)<(s.size:Int):=by omega
  rcases k2 with k2|⟨rfl,rfl⟩
  ·clear he c5
   go_enter Tryz.func117,Tryz.ntmps117
   go_wp2
   (try simp only[Exit.inBlock,Exit.then])
   refine bodyPost_ret (v:=.tuple #[.agg #[.slice p d.length c,.int .i64 room],.int .i64 0,.int .i64 18]) ?_ rfl ?_
   ·rw[lJ rfl]
    go_simp
   ·exact⟨_,_,rfl,H0.out _ (((aa.refl _ _).alloc _).alloc _),((aa.refl _ _).alloc _).alloc _⟩
  ·exact absurd c5 (by decide)
 rw[if_neg c5]at he ⊢
 have zz:¬((4194304:Int)<(s.size:Int)):=by omega
 have EL:s.size<=4194304:=by omega
 clear c5
 by_cases c6:65536<=count d
 ·rw[if_pos c6]
  have zB:(65536:Int)<=(count d:Int):=by omega
  clear he c6 bZ
  generalize(count d:Int)=cd at *
  rcases k2 with k2|⟨rfl,rfl⟩
  all_goals
   go_enter Tryz.func117,Tryz.ntmps117
   go_wp2_with(go_at_call 152;refine(xC.out _ B.keeps).mono ?_;rintro e w1 ⟨rfl,hk1⟩;(try clear A0);(try clear A1);(try clear C0);(try clear C1);(try clear zA);(try clear zC);(try clear l0);(try clear l1);(try clear R0);(try clear R1);(try clear R2);(try clear R3);(try clear R4);(try clear hgl);(try clear Q0);(try clear T4);replace B:=B.on hk1;clear hk1;have A0:=B.A0;have A1:=B.A1;have C0:=B.C0;have C1:=B.C1;have zA:=B.zA;have zC:=B.zC;have l0:w.heap.size<w1.heap.size:=Nat.lt_of_lt_of_le (by simp) B.size;have l1:w.heap.size+1<w1.heap.size:=B.size)
   (try simp only[Exit.inBlock,Exit.then])
   refine bodyPost_ret (v:=.tuple #[.agg #[.slice p d.length c,.int .i64 room],.int .i64 0,.int .i64 24]) ?_ rfl ?_
   ·rw[lJ rfl]
    go_simp
   ·exact Lw (Hh.out _ B.keeps) B.keeps _ _
 rw[if_neg c6]at he ⊢
 have zB:¬((65536:Int)<=(count d:Int)):=by omega
 have Iu:((65536:Int)<=(count d:Int))=False:=by simp;omega
 clear c6
 by_cases c7:room-used d<s.size
 ·rw[if_pos c7]
  have hr:room<(used d:Int)+(s.size:Int):=by omega
  have hwr:=Ly bZ EL
  clear he c7 bZ
  generalize(count d:Int)=cd at *
  generalize(used d:Int)=us at *
  have hwi:IntKind.i64.wrap (us+(s.size:Int))=us+(s.size:Int):=by rw[<- hwr];exact nD _
  have hz0:(s.size:Int)=0->room<IntKind.i64.wrap us:=fun e=>by rw[e,Int.add_zero]at hr hwi;rw[hwi];exact hr
  rcases k2 with k2|⟨rfl,rfl⟩
  all_goals
   go_enter Tryz.func117,Tryz.ntmps117
   go_upto_region 10 with(go_at_call 152;refine(xC.out _ B.keeps).mono ?_;rintro e w1 ⟨rfl,hk1⟩;(try clear A0);(try clear A1);(try clear C0);(try clear C1);(try clear zA);(try clear zC);(try clear l0);(try clear l1);(try clear R0);(try clear R1);(try clear R2);(try clear R3);(try clear R4);(try clear hgl);(try clear Q0);(try clear T4);replace B:=B.on hk1;clear hk1;have A0:=B.A0;have A1:=B.A1;have C0:=B.C0;have C1:=B.C1;have zA:=B.zA;have zC:=B.zC;have l0:w.heap.size<w1.heap.size:=Nat.lt_of_lt_of_le (by simp) B.size;have l1:w.heap.size+1<w1.heap.size:=B.size)
   go_cut [46]from 39 to 46 (fun x wx=>x=.bool true∧aa af w1 wx)
   case first =>
    have kr:aa af w1 w1:=aa.refl af w1
    have bh:aa af w1 w1.drew:=kr.drew
    have Bd:=B.on bh
    go_region_held3 (fun wz=>wz.cell? ⟨w.heap.size,0,none⟩=some (.slice p d.length c)∧wz.cell? ⟨w.heap.size,1,none⟩=some (.int .i64 room)∧aa af w1 wz) (first|exact⟨B.A0,B.A1,kr⟩|exact⟨Bd.A0,Bd.A1,bh⟩|exact⟨B6.A0,B6.A1,aR⟩|exact⟨fq.A0,fq.A1,fC⟩)
     (first|(go_at_call 26;refine(ep.out _ (B.keeps.trans (by assumption))).mono ?_;rintro e w6 ⟨rfl,cF⟩;have aR:aa af w1 w6:=aa.trans (by assumption) cF;have B6:=B.on aR;have fC:=aR.drew;have fq:=B.on fC;have qD:=B6.A0;have qE:=B6.A1))
    all_goals(go_wp2_with fail;go_meet;exact⟨by first|(simp[hwi,hr];done)|(simp[hz0 rfl];done),by first|exact aR|exact aR.drew⟩)
   case rest =>
    obtain⟨rfl,aR⟩:=hcut
    replace B:=B.on aR
    (try clear A0);(try clear A1);(try clear C0);(try clear C1);(try clear zA);(try clear zC);(try clear l0);(try clear l1);(try clear R0);(try clear R1);(try clear R2);(try clear R3);(try clear R4);(try clear hgl);(try clear Q0);(try clear T4)
    have A0:=B.A0
    have A1:=B.A1
    have C0:=B.C0
    have C1:=B.C1
    have zA:=B.zA
    have zC:=B.zC
    go_wp2_with fail
    (try simp only[Exit.inBlock,Exit.then])
    refine bodyPost_ret (v:=.tuple #[.agg #[.slice p d.length c,.int .i64 room],.int .i64 0,.int .i64 20]) ?_ rfl ?_
    ·rw[lJ rfl]
     go_simp
    ·exact Lw (Hh.out _ B.keeps) B.keeps _ _
 ·rw[if_neg c7]at he
  exact absurd rfl he
theorem Lz {w4:World} {e:TypeId} {g4 tN:Nat} {rows:List jH} {kind m:Int} {s:ByteArray} (hk:aa af w w4) (hS:∀g,w.heap.size<=g->S g)
 (ho:Own pK e (fun g=>w.heap.size+2<=g) w4 (.slice (some ⟨g4,0,none⟩) (rows++[(⟨kind,m,1,s,none,0,0⟩:jH)]).length tN) (rows++[⟨kind,m,1,s,none,0,0⟩]))
 (hr1:rows.length=d.length) (gX:∀(i:Nat) (r:jH),rows[i]?=some r->xB S w r (nd d i)) (hd:d.length<=4294967296) (hg:w.heap.size+2<=g4) (v0 v1 v2:Value) :
 tM S w (d++[aU kind m s]) room d.length 0 (.returned (.tuple #[.agg #[.slice (some ⟨g4,0,none⟩) (rows.length+1) tN,.int .i64 room],.int .i64 (wrap64 (rows.length:Int)),.int .i64 0]))
  (((w4.setCell ⟨w.heap.size,0,none⟩ v0).setCell ⟨w.heap.size+1,0,none⟩ v1).setCell ⟨w.heap.size+1,1,none⟩ v2):=by
 have kk:aa (fun b=>b=w.heap.size∨b=w.heap.size+1) w4 (((w4.setCell ⟨w.heap.size,0,none⟩ v0).setCell ⟨w.heap.size+1,0,none⟩ v1).setCell ⟨w.heap.size+1,1,none⟩ v2) :=
  (((cB w4 ⟨w.heap.size,0,none⟩ v0).mono (fun b _ hb=>.inl hb)).trans ((cB _ ⟨w.heap.size+1,0,none⟩ v1).mono (fun b _ hb=>.inr hb))).trans ((cB _ ⟨w.heap.size+1,1,none⟩ v2).mono (fun b _ hb=>.inr hb))
 have kF:=hk.step kk (fun b hb=>.inr (by omega))
 have hwl:wrap64 (rows.length:Int)=(d.length:Int):=by rw[hr1];exact IntWalk.wrap64_in _ (by omega)
 refine⟨some ⟨g4,0,none⟩,tN,?_,⟨rows++[⟨kind,m,1,s,none,0,0⟩],by simp[hr1],?_,fun i r hi=>?_⟩,kF⟩
 ·unfold aE
  rw[hwl,hr1]
  simp
 ·have h1:=ho.keep kk (fun b hb e=>by
   simp[Value.ownBlock]at hb
   subst hb
   omega)
  exact(h1.sl.mono (fun b hb _=>hS b (by omega))).at'
 ·rw[iI]
  by_cases e:i<rows.length
  ·rw[List.getElem?_append_left e]at hi
   rw[if_neg (by omega)]
   exact(gX i r hi).cN kF (fun _ _ _ h=>h) (fun _ h _=>h)
  ·rw[List.getElem?_append_right (by omega)]at hi
   have hi0:i-rows.length=0:=by
    by_cases h0:i-rows.length=0
    ·exact h0
    ·rw[List.getElem?_eq_none (by simp;omega)]at hi;cases hi
   rw[hi0]at hi
   cases hi
   rw[if_pos (by omega)]
   exact⟨rfl,rfl,rfl,rfl,rfl,(Own.nil aK 60 S _).sl.at'⟩
theorem Ty (h:aI S w p c d) (hS:∀g,w.heap.size<=g->S g) (hI:aG d) (hs:aP d) (kind m:Int) (s:ByteArray) (he:cP d room kind m s=0) :
 Calls Tryz.prog 117 #[aE p c d room,.int .i64 kind,.int .i64 m,.string s] w (tM S w (d++[aU kind m s]) room d.length 0):=by
 have hcap:=h.cap
 have hmax:=h.max
 unfold maxLen at hmax
 have xC:=Lib.hid (fun(w1:World) (hk:aa af w w1)=>Lx (room:=room) (h.ai hk) hI.zero (by have:=hI.two;omega) hs)
 have ep:=Lib.hid (fun(w1:World) (hk:aa af w w1)=>rD (room:=room) (h.ai hk) hI.zero (by have:=hI.two;omega) hI hs)
 have H0:=Lib.hid (fun(w1:World) (hk:aa af w w1)=>h.ai hk)
 have B:=iH (w:=w) (aa.refl af ((w.alloc (.cells #[.slice p d.length c,.int .i64 room] 37)).alloc (.cells #[.slice none 0 0,.int .i64 0] 37)))
 have bZ:=lg hI hs
 have hml:=jm d
 have hdl:d.length<=4294967296:=by unfold aP at hs;omega
 unfold cP at he
 have Wn:=hI.two
 clear hI hs hml
 split at he;· cases he
 split at he;· cases he
 split at he;· cases he
 split at he;· cases he
 split at he;· cases he
 split at he;· cases he
 split at he;· cases he
 next c1 c2 c3 c4 c5 c6 c7 =>
 have k2:kind≠2∨(kind=2∧s=⟨#[]⟩):=by
  by_cases e:kind=2
  ·refine .inr ⟨e,ByteArray.ext (Array.eq_empty_of_size_eq_zero ?_)⟩
   have:¬s.size≠0:=fun h=>c3 ⟨e,h⟩
   have:=Classical.not_not.1 this
   exact this
  ·exact .inl e
 have hm:¬m<0∧¬4095<m:=by
  have:ia m=true:=by simpa using c4
  unfold ia at this
  simp at this
  omega
 obtain⟨hm,hm2⟩:=hm
 have zz:¬((4194304:Int)<(s.size:Int)):=by omega
 have EL:s.size<=4194304:=by omega
 have zB:¬((65536:Int)<=(count d:Int)):=by omega
 have Iu:((65536:Int)<=(count d:Int))=False:=by simp;omega
 have hr:¬room<(used d:Int)+(s.size:Int):=by omega
 have hwr:=Ly bZ EL
 obtain⟨rows,hr1,hr2,gX⟩:=h.rows
 have gT:=Lib.hid (fun(wx:World) (hk:aa af w wx)=>(⟨p,c,by rw[hr1],hr2.ai hk⟩:Sl pK S wx (.slice p d.length c) rows))
 have wS:=Lib.hid gX
 have oN:=Lib.hid hr1
 have hwl:wrap64 (((d.length:Int)+1)-1)=(d.length:Int):=by rw[IntWalk.wrap64_in _ (by omega)];omega
 unfold aE at *
 clear he c3 c4 c5 c6 c7 bZ hr1 hr2 gX h
 generalize(count d:Int)=cd at *
 generalize(used d:Int)=us at *
 have hwi:IntKind.i64.wrap (us+(s.size:Int))=us+(s.size:Int):=by rw[<- hwr];exact nD _
 have hz0:(s.size:Int)=0->¬room<IntKind.i64.wrap us:=fun e=>by rw[e,Int.add_zero]at hr hwi;rw[hwi];exact hr
 rcases k2 with k2|⟨rfl,rfl⟩
 case inl =>
  go_enter Tryz.func117,Tryz.ntmps117
  go_upto_region 10 with(go_at_call 152;refine(xC.out _ B.keeps).mono ?_;rintro e w1 ⟨rfl,hk1⟩;(try clear A0);(try clear A1);(try clear C0);(try clear C1);(try clear zA);(try clear zC);(try clear l0);(try clear l1);(try clear R0);(try clear R1);(try clear R2);(try clear R3);(try clear R4);(try clear hgl);(try clear Q0);(try clear T4);replace B:=B.on hk1;clear hk1;have A0:=B.A0;have A1:=B.A1;have C0:=B.C0;have C1:=B.C1;have zA:=B.zA;have zC:=B.zC;have l0:w.heap.size<w1.heap.size:=Nat.lt_of_lt_of_le (by simp) B.size;have l1:w.heap.size+1<w1.heap.size:=B.size)
  go_cut [46]from 39 to 46 (fun x wx=>x=.bool false∧aa af w1 wx)
  case first =>
   have kr:aa af w1 w1:=aa.refl af w1
   have bh:aa af w1 w1.drew:=kr.drew
   have Bd:=B.on bh
   go_region_held3 (fun wz=>wz.cell? ⟨w.heap.size,0,none⟩=some (.slice p d.length c)∧wz.cell? ⟨w.heap.size,1,none⟩=some (.int .i64 room)∧aa af w1 wz) (first|exact⟨B.A0,B.A1,kr⟩|exact⟨Bd.A0,Bd.A1,bh⟩|exact⟨B6.A0,B6.A1,aR⟩|exact⟨fq.A0,fq.A1,fC⟩)
    (first|(go_at_call 26;refine(ep.out _ (B.keeps.trans (by assumption))).mono ?_;rintro e w6 ⟨rfl,cF⟩;have aR:aa af w1 w6:=aa.trans (by assumption) cF;have B6:=B.on aR;have fC:=aR.drew;have fq:=B.on fC;have qD:=B6.A0;have qE:=B6.A1))
   all_goals(go_wp2_with fail;go_meet;exact⟨by first|(simp[hwi,hr];done)|(simp[hz0 rfl];done),by first|exact aR|exact aR.drew⟩)
  case rest =>
   obtain⟨rfl,aR⟩:=hcut
   replace B:=B.on aR
   (try clear A0);(try clear A1);(try clear C0);(try clear C1);(try clear zA);(try clear zC);(try clear l0);(try clear l1);(try clear R0);(try clear R1);(try clear R2);(try clear R3);(try clear R4);(try clear hgl);(try clear Q0);(try clear T4)
   have A0:=B.A0
   have A1:=B.A1
   have C0:=B.C0
   have C1:=B.C1
   have zA:=B.zA
   have zC:=B.zC
   go_wp2_with(first|(at_builtin;go_loud(refine mw rfl (.tmp 51) (.tmp 53) rfl xD (Own.nil pK 57 (fun g=>w.heap.size+2<=g) _) (gT.out _ B.keeps) rfl rfl B.size (by have:=oN.out;simp[maxLen];omega) (by have:=oN.out;simp;omega) ?_);intro v3 w3 nQ aV vN;rw[List.nil_append]at nQ;have k3:=aV.mono (G:=af) (fun _ _ h=>by cases h);have tO:∀g,v3.ownBlock=some g->wc.heap.size<=g:=(fun g hg=>(vN g hg).resolve_left (fun h=>by cases h));have Bz:=B.size;have B3:=B.on k3;obtain⟨g3,Tz,jz,rfl,TA,oQ,TC,TD,oz,EM⟩:=nQ.row (by have:=oN.out;omega);clear oz EM;(try clear A0);(try clear A1);(try clear C0);(try clear C1);(try clear zA);(try clear zC);(try clear l0);(try clear l1);(try clear R0);(try clear R1);(try clear R2);(try clear R3);(try clear R4);(try clear hgl);(try clear Q0);(try clear T4);have A0:=B3.A0;have A1:=B3.A1;have C0:=B3.C0;have C1:=B3.C1;have zA:=B3.zA;have zC:=B3.zC)|(at_builtin;go_loud(refine mw rfl (.tmp 55) (.tmp 60) rfl xD (nQ.keep ((aa.refl af _).alloc _) (fun _ _ h=>h)) (nM (S:=fun _=>True) [(⟨kind,m,1,s,none,0,0⟩:jH)] #[.int .i64 kind,.int .i64 m,.int .i64 1,.string s,.slice none 0 0] rfl 1 rfl trivial (by decide)).sl rfl rfl (by have:=B3.size;simp;omega) (by have:=oN.out;simp[maxLen];omega) (by have:=oN.out;simp;omega) ?_);intro v4 w4 q6 bB Gh;have B4:=(B3.on ((aa.refl af _).alloc _)).keep bB (fun h=>by have:=tO _ h;omega) (fun h=>by have:=tO _ h;omega) (fun b h=>by have:=tO _ h;omega);obtain⟨g4,tN,TE,rfl,EN,sQ,TF,TG,zu,EO⟩:=q6.row (by simp);clear zu EO sQ;(try clear A0);(try clear A1);(try clear C0);(try clear C1);(try clear zA);(try clear zC);(try clear l0);(try clear l1);(try clear R0);(try clear R1);(try clear R2);(try clear R3);(try clear R4);(try clear hgl);(try clear Q0);(try clear T4);have A0:=B4.A0;have A1:=B4.A1;have C0:=B4.C0;have C1:=B4.C1;have zA:=B4.zA;have zC:=B4.zC))
   (try simp only[Exit.inBlock,Exit.then])
   refine bodyPost_ret (v:=.tuple #[.agg #[.slice (some ⟨g4,0,none⟩) (rows.length+1) tN,.int .i64 room],.int .i64 (wrap64 (rows.length:Int)),.int .i64 0]) ?_ rfl ?_
   ·rw[lJ rfl]
    go_simp
   ·exact Lz B4.keeps hS q6 oN.out wS.out hdl EN _ _ _
 case inr =>
  go_enter Tryz.func117,Tryz.ntmps117
  go_upto_region 10 with(go_at_call 152;refine(xC.out _ B.keeps).mono ?_;rintro e w1 ⟨rfl,hk1⟩;(try clear A0);(try clear A1);(try clear C0);(try clear C1);(try clear zA);(try clear zC);(try clear l0);(try clear l1);(try clear R0);(try clear R1);(try clear R2);(try clear R3);(try clear R4);(try clear hgl);(try clear Q0);(try clear T4);replace B:=B.on hk1;clear hk1;have A0:=B.A0;have A1:=B.A1;have C0:=B.C0;have C1:=B.C1;have zA:=B.zA;have zC:=B.zC;have l0:w.heap.size<w1.heap.size:=Nat.lt_of_lt_of_le (by simp) B.size;have l1:w.heap.size+1<w1.heap.size:=B.size)
  go_cut [46]from 39 to 46 (fun x wx=>x=.bool false∧aa af w1 wx)
  case first =>
   have kr:aa af w1 w1:=aa.refl af w1
   have bh:aa af w1 w1.drew:=kr.drew
   have Bd:=B.on bh
   go_region_held3 (fun wz=>wz.cell? ⟨w.heap.size,0,none⟩=some (.slice p d.length c)∧wz.cell? ⟨w.heap.size,1,none⟩=some (.int .i64 room)∧aa af w1 wz) (first|exact⟨B.A0,B.A1,kr⟩|exact⟨Bd.A0,Bd.A1,bh⟩|exact⟨B6.A0,B6.A1,aR⟩|exact⟨fq.A0,fq.A1,fC⟩)
    (first|(go_at_call 26;refine(ep.out _ (B.keeps.trans (by assumption))).mono ?_;rintro e w6 ⟨rfl,cF⟩;have aR:aa af w1 w6:=aa.trans (by assumption) cF;have B6:=B.on aR;have fC:=aR.drew;have fq:=B.on fC;have qD:=B6.A0;have qE:=B6.A1))
   all_goals(go_wp2_with fail;go_meet;exact⟨by first|(simp[hwi,hr];done)|(simp[hz0 rfl];done),by first|exact aR|exact aR.drew⟩)
  case rest =>
   obtain⟨rfl,aR⟩:=hcut
   replace B:=B.on aR
   (try clear A0);(try clear A1);(try clear C0);(try clear C1);(try clear zA);(try clear zC);(try clear l0);(try clear l1);(try clear R0);(try clear R1);(try clear R2);(try clear R3);(try clear R4);(try clear hgl);(try clear Q0);(try clear T4)
   have A0:=B.A0
   have A1:=B.A1
   have C0:=B.C0
   have C1:=B.C1
   have zA:=B.zA
   have zC:=B.zC
   go_wp2_with(first|(at_builtin;go_loud(refine mw rfl (.tmp 51) (.tmp 53) rfl xD (Own.nil pK 57 (fun g=>w.heap.size+2<=g) _) (gT.out _ B.keeps) rfl rfl B.size (by have:=oN.out;simp[maxLen];omega) (by have:=oN.out;simp;omega) ?_);intro v3 w3 nQ aV vN;rw[List.nil_append]at nQ;have k3:=aV.mono (G:=af) (fun _ _ h=>by cases h);have tO:∀g,v3.ownBlock=some g->wc.heap.size<=g:=(fun g hg=>(vN g hg).resolve_left (fun h=>by cases h));have Bz:=B.size;have B3:=B.on k3;obtain⟨g3,Tz,jz,rfl,TA,oQ,TC,TD,oz,EM⟩:=nQ.row (by have:=oN.out;omega);clear oz EM;(try clear A0);(try clear A1);(try clear C0);(try clear C1);(try clear zA);(try clear zC);(try clear l0);(try clear l1);(try clear R0);(try clear R1);(try clear R2);(try clear R3);(try clear R4);(try clear hgl);(try clear Q0);(try clear T4);have A0:=B3.A0;have A1:=B3.A1;have C0:=B3.C0;have C1:=B3.C1;have zA:=B3.zA;have zC:=B3.zC)|(at_builtin;go_loud(refine mw rfl (.tmp 55) (.tmp 60) rfl xD (nQ.keep ((aa.refl af _).alloc _) (fun _ _ h=>h)) (nM (S:=fun _=>True) [(⟨2,m,1,⟨#[]⟩,none,0,0⟩:jH)] #[.int .i64 2,.int .i64 m,.int .i64 1,.string ⟨#[]⟩,.slice none 0 0] rfl 1 rfl trivial (by decide)).sl rfl rfl (by have:=B3.size;simp;omega) (by have:=oN.out;simp[maxLen];omega) (by have:=oN.out;simp;omega) ?_);intro v4 w4 q6 bB Gh;have B4:=(B3.on ((aa.refl af _).alloc _)).keep bB (fun h=>by have:=tO _ h;omega) (fun h=>by have:=tO _ h;omega) (fun b h=>by have:=tO _ h;omega);obtain⟨g4,tN,TE,rfl,EN,sQ,TF,TG,zu,EO⟩:=q6.row (by simp);clear zu EO sQ;(try clear A0);(try clear A1);(try clear C0);(try clear C1);(try clear zA);(try clear zC);(try clear l0);(try clear l1);(try clear R0);(try clear R1);(try clear R2);(try clear R3);(try clear R4);(try clear hgl);(try clear Q0);(try clear T4);have A0:=B4.A0;have A1:=B4.A1;have C0:=B4.C0;have C1:=B4.C1;have zA:=B4.zA;have zC:=B4.zC))
   (try simp only[Exit.inBlock,Exit.then])
   refine bodyPost_ret (v:=.tuple #[.agg #[.slice (some ⟨g4,0,none⟩) (rows.length+1) tN,.int .i64 room],.int .i64 (wrap64 (rows.length:Int)),.int .i64 0]) ?_ rfl ?_
   ·rw[lJ rfl]
    go_simp
   ·exact Lz B4.keeps hS q6 oN.out wS.out hdl EN _ _ _
theorem EP (h:aI S w p c d) (hS:∀g,w.heap.size<=g->S g) (hI:aG d) (hs:aP d) (kind m:Int) (s:ByteArray) (hsz:s.size<=4294967296) :
 Calls Tryz.prog 117 #[aE p c d room,.int .i64 kind,.int .i64 m,.string s] w (tM S w (iq d room kind m s) room (lu d room kind m s) (cP d room kind m s)):=by
 unfold lu iq
 by_cases he:cP d room kind m s=0
 ·rw[if_pos he,if_pos he,he];exact Ty h hS hI hs kind m s he
 ·rw[if_neg he,if_neg he];exact Tx h hI hs kind m s hsz he
end
end Go.Proofs.YtnanhmfpikddkaaGreatDoor
set_option maxHeartbeats 2000000
namespace Go.Proofs.YtnanhmfpikddkaaGreatDoor
open Go Go.RowKit
section
variable{R:RD} {w0 w w':World} {a g:Nat} {d:ag} {room us:Int} {lk up:Int->Int}
theorem di.set {at':Int} {n:Nat} (h:di w g a at' n) {B:Nat} (hB:¬g=B) (j:Nat) (v:Value):di (w.setCell ⟨B,j,none⟩ v) g a at' n:=h.keep (cB _ _ _) hB
theorem di.alloc {at':Int} {n:Nat} (h:di w g a at' n) (o:Obj):di (w.alloc o) g a at' n:=h.on ((aa.refl af w).alloc o)
theorem di.drew {at':Int} {n:Nat} (h:di w g a at' n):di w.drew g a at' n:=h.on (aa.refl af w).drew
def vB (w:World) (g a:Nat) (at':Int) (q:Ed) (e:Ending) (w':World):Prop :=
 e=.returned (.tuple #[aF q.p,.string q.t,.int .i64 q.e])∧aa (fun b=>b=g) w w'∧di w' g a at' q.n
theorem xX (h:aS R w0 a d room us lk up) (k:aa af w0 w) {at':Int} {n:Nat} (hw:di w g a at' n) (hI:aG d) :
 Hid (Calls Tryz.prog 75 #[.pointer (some ⟨g,0,none⟩)] (w.alloc (.cells #[.int .i64 0,.int .i64 0,.string ⟨#[]⟩] 75)) fun e w'=>e=.returned (.int .i64 (bI d at'))∧aa af (w.alloc (.cells #[.int .i64 0,.int .i64 0,.string ⟨#[]⟩] 75)) w'):=by
 have Mi:aa af w (w.alloc (.cells #[.int .i64 0,.int .i64 0,.string ⟨#[]⟩] 75)):=(aa.refl _ _).alloc _
 exact Lib.hid (Mg h (k.trans Mi) (hw.on Mi) hI)
theorem Fg {x:ByteArray} (h:¬x=lH):(x.toList==[46])=false:=by
 have:=toList_eq x lH
 rw[show lH.toList=[46]by rw[Lib.toList_data]]at this
 rw[this];simpa using h
theorem Fj {x:ByteArray} (h:¬x=lI):(x.toList==[46,46])=false:=by
 have:=toList_eq x lI
 rw[show lI.toList=[46,46]by rw[Lib.toList_data]]at this
 rw[this];simpa using h
theorem Vz (h:aS R w0 a d room us lk up) (k:aa af w0 w) {at':Int} {n:Nat} (hw:di w g a at' n) (hI:aG d) (x:ByteArray) (follow:Bool)
 (hin:bI d at'≠0):Calls Tryz.prog 76 #[.pointer (some ⟨g,0,none⟩),.string x,.bool follow] w (vB w g a at' ⟨.no,⟨#[]⟩,bI d at',n⟩):=by
 have cw:=xX h k hw hI
 have hgB:¬g=w.heap.size:=by have:=hw.lt;omega
 have hne:(bI d at' != 0)=true:=by simpa using hin
 go_enter Tryz.func76,Tryz.ntmps76
 go_wp2_with(go_at_call 75;refine cw.out.mono ?_;rintro e w1 ⟨rfl,hk1⟩;have B0:=boxed hk1 0 _ rfl;have B1:=boxed hk1 1 _ rfl;have B2:=boxed hk1 2 _ rfl;have FB:=nW hk1;have hw1:=hw.on ((aa.refl af w).alloc (.cells #[.int .i64 0,.int .i64 0,.string ⟨#[]⟩] 75) |>.trans hk1);have C0:=hw1.c0;have C1:=hw1.c1;have C2:=hw1.c2;have FZ:=hw1.fz;have dc:w.heap.size<w1.heap.size:=Nat.lt_of_lt_of_le (by simp) hk1.size;have kw:aa (fun b=>b=g) w w1:=aa.bC (((aa.refl af w).alloc (.cells #[.int .i64 0,.int .i64 0,.string ⟨#[]⟩] 75)).trans hk1))
 (try simp only[Exit.inBlock,Exit.then])
 refine bodyPost_ret (v:=.tuple #[aF .no,.string ⟨#[]⟩,.int .i64 (bI d at')]) ?_ rfl ⟨rfl,?_,?_⟩
 ·rw[lJ rfl];(try unfold aF);(try unfold aJ.no);(try unfold aJ.on);go_simp
 ·exact kB
 ·exact kF
theorem VA (h:aS R w0 a d room us lk up) (k:aa af w0 w) {at':Int} {n:Nat} (hw:di w g a at' n) (hI:aG d) (follow:Bool)
 (hin:bI d at'=0):Calls Tryz.prog 76 #[.pointer (some ⟨g,0,none⟩),.string lH,.bool follow] w (vB w g a at' ⟨.on at',⟨#[]⟩,0,n⟩):=by
 have cw:=xX h k hw hI
 rw[hin]at cw
 have hgB:¬g=w.heap.size:=by have:=hw.lt;omega
 go_enter Tryz.func76,Tryz.ntmps76
 go_wp2_with(go_at_call 75;refine cw.out.mono ?_;rintro e w1 ⟨rfl,hk1⟩;have B0:=boxed hk1 0 _ rfl;have B1:=boxed hk1 1 _ rfl;have B2:=boxed hk1 2 _ rfl;have FB:=nW hk1;have hw1:=hw.on ((aa.refl af w).alloc (.cells #[.int .i64 0,.int .i64 0,.string ⟨#[]⟩] 75) |>.trans hk1);have C0:=hw1.c0;have C1:=hw1.c1;have C2:=hw1.c2;have FZ:=hw1.fz;have dc:w.heap.size<w1.heap.size:=Nat.lt_of_lt_of_le (by simp) hk1.size;have kw:aa (fun b=>b=g) w w1:=aa.bC (((aa.refl af w).alloc (.cells #[.int .i64 0,.int .i64 0,.string ⟨#[]⟩] 75)).trans hk1))
 (try simp only[Exit.inBlock,Exit.then])
 refine bodyPost_ret (v:=.tuple #[aF (.on at'),.string ⟨#[]⟩,.int .i64 0]) ?_ rfl ⟨rfl,?_,?_⟩
 ·rw[lJ rfl];(try unfold aF);(try unfold aJ.no);(try unfold aJ.on);go_simp
 ·exact kB
 ·exact kF
theorem VB (h:aS R w0 a d room us lk up) (k:aa af w0 w) {at':Int} {n:Nat} (hw:di w g a at' n) (hI:aG d) (follow:Bool)
 (hin:bI d at'=0) (hf:aO d at'=0):Calls Tryz.prog 76 #[.pointer (some ⟨g,0,none⟩),.string lI,.bool follow] w (vB w g a at' ⟨.on (up at'),⟨#[]⟩,0,n⟩):=by
 have cw:=xX h k hw hI
 rw[hin]at cw
 have qH:=Lib.hid (fun(w1:World) (hk:aa af w0 w1)=>Cw (h.ai hk) at')
 rw[hf,if_pos rfl]at qH
 have hgB:¬g=w.heap.size:=by have:=hw.lt;omega
 go_enter Tryz.func76,Tryz.ntmps76
 go_upto_region 7 with(first|(go_at_call 75;refine cw.out.mono ?_;rintro e w1 ⟨rfl,hk1⟩;have B0:=boxed hk1 0 _ rfl;have B1:=boxed hk1 1 _ rfl;have B2:=boxed hk1 2 _ rfl;have FB:=nW hk1;have hw1:=hw.on ((aa.refl af w).alloc (.cells #[.int .i64 0,.int .i64 0,.string ⟨#[]⟩] 75) |>.trans hk1);have C0:=hw1.c0;have C1:=hw1.c1;have C2:=hw1.c2;have FZ:=hw1.fz;have dc:w.heap.size<w1.heap.size:=Nat.lt_of_lt_of_le (by simp) hk1.size;have kw:aa (fun b=>b=g) w w1:=aa.bC (((aa.refl af w).alloc (.cells #[.int .i64 0,.int .i64 0,.string ⟨#[]⟩] 75)).trans hk1)))
 have kz:aa af w0 w1:=(k.trans ((aa.refl af w).alloc _)).trans hk1
 go_cut [9]from 9 to 42 (fun x wx=>x=.int .i64 (up at')∧aa af w1 wx)
 case first =>
  have kr:=aa.refl af w1
  have bh:=kr.drew
  have d0:=(hw1.on bh).c0
  have d1:=(hw1.on bh).c1
  go_region_held3 (fun wz=>wz.cell? ⟨g,0,none⟩=some (.pointer (some ⟨a,0,none⟩))∧wz.cell? ⟨g,1,none⟩=some (.int .i64 at')∧aa af w1 wz) (refine⟨?_,?_,?_⟩<;>with_reducible assumption)
   (first|(go_at_call 106;refine(qH.out _ (kz.trans kB)).mono ?_;rintro e w2 ⟨rfl,rfl⟩))
  all_goals(go_wp2_with fail;go_meet;exact⟨rfl,kB⟩)
 case rest =>
  obtain⟨rfl,hk2⟩:=hcut
  clear B0 B1 B2 C0 C1 C2 kw
  replace hk1:=hk1.trans hk2
  clear dc hw1 FZ FB
  generalize wc=w1 at *
  have B0:=boxed hk1 0 _ rfl;have B1:=boxed hk1 1 _ rfl;have B2:=boxed hk1 2 _ rfl;have FB:=nW hk1;have hw1:=hw.on ((aa.refl af w).alloc (.cells #[.int .i64 0,.int .i64 0,.string ⟨#[]⟩] 75) |>.trans hk1);have C0:=hw1.c0;have C1:=hw1.c1;have C2:=hw1.c2;have FZ:=hw1.fz;have dc:w.heap.size<w1.heap.size:=Nat.lt_of_lt_of_le (by simp) hk1.size;have kw:aa (fun b=>b=g) w w1:=aa.bC (((aa.refl af w).alloc (.cells #[.int .i64 0,.int .i64 0,.string ⟨#[]⟩] 75)).trans hk1)
  go_wp2_with fail
  (try simp only[Exit.inBlock,Exit.then])
  refine bodyPost_ret (v:=.tuple #[aF (.on (up at')),.string ⟨#[]⟩,.int .i64 0]) ?_ rfl ⟨rfl,?_,?_⟩
  ·rw[lJ rfl];(try unfold aF);(try unfold aJ.no);(try unfold aJ.on);go_simp
  ·exact kB
  ·exact kF
theorem VC (h:aS R w0 a d room us lk up) (k:aa af w0 w) {at':Int} {n:Nat} (hw:di w g a at' n) (hI:aG d) (x:ByteArray) (follow:Bool)
 (hin:bI d at'=0) (h1:¬x=lH) (h2:¬x=lI) (h3:255<x.size):Calls Tryz.prog 76 #[.pointer (some ⟨g,0,none⟩),.string x,.bool follow] w (vB w g a at' ⟨.no,⟨#[]⟩,18,n⟩):=by
 have cw:=xX h k hw hI
 rw[hin]at cw
 have hgB:¬g=w.heap.size:=by have:=hw.lt;omega
 have e1:(x.toList==[46])=false:=Fg h1
 have e2:(x.toList==[46,46])=false:=Fj h2
 go_enter Tryz.func76,Tryz.ntmps76
 go_wp2_with(go_at_call 75;refine cw.out.mono ?_;rintro e w1 ⟨rfl,hk1⟩;have B0:=boxed hk1 0 _ rfl;have B1:=boxed hk1 1 _ rfl;have B2:=boxed hk1 2 _ rfl;have FB:=nW hk1;have hw1:=hw.on ((aa.refl af w).alloc (.cells #[.int .i64 0,.int .i64 0,.string ⟨#[]⟩] 75) |>.trans hk1);have C0:=hw1.c0;have C1:=hw1.c1;have C2:=hw1.c2;have FZ:=hw1.fz;have dc:w.heap.size<w1.heap.size:=Nat.lt_of_lt_of_le (by simp) hk1.size;have kw:aa (fun b=>b=g) w w1:=aa.bC (((aa.refl af w).alloc (.cells #[.int .i64 0,.int .i64 0,.string ⟨#[]⟩] 75)).trans hk1))
 (try simp only[Exit.inBlock,Exit.then])
 refine bodyPost_ret (v:=.tuple #[aF .no,.string ⟨#[]⟩,.int .i64 18]) ?_ rfl ⟨rfl,?_,?_⟩
 ·rw[lJ rfl];(try unfold aF);(try unfold aJ.no);(try unfold aJ.on);go_simp
 ·exact kB
 ·exact kF
end
end Go.Proofs.YtnanhmfpikddkaaGreatDoor
