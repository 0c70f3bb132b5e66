/-
  Contracts of package walk: step at a name.
-/
import Derived.Test.YtnanhmfpikddkaaGreatDoorG07
import Derived.Test.YtnanhmfpikddkaaGreatDoorG03

set_option linter.unusedSimpArgs false
set_option linter.unusedVariables false
set_option maxRecDepth 100000
set_option maxHeartbeats 2000000
namespace Go.Proofs.YtnanhmfpikddkaaGreatDoor
open Go Go.RowKit
section
variable{R:RD} {w0 w w':World} {a g:Nat} {d:ag} {room us:Int} {lk up:Int->Int}
theorem di.next {at':Int} {n:Nat} (h:di w g a at' n) (m:Nat):di (w.setCell ⟨g,2,none⟩ (.int .i64 (m:Int))) g a at' m:=by
 have h0:=cZ (g:=g) (k:=2) (u:=.int .i64 (m:Int)) (j:=0) h.c0
 have h1:=cZ (g:=g) (k:=2) (u:=.int .i64 (m:Int)) (j:=1) h.c1
 have h2:=cZ (g:=g) (k:=2) (u:=.int .i64 (m:Int)) (j:=2) h.c2
 rw[if_neg (by decide)]at h0 h1
 rw[if_pos rfl]at h2
 exact⟨Nat.lt_of_lt_of_le h.lt (cB _ _ _).size,h0,h1,h2,fun j=>(j6 _ _ _ _).trans (h.fz j)⟩
theorem di.goto {at':Int} {n:Nat} (h:di w g a at' n) (i:Int):di (w.setCell ⟨g,1,none⟩ (.int .i64 i)) g a i n:=by
 have h0:=cZ (g:=g) (k:=1) (u:=.int .i64 i) (j:=0) h.c0
 have h1:=cZ (g:=g) (k:=1) (u:=.int .i64 i) (j:=1) h.c1
 have h2:=cZ (g:=g) (k:=1) (u:=.int .i64 i) (j:=2) h.c2
 rw[if_neg (by decide)]at h0 h2
 rw[if_pos rfl]at h1
 exact⟨Nat.lt_of_lt_of_le h.lt (cB _ _ _).size,h0,h1,h2,fun j=>(j6 _ _ _ _).trans (h.fz j)⟩
structure C3 (w:World) (b:Nat) (v0 v1 v2:Value):Prop where
 lt:b<w.heap.size
 c0:w.cell? ⟨b,0,none⟩=some v0
 c1:w.cell? ⟨b,1,none⟩=some v1
 c2:w.cell? ⟨b,2,none⟩=some v2
 fz:∀j,w.frozen? ⟨b,j,none⟩=false
theorem C3.keep {F:Nat->Prop} {b:Nat} {v0 v1 v2:Value} (h:C3 w b v0 v1 v2) (k:aa F w w') (hF:¬F b):C3 w' b v0 v1 v2 :=
 ⟨Nat.lt_of_lt_of_le h.lt k.size,(k.cell (p:=⟨b,0,none⟩) h.lt hF).trans h.c0,(k.cell (p:=⟨b,1,none⟩) h.lt hF).trans h.c1,(k.cell (p:=⟨b,2,none⟩) h.lt hF).trans h.c2,fun j=>(k.frozen (p:=⟨b,j,none⟩) h.lt hF).trans (h.fz j)⟩
theorem C3.on {b:Nat} {v0 v1 v2:Value} (h:C3 w b v0 v1 v2) (k:aa af w w'):C3 w' b v0 v1 v2:=h.keep k (fun h=>h)
theorem C3.set {b:Nat} {v0 v1 v2:Value} (h:C3 w b v0 v1 v2) (u0 u1 u2:Value):C3 (((w.setCell ⟨b,0,none⟩ u0).setCell ⟨b,1,none⟩ u1).setCell ⟨b,2,none⟩ u2) b u0 u1 u2:=by
 have step:∀(W:World) (i:Nat) (u x0 x1 x2:Value),C3 W b x0 x1 x2->C3 (W.setCell ⟨b,i,none⟩ u) b (if 0=i then u else x0) (if 1=i then u else x1) (if 2=i then u else x2):=fun W i u x0 x1 x2 hW=>by
  have e:∀j x,W.cell? ⟨b,j,none⟩=some x->(W.setCell ⟨b,i,none⟩ u).cell? ⟨b,j,none⟩=some (if j=i then u else x):=fun j x hx=>by
   have:=cZ (g:=b) (k:=i) (u:=u) (j:=j) hx
   rw[this]
  exact⟨Nat.lt_of_lt_of_le hW.lt (cB _ _ _).size,e 0 _ hW.c0,e 1 _ hW.c1,e 2 _ hW.c2,fun j=>(j6 _ _ _ _).trans (hW.fz j)⟩
 have s0:=step _ 0 u0 _ _ _ h
 have s1:=step _ 1 u1 _ _ _ s0
 have s2:=step _ 2 u2 _ _ _ s1
 simpa using s2
theorem kN {w w1:World} {v0 v1 v2:Value} {T:TypeId} (k:aa af (w.alloc (.cells #[v0,v1,v2] T)) w1):C3 w1 w.heap.size v0 v1 v2 :=
 ⟨Nat.lt_of_lt_of_le (by simp) k.size,boxed k 0 _ rfl,boxed k 1 _ rfl,boxed k 2 _ rfl,nW k⟩
theorem VD (h:aS R w0 a d room us lk up) (k:aa af w0 w) (Fv:w0.heap.size<=g) {at':Int} {n:Nat} (hw:di w g a at' n) (hI:aG d) (hs:aP d) (x:ByteArray) (follow:Bool) (hn:n<=40)
 (hin:bI d at'=0) (h1:¬x=lH) (h2:¬x=lI) (h3:¬255<x.size):Calls Tryz.prog 76 #[.pointer (some ⟨g,0,none⟩),.string x,.bool follow] w (vB w g a at' (ck d up at' x follow n)):=by
 have HQ:=Lib.hid (show ck d up at' x follow n=if bH d at' x≠0∨follow=false then⟨⟨aN d at' x,at',x⟩,⟨#[]⟩,0,n⟩
  else if (nd d (aN d at' x)).kind≠3 then⟨⟨aN d at' x,at',x⟩,⟨#[]⟩,0,n⟩
  else if 40<n+1 then⟨.no,⟨#[]⟩,17,n+1⟩
  else⟨⟨aN d at' x,at',x⟩,ij d (aN d at' x),0,n+1⟩by
  unfold ck
  rw[if_neg (by rw[hin];simp),if_neg h1,if_neg h2,if_neg h3])
 generalize ck d up at' x follow n=Q at *
 have cw:=xX h k hw hI
 rw[hin]at cw
 have fR:=Lib.hid (fun(w1:World) (hk:aa af w0 w1)=>y8 (h.ai hk) at' x (gx hs at'))
 obtain⟨lS,Mj⟩:∃lS,aN d at' x=lS:=⟨_,rfl⟩
 obtain⟨le,hle⟩:∃le,bH d at' x=le:=⟨_,rfl⟩
 rw[Mj,hle]at HQ fR
 clear Mj hle
 obtain⟨er,her⟩:∃er:Int,er=if has d lS then 0 else 12:=⟨_,rfl⟩
 have vC:=Lib.hid (fun(w1:World) (hk:aa af w0 w1)=>Fu (h.ai hk) lS er her)
 have Ac:=Lib.hid (fun(w1:World) (hk:aa af w0 w1)=>y6 (h.ai hk) lS)
 clear her
 generalize mH d lS=de at *
 generalize ij d lS=dt at *
 generalize(nd d lS).kind=kd at *
 have hgB:¬g=w.heap.size:=by have:=hw.lt;omega
 have hgl:=hw.lt
 have e1:(x.toList==[46])=false:=Fg h1
 have e2:(x.toList==[46,46])=false:=Fj h2
 go_enter Tryz.func76,Tryz.ntmps76;go_upto_region 11 with(first|(go_at_call 75;refine cw.out.mono ?_;rintro e w1 ⟨rfl,hk1⟩;have B0:=boxed hk1 0 _ rfl;have B1:=boxed hk1 1 _ rfl;have B2:=boxed hk1 2 _ rfl;have FB:=nW hk1;have hw1:=hw.on ((aa.refl af w).alloc (.cells #[.int .i64 0,.int .i64 0,.string ⟨#[]⟩] 75) |>.trans hk1);have C0:=hw1.c0;have C1:=hw1.c1;have C2:=hw1.c2;have FZ:=hw1.fz;have dc:w.heap.size<w1.heap.size:=Nat.lt_of_lt_of_le (by simp) hk1.size;have kw:aa (fun b=>b=g) w w1:=aa.bC (((aa.refl af w).alloc (.cells #[.int .i64 0,.int .i64 0,.string ⟨#[]⟩] 75)).trans hk1)))
 have kz:aa af w0 w1:=(k.trans ((aa.refl af w).alloc _)).trans hk1
 go_cut [8,11]from 8 to 62 (fun y x wx=>x=.int .i64 lS∧y=.int .i64 le∧aa af w1 wx)
 case first =>
  have kr:=aa.refl af w1
  have bh:=kr.drew
  have d0:=(hw1.on bh).c0
  have d1:=(hw1.on bh).c1
  go_region_held3 (fun wz=>wz.cell? ⟨g,0,none⟩=some (.pointer (some ⟨a,0,none⟩))∧wz.cell? ⟨g,1,none⟩=some (.int .i64 at')∧aa af w1 wz) (refine⟨?_,?_,?_⟩<;>with_reducible assumption)
   (first|(go_at_call 114;refine(fR.out _ (kz.trans kB)).mono ?_;rintro e w2 ⟨rfl,hk2⟩;have bV:aa af w1 w2:=aa.trans kB hk2;have z0:=(hw1.on bV).c0;have z1:=(hw1.on bV).c1))
  all_goals(go_wp2_with fail;go_meet;exact⟨rfl,rfl,kB⟩)
 case rest =>
  obtain⟨rfl,rfl,hk2⟩:=hcut
  clear B0 B1 B2 C0 C1 C2 kw fR cw
  replace kz:=kz.trans hk2
  replace hk1:=hk1.trans hk2
  clear dc hw1 FZ FB hk2
  generalize wc=w1 at *
  have KB:=kN hk1
  have hw1:=hw.on ((aa.refl af w).alloc (.cells #[.int .i64 0,.int .i64 0,.string ⟨#[]⟩] 75) |>.trans hk1)
  have kw:aa (fun b=>b=g) w w1:=aa.bC (((aa.refl af w).alloc (.cells #[.int .i64 0,.int .i64 0,.string ⟨#[]⟩] 75)).trans hk1)
  have WJ:=k.size
  clear hk1
  have B0:=KB.c0;have B1:=KB.c1;have B2:=KB.c2;have FB:=KB.fz;have C0:=hw1.c0;have C1:=hw1.c1;have C2:=hw1.c2;have FZ:=hw1.fz;have dc:=KB.lt;have jJ:=hw1.lt
  go_upto_region 13 with fail
  replace KB:=KB.set (.int .i64 lS) (.int .i64 at') (.string x)
  have qC:aa (fun b=>b=g) w (((w1.setCell ⟨w.heap.size,0,none⟩ (.int .i64 lS)).setCell ⟨w.heap.size,1,none⟩ (.int .i64 at')).setCell ⟨w.heap.size,2,none⟩ (.string x)):=kB
  have Fw:aa af w0 (((w1.setCell ⟨w.heap.size,0,none⟩ (.int .i64 lS)).setCell ⟨w.heap.size,1,none⟩ (.int .i64 at')).setCell ⟨w.heap.size,2,none⟩ (.string x)):=kB
  have oA:di (((w1.setCell ⟨w.heap.size,0,none⟩ (.int .i64 lS)).setCell ⟨w.heap.size,1,none⟩ (.int .i64 at')).setCell ⟨w.heap.size,2,none⟩ (.string x)) g a at' n:=kF
  generalize(((w1.setCell ⟨w.heap.size,0,none⟩ (.int .i64 lS)).setCell ⟨w.heap.size,1,none⟩ (.int .i64 at')).setCell ⟨w.heap.size,2,none⟩ (.string x))=w2 at *
  clear B0 B1 B2 FB C0 C1 C2 FZ dc jJ
  clear kw kz hw1
  have hw1:=oA
  have B0:=KB.c0;have B1:=KB.c1;have B2:=KB.c2;have FB:=KB.fz;have C0:=hw1.c0;have C1:=hw1.c1;have C2:=hw1.c2;have FZ:=hw1.fz;have dc:=KB.lt;have jJ:=hw1.lt
  by_cases hA:le≠0∨follow=false
  ·have gN:=HQ.out
   rw[if_pos hA]at gN
   have jO:=Lib.hid gN
   clear HQ gN
   have hA':(le != 0)=true∨((le != 0)=false∧follow=false):=by
    by_cases he:le=0
    ·exact .inr ⟨by simp[he],hA.resolve_left (fun h=>h he)⟩
    ·exact .inl (by simpa using he)
   rcases hA' with hA'|⟨hA',rfl⟩
   all_goals
    go_wp2_with fail
    (try simp only[Exit.inBlock,Exit.then])
    refine bodyPost_ret (v:=.tuple #[aF ⟨lS,at',x⟩,.string ⟨#[]⟩,.int .i64 0]) ?_ rfl ?_
    ·rw[lJ rfl];(try unfold aF);(try unfold aJ.no);(try unfold aJ.on);go_simp
    ·rw[jO.out]
     refine⟨rfl,?_,?_⟩
     ·exact kB
     ·exact kF
  ·have gN:=HQ.out
   rw[if_neg hA]at gN
   have eB:le=0:=Classical.byContradiction fun hh=>hA (.inl hh)
   have dK:follow=true:=by cases follow with
    | true=>rfl
    | false=>exact absurd (.inr rfl) hA
   clear hA HQ
   subst eB dK
   have HQ:=Lib.hid gN
   clear gN
   go_upto_region 16 with(first|(go_at_call 28;go_loud(refine(vC.out _ Fw).mono ?_);rintro e w3 ⟨m,l,hh,z,hm,rfl,hk2⟩;(replace KB:=KB.on hk2);(have qo:=oA.on hk2);(have Mk:=Fw.trans hk2);(have Ml:aa (fun b=>b=g) w w3:=qC.trans hk2.bC);clear B0 B1 B2 FB C0 C1 C2 FZ dc jJ;clear hw1;have hw1:=qo;have B0:=KB.c0;have B1:=KB.c1;have B2:=KB.c2;have FB:=KB.fz;have C0:=hw1.c0;have C1:=hw1.c1;have C2:=hw1.c2;have FZ:=hw1.fz;have dc:=KB.lt;have jJ:=hw1.lt))
   clear hw1 vC oA Fw qC
   have k4:aa af w3 (w3.alloc (.cells #[.int .i64 kd,.int .i64 m,.int .i64 l,.int .i64 hh,.int .i64 z] 29)):=(aa.refl _ _).alloc _
   have I0:=boxed (aa.refl af (w3.alloc (.cells #[.int .i64 kd,.int .i64 m,.int .i64 l,.int .i64 hh,.int .i64 z] 29))) 0 _ rfl
   generalize w3.alloc (.cells #[.int .i64 kd,.int .i64 m,.int .i64 l,.int .i64 hh,.int .i64 z] 29)=w4 at *
   replace KB:=KB.on k4
   have hw1:=qo.on k4
   have VE:=Mk.trans k4
   have VF:aa (fun b=>b=g) w w4:=Ml.trans k4.bC
   clear B0 B1 B2 FB C0 C1 C2 FZ dc jJ
   have B0:=KB.c0;have B1:=KB.c1;have B2:=KB.c2;have FB:=KB.fz;have C0:=hw1.c0;have C1:=hw1.c1;have C2:=hw1.c2;have FZ:=hw1.fz;have dc:=KB.lt;have jJ:=hw1.lt
   have VG:¬w.heap.size=g:=fun e=>hgB e.symm
   clear qo Mk Ml k4
   by_cases h3:kd=3
   ·have gN:=HQ.out
    rw[if_neg (by simp[h3])]at gN
    clear HQ
    have HQ:=Lib.hid gN
    clear gN
    subst h3
    go_upto_region 19 with fail
    have e1:((n+1:Nat):Int)=(n:Int)+1:=by omega
    rw[<- e1]
    have hg0:w0.heap.size<=g:=Fv
    have VH:aa af w0 (w4.setCell ⟨g,2,none⟩ (.int .i64 ((n+1:Nat):Int))):=kB
    have WK:aa (fun b=>b=g) w (w4.setCell ⟨g,2,none⟩ (.int .i64 ((n+1:Nat):Int))):=kB
    replace KB:=KB.keep (cB w4 ⟨g,2,none⟩ (.int .i64 ((n+1:Nat):Int))) VG
    replace hw1:=hw1.next (n+1)
    clear B0 B1 B2 FB C0 C1 C2 FZ dc jJ
    clear I0 VF VE
    generalize w4.setCell ⟨g,2,none⟩ (.int .i64 ((n+1:Nat):Int))=w5 at *
    have B0:=KB.c0;have B1:=KB.c1;have B2:=KB.c2;have FB:=KB.fz;have C0:=hw1.c0;have C1:=hw1.c1;have C2:=hw1.c2;have FZ:=hw1.fz;have dc:=KB.lt;have jJ:=hw1.lt
    by_cases rI:40<n+1
    ·have gN:=HQ.out
     rw[if_pos rI]at gN
     clear HQ
     have jO:=Lib.hid gN
     clear gN
     obtain rfl:n=40:=by omega
     go_wp2_with fail
     (try simp only[Exit.inBlock,Exit.then])
     refine bodyPost_ret (v:=.tuple #[aF .no,.string ⟨#[]⟩,.int .i64 17]) ?_ rfl ?_
     ·rw[lJ rfl];(try unfold aF);(try unfold aJ.no);(try unfold aJ.on);go_simp
     ·rw[jO.out]
      refine⟨rfl,?_,?_⟩
      ·exact kB
      ·exact kF
    ·have gN:=HQ.out
     rw[if_neg rI]at gN
     clear HQ
     have jO:=Lib.hid gN
     clear gN
     go_wp2_with(first|(go_at_call 32;refine(Ac.out _ VH).mono ?_;rintro e w6 ⟨rfl,rfl⟩))
     (try simp only[Exit.inBlock,Exit.then])
     refine bodyPost_ret (v:=.tuple #[aF ⟨lS,at',x⟩,.string dt,.int .i64 0]) ?_ rfl ?_
     ·rw[lJ rfl];(try unfold aF);(try unfold aJ.no);(try unfold aJ.on);go_simp
     ·rw[jO.out]
      refine⟨rfl,?_,?_⟩
      ·exact kB
      ·exact kF
   ·have gN:=HQ.out
    rw[if_pos h3]at gN
    have jO:=Lib.hid gN
    clear HQ gN
    have h3':(kd != 3)=true:=by simpa using h3
    go_wp2_with fail
    (try simp only[Exit.inBlock,Exit.then])
    refine bodyPost_ret (v:=.tuple #[aF ⟨lS,at',x⟩,.string ⟨#[]⟩,.int .i64 0]) ?_ rfl ?_
    ·rw[lJ rfl];(try unfold aF);(try unfold aJ.no);(try unfold aJ.on);go_simp
    ·rw[jO.out]
     refine⟨rfl,?_,?_⟩
     ·exact kB
     ·exact kF
end
section
variable{R:RD} {w0 w w':World} {a g:Nat} {d:ag} {room us:Int} {lk up:Int->Int}
theorem VI (h:aS R w0 a d room us lk up) (k:aa af w0 w) (Fv:w0.heap.size<=g) {at':Int} {n:Nat} (hw:di w g a at' n) (hI:aG d) (hs:aP d) (x:ByteArray) (follow:Bool) (hn:n<=40) :
 Calls Tryz.prog 76 #[.pointer (some ⟨g,0,none⟩),.string x,.bool follow] w (vB w g a at' (ck d up at' x follow n)):=by
 by_cases h0:bI d at'≠0
 ·have:ck d up at' x follow n=⟨.no,⟨#[]⟩,bI d at',n⟩:=by unfold ck;rw[if_pos h0]
  rw[this]
  exact Vz h k hw hI x follow h0
 ·have hin:bI d at'=0:=by simpa using h0
  by_cases h1:x=lH
  ·have:ck d up at' x follow n=⟨.on at',⟨#[]⟩,0,n⟩:=by unfold ck;rw[if_neg h0,if_pos h1]
   rw[this,h1]
   exact VA h k hw hI follow hin
  by_cases h2:x=lI
  ·have:ck d up at' x follow n=⟨.on (up at'),⟨#[]⟩,0,n⟩:=by unfold ck;rw[if_neg h0,if_neg h1,if_pos h2]
   rw[this,h2]
   refine VB h k hw hI follow hin ?_
   unfold bI at hin
   exact Classical.byContradiction fun hf=>by rw[if_pos hf]at hin;exact hf hin
  by_cases h3:255<x.size
  ·have:ck d up at' x follow n=⟨.no,⟨#[]⟩,18,n⟩:=by unfold ck;rw[if_neg h0,if_neg h1,if_neg h2,if_pos h3]
   rw[this]
   exact VC h k hw hI x follow hin h1 h2 h3
  ·exact VD h k Fv hw hI hs x follow hn hin h1 h2 h3
theorem VJ (S:Nat->Prop) (w:World) (p:Option Addr) (c:Nat) (l:List ByteArray) (h:bt jX S w p c l) (t:ByteArray) (slash:Bool)
 (hl:∀x∈l,x.size<=4095) (hn:l.length<=4096) (ht:t.size<=2147483648) :
 Calls Tryz.prog 77 #[.string t,.slice p l.length c,.bool slash] w fun e w'=>e=.returned (.string (mM t l slash))∧w'=w:=by
 have hcap:=h.cap
 have hmax:=h.max
 unfold maxLen at hmax
 have HL:=Lib.hid hl
 clear hl
 have HR:=Lib.hid (show mM t l slash=if slash&&!cg (l.foldl eK t)then l.foldl eK t++dL else l.foldl eK t from rfl)
 have HF:=Lib.hid (fun k:Nat=>Ff (l.take k) 4095 (fun x hx=>HL.out x (List.mem_of_mem_take hx)) t)
 generalize mM t l slash=Q at *
 go_enter Tryz.func77,Tryz.ntmps77
 go_wp2
 go_loop [7,13] (fun s i=>∃k:Nat,k<=l.length∧i=.int .i64 k∧s=.string ((l.take k).foldl eK t)) (fun _ i=>l.length-(intOf i).toNat)
 case atStart=>exact⟨0,Nat.zero_le _,rfl,rfl⟩
 case round =>
  obtain⟨k,hk,rfl,rfl⟩:=hrel
  have hf:=HF.out k
  rw[List.length_take,Nat.min_eq_left hk]at hf
  by_cases hlt:k<l.length
  ·obtain⟨x,hx⟩:∃x,l[k]?=some x:=⟨_,List.getElem?_eq_getElem hlt⟩
   obtain⟨gb,off,rfl,hS,hg,c0⟩:=h.str hx
   have hxs:=HL.out x (List.mem_of_getElem? hx)
   have HT:=Lib.hid (show(l.take (k+1)).foldl eK t=eK ((l.take k).foldl eK t) x by rw[List.take_add_one,hx];simp)
   clear hx
   generalize(l.take k).foldl eK t=s at *
   go_wp2_with(go_at_call 115;refine(SS _ _ _ (by omega) (by omega)).mono ?_;rintro e w' ⟨rfl,rfl⟩)
   go_round
   case rel=>exact⟨k+1,by omega,by go_num,by rw[HT.out]⟩
   case measure=>simp[intOf];omega
  ·obtain rfl:k=l.length:=by omega
   rw[List.take_length]at hf ⊢
   generalize l.foldl eK t=s at *
   cases slash with
   | false =>
     go_wp2_with fail
     go_ret
     refine⟨?_,rfl⟩
     rw[HR.out]
     simp
   | true =>
     cases he:cg s with
     | false =>
       rw[he]at HR
       have HE:=Lib.hid (hs1 s w (by omega))
       rw[he]at HE
       go_wp2_with(go_at_call 66;refine HE.out.mono ?_;rintro e w' ⟨rfl,rfl⟩)
       go_ret
       refine⟨?_,rfl⟩
       rw[HR.out]
       simp
     | true =>
       rw[he]at HR
       have HE:=Lib.hid (hs1 s w (by omega))
       rw[he]at HE
       go_wp2_with(go_at_call 66;refine HE.out.mono ?_;rintro e w' ⟨rfl,rfl⟩)
       go_ret
       refine⟨?_,rfl⟩
       rw[HR.out]
       simp
theorem VK (h:aS R w a d room us lk up) (p:aJ) (slash:Bool) :
 Calls Tryz.prog 78 #[.pointer (some ⟨a,0,none⟩),aF p,.bool slash] w fun e w'=>e=.returned (.tuple #[aF (jC d p slash).1,.int .i64 (jC d p slash).2])∧aa af w w':=by
 obtain⟨er,her⟩:∃er:Int,er=if has d p.node then 0 else 12:=⟨_,rfl⟩
 have vC:=Lib.hid (fun(w1:World) (hk:aa af w w1)=>Fu (h.ai hk) p.node er her)
 clear her
 obtain⟨node,dir,name⟩:=p
 have HQ:=Lib.hid (show jC d ⟨node,dir,name⟩ slash=if slash=false∨node=0 then(⟨node,dir,name⟩,0)else if (nd d node).kind≠2 then(.no,14)else(⟨node,dir,name⟩,0)from rfl)
 generalize jC d ⟨node,dir,name⟩ slash=Q at *
 unfold aF
 simp only at vC ⊢
 generalize(nd d node).kind=kd at *
 go_enter Tryz.func78,Tryz.ntmps78
 cases slash with
 | false =>
   go_wp2_with fail
   (try simp only[Exit.inBlock,Exit.then])
   refine bodyPost_ret (v:=.tuple #[aF ⟨node,dir,name⟩,.int .i64 0]) ?_ rfl ?_
   ·rw[results_cell_tmp rfl];unfold aF;go_simp
   ·refine⟨by rw[HQ.out];simp[aF],?_⟩
    repeat exact kB
 | true =>
   by_cases h0:node=0
   ·subst h0
    go_wp2_with fail
    (try simp only[Exit.inBlock,Exit.then])
    refine bodyPost_ret (v:=.tuple #[aF ⟨0,dir,name⟩,.int .i64 0]) ?_ rfl ?_
    ·rw[results_cell_tmp rfl];unfold aF;go_simp
    ·refine⟨by rw[HQ.out];simp[aF],?_⟩
     repeat exact kB
   ·have h0':(node==0)=false:=by simpa using h0
    have k1:aa af w (w.alloc (.cells #[.int .i64 node,.int .i64 dir,.string name] 75)):=(aa.refl _ _).alloc _
    have KA:=kN (aa.refl af (w.alloc (.cells #[.int .i64 node,.int .i64 dir,.string name] 75)))
    have e1:(w.alloc (.cells #[.int .i64 node,.int .i64 dir,.string name] 75)).heap.size=w.heap.size+1:=by simp
    go_upto_region 3 with fail
    generalize w.alloc (.cells #[.int .i64 node,.int .i64 dir,.string name] 75)=w1 at *
    have k2:aa af w1 (w1.alloc (.cells #[.int .i64 0,.int .i64 0,.string ⟨#[]⟩] 75)):=(aa.refl _ _).alloc _
    have KB:=kN (aa.refl af (w1.alloc (.cells #[.int .i64 0,.int .i64 0,.string ⟨#[]⟩] 75)))
    rw[e1]at KB
    replace KA:=KA.on k2
    replace k1:=k1.trans k2
    try simp only[e1]
    generalize w1.alloc (.cells #[.int .i64 0,.int .i64 0,.string ⟨#[]⟩] 75)=w2 at *
    clear k2 e1
    have A0:=KA.c0
    have A1:=KA.c1
    have A2:=KA.c2
    have AZ:=KA.fz
    have B0:=KB.c0
    have B1:=KB.c1
    have B2:=KB.c2
    have FB:=KB.fz
    have dc:=KB.lt
    have Bi:=KA.lt
    by_cases h2:kd=2
    ·subst h2
     go_wp2_with(first|(go_at_call 28;go_loud(refine(vC.out _ k1).mono ?_);rintro e w3 ⟨m,l,hh,z,hm,rfl,aV⟩;(replace KA:=KA.on aV);(replace KB:=KB.on aV);(replace k1:=k1.trans aV);clear A0 A1 A2 AZ B0 B1 B2 FB dc Bi;have A0:=KA.c0;have A1:=KA.c1;have A2:=KA.c2;have AZ:=KA.fz;have B0:=KB.c0;have B1:=KB.c1;have B2:=KB.c2;have FB:=KB.fz;have dc:=KB.lt;have Bi:=KA.lt))
     (try simp only[Exit.inBlock,Exit.then])
     refine bodyPost_ret (v:=.tuple #[aF ⟨node,dir,name⟩,.int .i64 0]) ?_ rfl ?_
     ·rw[results_cell_tmp rfl];unfold aF;go_simp
     ·refine⟨by rw[HQ.out];simp[aF,h0],?_⟩
      repeat exact kB
    ·have h2':(kd != 2)=true:=by simpa using h2
     go_wp2_with(first|(go_at_call 28;go_loud(refine(vC.out _ k1).mono ?_);rintro e w3 ⟨m,l,hh,z,hm,rfl,aV⟩;(replace KA:=KA.on aV);(replace KB:=KB.on aV);(replace k1:=k1.trans aV);clear A0 A1 A2 AZ B0 B1 B2 FB dc Bi;have A0:=KA.c0;have A1:=KA.c1;have A2:=KA.c2;have AZ:=KA.fz;have B0:=KB.c0;have B1:=KB.c1;have B2:=KB.c2;have FB:=KB.fz;have dc:=KB.lt;have Bi:=KA.lt))
     (try simp only[Exit.inBlock,Exit.then])
     refine bodyPost_ret (v:=.tuple #[aF .no,.int .i64 14]) ?_ rfl ?_
     ·rw[results_cell_tmp rfl];unfold aF aJ.no;go_simp
     ·refine⟨by rw[HQ.out];simp[aF,h0,h2,aJ.no],?_⟩
      repeat exact kB
end
end Go.Proofs.YtnanhmfpikddkaaGreatDoor
namespace Go.Proofs.YtnanhmfpikddkaaGreatDoor
theorem CY {d:ag} {up:Int->Int} {slash follow:Bool} {l:List ByteArray} {at':Int} {n:Nat} (hl:l≠[]) (p q:aJ):scan d up slash follow l at' n p=scan d up slash follow l at' n q:=by
 cases l with
 | nil=>exact absurd rfl hl
 | cons x r=>rfl
end Go.Proofs.YtnanhmfpikddkaaGreatDoor
