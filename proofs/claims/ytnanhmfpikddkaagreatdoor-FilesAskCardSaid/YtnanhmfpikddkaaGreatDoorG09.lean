/-
  Contracts of package walk: Find.
-/
import Derived.Test.YtnanhmfpikddkaaGreatDoorG08
import Derived.Test.YtnanhmfpikddkaaGreatDoorG03
import Derived.Test.YtnanhmfpikddkaaGreatDoorG04
import Derived.Test.YtnanhmfpikddkaaGreatDoorG01

set_option linter.unusedSimpArgs false
set_option linter.unusedVariables false
set_option maxRecDepth 100000
set_option maxHeartbeats 40000000
namespace Go.Proofs.YtnanhmfpikddkaaGreatDoor
open Go Go.RowKit
section
variable{R:RD} {w0 w w':World} {a g:Nat} {d:ag} {room us:Int} {lk up:Int->Int}
theorem L6 (d:ag) (up:Int->Int) (follow:Bool) (fuel:Nat) (from':Int) (s:ByteArray) (n:Nat) :
 eD d up follow (fuel+1) from' s n=if cO s≠0 then(.no,cO s)
 else if iG s=[]then(.on (if fj s then 1 else from'),bI d (if fj s then 1 else from'))
 else match scan d up (cg s) follow (iG s) (if fj s then 1 else from') n (.on from')with
  | .fin p=>jC d p (cg s)
  | .err e=>(.no,e)
  | .again at' s' n'=>eD d up follow fuel at' s' n':=rfl
structure nL (w:World) (a:Nat) (w':World) (at':Int) (n:Nat) (p:aJ):Prop where
 keeps:aa af w w'
 dg:di w' (w.heap.size+1) a at' n
 box:C3 w' w.heap.size (.int .i64 0) (.int .i64 0) (.string ⟨#[]⟩)
 bA:C3 w' (w.heap.size+1+1) (.int .i64 p.node) (.int .i64 p.dir) (.string p.name)
theorem nL.on {w' w2:World} {at':Int} {n:Nat} {p:aJ} (h:nL w a w' at' n p) (k:aa af w' w2):nL w a w2 at' n p :=
 ⟨h.keeps.trans k,h.dg.on k,h.box.on k,h.bA.on k⟩
theorem nL.goto {w':World} {at':Int} {n:Nat} {p:aJ} (h:nL w a w' at' n p) (i:Int):nL w a (w'.setCell ⟨w.heap.size+1,1,none⟩ (.int .i64 i)) i n p:=by
 have k:aa (fun b=>b=w.heap.size+1) w' (w'.setCell ⟨w.heap.size+1,1,none⟩ (.int .i64 i)):=aa.setCell (F:=fun b=>b=w.heap.size+1) (aa.refl _ w') (p:=⟨w.heap.size+1,1,none⟩) (Or.inl rfl) _
 exact⟨h.keeps.setCell (p:=⟨w.heap.size+1,1,none⟩) (Or.inr (Nat.le_succ _)) _,h.dg.goto i,h.box.keep k (by omega),h.bA.keep k (by omega)⟩
theorem nL.step {w' w2:World} {at' qK:Int} {n m:Nat} {p:aJ} (h:nL w a w' at' n p) (k:aa (fun b=>b=w.heap.size+1) w' w2) (hw:di w2 (w.heap.size+1) a qK m):nL w a w2 qK m p :=
 ⟨h.keeps.step k (fun g hg=>.inr (by omega)),hw,h.box.keep k (by omega),h.bA.keep k (by omega)⟩
theorem tY (w':World) (b:Nat) (v0 v1 v2:Value):aa (fun x=>x=b) w' (((w'.setCell ⟨b,0,none⟩ v0).setCell ⟨b,1,none⟩ v1).setCell ⟨b,2,none⟩ v2) :=
 aa.setCell (F:=fun x=>x=b) (aa.setCell (F:=fun x=>x=b) (aa.setCell (F:=fun x=>x=b) (aa.refl _ w') (p:=⟨b,0,none⟩) (Or.inl rfl) _) (p:=⟨b,1,none⟩) (Or.inl rfl) _) (p:=⟨b,2,none⟩) (Or.inl rfl) _
theorem VL (w':World) (b i:Nat) (v:Value):aa (fun x=>x=b) w' (w'.setCell ⟨b,i,none⟩ v):=aa.setCell (F:=fun x=>x=b) (aa.refl _ w') (p:=⟨b,i,none⟩) (Or.inl rfl) _
theorem nL.put {w':World} {at':Int} {n:Nat} {p:aJ} (h:nL w a w' at' n p) (q:aJ) :
 nL w a (((w'.setCell ⟨w.heap.size+1+1,0,none⟩ (.int .i64 q.node)).setCell ⟨w.heap.size+1+1,1,none⟩ (.int .i64 q.dir)).setCell ⟨w.heap.size+1+1,2,none⟩ (.string q.name)) at' n q :=
 have k:=tY w' (w.heap.size+1+1) (.int .i64 q.node) (.int .i64 q.dir) (.string q.name)
 ⟨h.keeps.step k (fun g hg=>.inr (by omega)),h.dg.keep k (by omega),h.box.keep k (by omega),h.bA.set _ _ _⟩
structure Bj (d:ag) (up:Int->Int) (follow:Bool) (F:aJ × Int) (w:World) (a:Nat) (w':World) (s:ByteArray) (at':Int) (n fuel:Nat) (p:aJ):Prop where
 size:s.size<=4294967280
 xN:n<=40
 fu:41<=n+fuel
 eq:eD d up follow fuel at' s n=F
 cs:nL w a w' at' n p
structure VM (d:ag) (up:Int->Int) (slash follow:Bool) (O:Out) (l:List ByteArray) (w:World) (a:Nat) (w':World) (p1:Option Addr) (c1 k:Nat) (at':Int) (n0 n:Nat) (p:aJ):Prop where
 le:k<=l.length
 xN:n<=40
 n0:n0<=n
 eq:scan d up slash follow (l.drop k) at' n p=O
 cs:nL w a w' at' n p
 row:bt jX (fun g=>w.heap.size+1+1<g) w' p1 c1 l
theorem L9 (d:ag) (up:Int->Int) (slash follow:Bool) (x:ByteArray) (r:List ByteArray) (at':Int) (n:Nat) (p:aJ):scan d up slash follow (x::r) at' n p =
 if (ck d up at' x (!r.isEmpty||slash||follow) n).e≠0 then .err (ck d up at' x (!r.isEmpty||slash||follow) n).e
 else if (ck d up at' x (!r.isEmpty||slash||follow) n).t≠⟨#[]⟩then .again at' (mM (ck d up at' x (!r.isEmpty||slash||follow) n).t r slash) (ck d up at' x (!r.isEmpty||slash||follow) n).n
 else if (ck d up at' x (!r.isEmpty||slash||follow) n).p.node=0∧r≠[]then .err 12
 else scan d up slash follow r (ck d up at' x (!r.isEmpty||slash||follow) n).p.node (ck d up at' x (!r.isEmpty||slash||follow) n).n (ck d up at' x (!r.isEmpty||slash||follow) n).p:=rfl
theorem IU {d:ag} (hI:aG d) (i:Int):(ij d i).size<=4194304:=by
 unfold ij
 split
 ·exact Nat.zero_le _
 split
 ·exact Nat.zero_le _
 ·exact(hI.node i).data
theorem VN {d:ag} (hI:aG d) (up:Int->Int) (at':Int) (x:ByteArray) (follow:Bool) (n:Nat):(ck d up at' x follow n).t.size<=4194304:=by
 unfold ck
 split;· exact Nat.zero_le _
 split;· exact Nat.zero_le _
 split;· exact Nat.zero_le _
 split;· exact Nat.zero_le _
 split;· exact Nat.zero_le _
 split;· exact Nat.zero_le _
 split
 ·exact Nat.zero_le _
 ·exact IU hI _
theorem L0 (k:Nat) (l:List ByteArray) (sl follow fl:Bool) (hk:k<l.length) (h:fl=(!(l.drop (k+1)).isEmpty||sl||follow)) :
 (((k:Int)==(l.length:Int)-1)=false∧l.drop (k+1)≠[]∧fl=true)∨(((k:Int)==(l.length:Int)-1)=true∧l.drop (k+1)=[]∧sl=true∧fl=true)∨(((k:Int)==(l.length:Int)-1)=true∧l.drop (k+1)=[]∧sl=false∧fl=follow):=by
 by_cases hl:k+1=l.length
 ·have e:l.drop (k+1)=[]:=List.drop_eq_nil_of_le (by omega)
  have hb:((k:Int)==(l.length:Int)-1)=true:=by simp;omega
  rw[e]at h
  cases sl with
  | true=>exact .inr (.inl ⟨hb,e,rfl,by simpa using h⟩)
  | false=>exact .inr (.inr ⟨hb,e,rfl,by simpa using h⟩)
 ·have e:l.drop (k+1)≠[]:=by simp;omega
  have hb:((k:Int)==(l.length:Int)-1)=false:=by simp;omega
  have e2:(l.drop (k+1)).isEmpty=false:=by simpa using e
  exact .inl ⟨hb,e,by rw[h,e2];simp⟩
def xY (d:ag) (up:Int->Int) (follow:Bool) (F:aJ × Int) (w:World) (a:Nat) (from':Int) (a':Act) (w':World):Prop :=
 ∃(fz:Nat->Value) (s:ByteArray) (at':Int) (n fuel:Nat) (p:aJ),a'={ tmps:=List.toArray (.pointer (some ⟨a,0,none⟩)::.int .i64 from'::.string s::.bool follow::fz 4::fz 5::fz 6::fz 7::.pointer (some ⟨w.heap.size,0,none⟩)::fz 9::.pointer (some ⟨w.heap.size+1,0,none⟩)::.pointer (some ⟨w.heap.size+1+1,0,none⟩)::fz 12::fz 13::fz 14::fz 15::fz 16::fz 17::fz 18::fz 19::fz 20::fz 21::fz 22::fz 23::fz 24::fz 25::fz 26::fz 27::fz 28::fz 29::fz 30::fz 31::fz 32::fz 33::fz 34::fz 35::fz 36::fz 37::fz 38::fz 39::fz 40::fz 41::fz 42::fz 43::fz 44::fz 45::fz 46::fz 47::fz 48::fz 49::fz 50::fz 51::fz 52::fz 53::fz 54::fz 55::fz 56::fz 57::fz 58::fz 59::fz 60::fz 61::fz 62::fz 63::fz 64::fz 65::fz 66::fz 67::fz 68::fz 69::fz 70::fz 71::fz 72::fz 73::fz 74::fz 75::fz 76::fz 77::fz 78::fz 79::fz 80::fz 81::fz 82::fz 83::fz 84::fz 85::fz 86::fz 87::fz 88::fz 89::fz 90::fz 91::fz 92::fz 93::fz 94::fz 95::fz 96::fz 97::fz 98::fz 99::fz 100::fz 101::fz 102::fz 103::fz 104::fz 105::fz 106::fz 107::fz 108::fz 109::fz 110::fz 111::fz 112::fz 113::fz 114::fz 115::fz 116::fz 117::fz 118::fz 119::fz 120::fz 121::fz 122::fz 123::fz 124::fz 125::[]),defers:=[] }∧Bj d up follow F w a w' s at' n fuel p
theorem xY.mk {F:aJ × Int} {follow:Bool} {from':Int} {a':Act} {s:ByteArray} {at':Int} {n fuel:Nat} {p:aJ} (h:(fun fz:Nat->Value=>a'={ tmps:=List.toArray (.pointer (some ⟨a,0,none⟩)::.int .i64 from'::.string s::.bool follow::fz 4::fz 5::fz 6::fz 7::.pointer (some ⟨w.heap.size,0,none⟩)::fz 9::.pointer (some ⟨w.heap.size+1,0,none⟩)::.pointer (some ⟨w.heap.size+1+1,0,none⟩)::fz 12::fz 13::fz 14::fz 15::fz 16::fz 17::fz 18::fz 19::fz 20::fz 21::fz 22::fz 23::fz 24::fz 25::fz 26::fz 27::fz 28::fz 29::fz 30::fz 31::fz 32::fz 33::fz 34::fz 35::fz 36::fz 37::fz 38::fz 39::fz 40::fz 41::fz 42::fz 43::fz 44::fz 45::fz 46::fz 47::fz 48::fz 49::fz 50::fz 51::fz 52::fz 53::fz 54::fz 55::fz 56::fz 57::fz 58::fz 59::fz 60::fz 61::fz 62::fz 63::fz 64::fz 65::fz 66::fz 67::fz 68::fz 69::fz 70::fz 71::fz 72::fz 73::fz 74::fz 75::fz 76::fz 77::fz 78::fz 79::fz 80::fz 81::fz 82::fz 83::fz 84::fz 85::fz 86::fz 87::fz 88::fz 89::fz 90::fz 91::fz 92::fz 93::fz 94::fz 95::fz 96::fz 97::fz 98::fz 99::fz 100::fz 101::fz 102::fz 103::fz 104::fz 105::fz 106::fz 107::fz 108::fz 109::fz 110::fz 111::fz 112::fz 113::fz 114::fz 115::fz 116::fz 117::fz 118::fz 119::fz 120::fz 121::fz 122::fz 123::fz 124::fz 125::[]),defers:=[] }) (fun i=>a'.tmps.toList.getD i undef))
 (J:Bj d up follow F w a w' s at' n fuel p):xY d up follow F w a from' a' w':=⟨fun i=>a'.tmps.toList.getD i undef,s,at',n,fuel,p,h,J⟩
theorem Iy (h:aS R w a d room us lk up) (hI:aG d) (hs:aP d) (from':Int) (s0:ByteArray) (follow:Bool) (hsz:s0.size<=4294967280) :
 Calls Tryz.prog 43 #[.pointer (some ⟨a,0,none⟩),.int .i64 from',.string s0,.bool follow] w fun e w' =>
  e=.returned (.tuple #[aF (eD d up follow 41 from' s0 0).1,.int .i64 (eD d up follow 41 from' s0 0).2])∧aa af w w':=by
 obtain⟨F,hF⟩:∃F,eD d up follow 41 from' s0 0=F:=⟨_,rfl⟩
 rw[hF]
 have HF:=Lib.hid hF
 clear hF
 go_enter Tryz.func43,Tryz.ntmps43
 go_wp2
 refine Bn 0 (xY d up follow F w a from') (fun _ w'=>41-(intOf ((w'.cell? ⟨w.heap.size+1,2,none⟩).getD undef)).toNat) rfl ?_ ?_
 ·intro HJ
  have vZ:=Lib.hid HJ
  clear HJ
  go_wp2
  go_step3
  go_step
  go_step
  refine vZ.out _ _ ?_
  refine xY.mk (s:=s0) (at':=from') (n:=0) (fuel:=41) (p:=.on from') rfl ?_
  have e1:(w.alloc (.cells #[.int .i64 0,.int .i64 0,.string ⟨#[]⟩] 75)).heap.size=w.heap.size+1:=by simp
  have k1:aa af w (w.alloc (.cells #[.int .i64 0,.int .i64 0,.string ⟨#[]⟩] 75)):=(aa.refl _ _).alloc _
  have KB:=kN (aa.refl af (w.alloc (.cells #[.int .i64 0,.int .i64 0,.string ⟨#[]⟩] 75)))
  generalize w.alloc (.cells #[.int .i64 0,.int .i64 0,.string ⟨#[]⟩] 75)=wa at *
  have e2:(wa.alloc (.cells #[.pointer (some ⟨a,0,none⟩),.int .i64 from',.int .i64 0,.bool false] 128)).heap.size=w.heap.size+1+1:=by simp[e1]
  have k2:aa af wa (wa.alloc (.cells #[.pointer (some ⟨a,0,none⟩),.int .i64 from',.int .i64 0,.bool false] 128)):=(aa.refl _ _).alloc _
  have KW:di (wa.alloc (.cells #[.pointer (some ⟨a,0,none⟩),.int .i64 from',.int .i64 0,.bool false] 128)) wa.heap.size a from' 0 :=
   ⟨by simp,boxed (aa.refl af _) 0 _ rfl,boxed (aa.refl af _) 1 _ rfl,boxed (aa.refl af _) 2 _ rfl,nW (aa.refl af _)⟩
  rw[e1]at KW
  generalize wa.alloc (.cells #[.pointer (some ⟨a,0,none⟩),.int .i64 from',.int .i64 0,.bool false] 128)=wb at *
  have k3:aa af wb (wb.alloc (.cells #[.int .i64 from',.int .i64 0,.string ⟨#[]⟩] 75)):=(aa.refl _ _).alloc _
  have KP:=kN (aa.refl af (wb.alloc (.cells #[.int .i64 from',.int .i64 0,.string ⟨#[]⟩] 75)))
  rw[e2]at KP
  exact Bj.mk hsz (by decide) (by decide) HF.out ⟨(k1.trans k2).trans k3,KW.on k3,KB.on (k2.trans k3),KP⟩
 ·rintro a' w1 ⟨fz,s,at',n,fuel,p,rfl,J⟩
  have oZ:=J.fu
  have rI:=J.xN
  have S0:=J.size
  have CC:=J.cs
  obtain⟨fuel,rfl⟩:∃f,fuel=f+1:=⟨fuel-1,by omega⟩
  have HE:=J.eq
  rw[L6]at HE
  have vD:=Lib.hid (fun wx:World=>Dk s 0 wx)
  have ud:=Lib.hid (fun wx:World=>SQ s wx)
  have B0:=CC.box.c0;have B1:=CC.box.c1;have B2:=CC.box.c2;have FB:=CC.box.fz;have C0:=CC.dg.c0;have C1:=CC.dg.c1;have C2:=CC.dg.c2;have FZ:=CC.dg.fz;have P0:=CC.bA.c0;have P1:=CC.bA.c1;have P2:=CC.bA.c2;have FP:=CC.bA.fz;have dc:=CC.box.lt;have jJ:=CC.dg.lt;have ji:=CC.bA.lt;have k0:=CC.keeps
  by_cases h1:s=⟨#[]⟩
  ·subst h1
   rw[if_pos (show cO ⟨#[]⟩≠0 by decide)]at HE
   have HQ:=Lib.hid HE
   clear HE J vD ud
   go_wp2_with fail
   (try simp only[Exit.jump,Exit.inBlock,Exit.then])
   refine bodyPost_ret (v:=.tuple #[aF .no,.int .i64 12]) ?_ rfl ?_
   ·rw[results_cell_tmp rfl];unfold aF aJ.no;go_simp
   ·refine⟨by rw[<- HQ.out];rfl,?_⟩
    repeat exact kB
  have hne:=nr h1
  have AH:s.toList.isEmpty=false:=by simpa using hne
  by_cases h2:4095<s.size
  ·have hp:cO s=18:=by unfold cO;rw[if_neg h1,if_pos h2]
   have h2':(4095:Int)<(s.size:Int):=by omega
   rw[hp,if_pos (by decide)]at HE
   have HQ:=Lib.hid HE
   clear HE J vD ud hp
   go_wp2_with fail
   (try simp only[Exit.jump,Exit.inBlock,Exit.then])
   refine bodyPost_ret (v:=.tuple #[aF .no,.int .i64 18]) ?_ rfl ?_
   ·rw[results_cell_tmp rfl];unfold aF aJ.no;go_simp
   ·refine⟨by rw[<- HQ.out],?_⟩
    repeat exact kB
  have h2':¬(4095:Int)<(s.size:Int):=by omega
  obtain⟨bi,Bl⟩:∃bi,jx s (0:Int).toNat.toUInt8=bi:=⟨_,rfl⟩
  have hpe:cO s=if 0<=bi then 11 else 0:=by unfold cO;rw[if_neg h1,if_neg h2,<- Bl];rfl
  rw[Bl]at vD
  by_cases h3:0<=bi
  ·rw[hpe,if_pos h3,if_pos (by decide)]at HE
   have HQ:=Lib.hid HE
   clear HE J ud hpe Bl
   go_wp2_with(first|(go_at_call 72;go_loud(refine(vD.out _).mono ?_);rintro e w' ⟨rfl,pR⟩;subst pR)|(go_at_call 73;go_loud(refine(ud.out _).mono ?_);rintro e w' ⟨rfl,pR⟩;subst pR))
   (try simp only[Exit.jump,Exit.inBlock,Exit.then])
   refine bodyPost_ret (v:=.tuple #[aF .no,.int .i64 11]) ?_ rfl ?_
   ·rw[results_cell_tmp rfl];unfold aF aJ.no;go_simp
   ·refine⟨by rw[<- HQ.out],?_⟩
    repeat exact kB
  rw[hpe,if_neg h3,if_neg (by simp)]at HE
  clear hpe Bl
  have tZ:=Lib.hid (fun wx:World=>SK s wx (by omega))
  have Fx:=Lib.hid (fun wx:World=>hs1 s wx (by omega))
  have hl1:(iG s).length<=4096:=by have:=KS s;omega
  have HZ:=Lib.hid (fun x hx=>Nat.le_trans (KT s x hx) (by omega:s.size<=4095))
  obtain⟨l,hl⟩:∃l,iG s=l:=⟨_,rfl⟩
  obtain⟨sl,hsl0⟩:∃sl,cg s=sl:=⟨_,rfl⟩
  obtain⟨ab,hab⟩:∃ab,fj s=ab:=⟨_,rfl⟩
  rw[hl]at tZ HE hl1 HZ
  rw[hsl0]at Fx HE
  rw[hab]at ud HE
  have Mm:=Lib.hid HE
  clear HE J hl hsl0 hab
  have HE:=Mm
  clear Mm
  obtain⟨gQ,nJ⟩:∃gQ:Int,gQ=if ab=true then 1 else at':=⟨_,rfl⟩
  rw[<- nJ]at HE
  cases ab
  all_goals
   (first|(rw[if_pos rfl]at nJ;have ue:=CC.goto 1)|(rw[if_neg (by simp)]at nJ;have ue:=CC))
   go_upto_region 13 with(first|(go_at_call 72;go_loud(refine(vD.out _).mono ?_);rintro e w' ⟨rfl,pR⟩;subst pR)|(go_at_call 73;go_loud(refine(ud.out _).mono ?_);rintro e w' ⟨rfl,pR⟩;subst pR)|(go_at_call 74;go_loud(refine(tZ.out _).mono ?_);rintro e w2 ⟨v,rfl,hown,hk2⟩;obtain⟨p1,c1,rfl,hsl0⟩:=hown.sl;have hsl:bt jX (fun g=>w.heap.size+1+1<g) w2 p1 c1 l:=bt.cN hsl0 (aa.refl af _) (fun _ _ _ h=>h) (fun g hg _=>by have:=ue.bA.lt;omega);clear hsl0;replace ue:=ue.on hk2)|(go_at_call 66;go_loud(refine(Fx.out _).mono ?_);rintro e w' ⟨rfl,pR⟩;subst pR))
   have HM:=Lib.hid C2
   rw[<- nJ]at ue
   clear CC nJ
   clear B0 B1 B2 FB C0 C1 C2 FZ P0 P1 P2 FP dc jJ ji k0
   have CC:=ue
   clear ue hk2 hown vD ud tZ Fx HF hne AH h1 h2 h2'
   generalize w'=w2 at *
   have Mn:=Lib.hid (fun(w1:World) (hk:aa af w w1) (hw:di w1 (w.heap.size+1) a gQ n)=>Mg h hk hw hI)
   by_cases hl:l=[]
   ·have jj:=HE.out
    rw[if_pos hl]at jj
    replace jj:=Lib.hid jj
    clear HE
    subst hl
    have B0:=CC.box.c0;have B1:=CC.box.c1;have B2:=CC.box.c2;have FB:=CC.box.fz;have C0:=CC.dg.c0;have C1:=CC.dg.c1;have C2:=CC.dg.c2;have FZ:=CC.dg.fz;have P0:=CC.bA.c0;have P1:=CC.bA.c1;have P2:=CC.bA.c2;have FP:=CC.bA.fz;have dc:=CC.box.lt;have jJ:=CC.dg.lt;have ji:=CC.bA.lt;have k0:=CC.keeps
    obtain⟨ie,hie⟩:∃ie,bI d gQ=ie:=⟨_,rfl⟩
    rw[hie]at Mn jj
    clear hie
    go_upto_region 14 with fail
    go_cut [9]from 53 to 59 (fun x wx=>x=.int .i64 ie∧C3 wx w.heap.size (.int .i64 gQ) (.int .i64 0) (.string ⟨#[]⟩)∧aa af w wx)
    case first =>
     have kr:=aa.refl af w2
     have bh:=kr.drew
     have CD:=CC.on bh
     have hgB:¬w.heap.size+1=w.heap.size:=by omega
     have wk:=CC.dg
     have d0:=CD.dg.c0
     have d1:=CD.dg.c1
     have e0:=CD.box.c0
     have e1:=CD.box.c1
     have e2:=CD.box.c2
     have ez:=CD.box.fz
     have CB:=CD.box
     have WL:=CD.dg
     go_region_held3 (fun wz=>wz.cell? ⟨w.heap.size+1,0,none⟩=some (.pointer (some ⟨a,0,none⟩))∧wz.cell? ⟨w.heap.size+1,1,none⟩=some (.int .i64 gQ)∧di wz (w.heap.size+1) a gQ n∧aa af w wz)
      (refine⟨?_,?_,?_,?_⟩<;>first|with_reducible assumption|(with_reducible refine(di.c0 (a:=a) (n:=n) (at':=gQ) ?_);exact kF)|(with_reducible refine(di.c1 (a:=a) (n:=n) (at':=gQ) ?_);exact kF)|(exact kF)|(exact kB))
      (first|(go_at_call 75;refine(Mn.out _ kB kF).mono ?_;rintro e w3 ⟨rfl,aV⟩;have zk:aa af w w3:=aa.trans kB aV;have zw:di w3 (w.heap.size+1) a gQ n:=di.on kF aV;have z0:=zw.c0;have z1:=zw.c1;(first|(with_reducible have zb:=C3.on CB aV)|(with_reducible have zb:=C3.on (C3.set CB (.int .i64 gQ) (.int .i64 0) (.string ⟨#[]⟩)) aV));have b0:=zb.c0;have b1:=zb.c1;have b2:=zb.c2;have bf:=zb.fz;have bl:=zb.lt))
     all_goals(go_wp2_with fail;go_meet)
     all_goals(refine⟨rfl,?_,?_⟩<;>first|with_reducible assumption|(with_reducible exact C3.set zb _ _ _)|(exact kB))
    case rest =>
     obtain⟨rfl,hb,hk⟩:=hcut
     clear B0 B1 B2 FB C0 C1 C2 FZ P0 P1 P2 FP dc jJ ji k0
     have b0:=hb.c0
     have b1:=hb.c1
     have b2:=hb.c2
     go_wp2_with fail
     (try simp only[Exit.jump,Exit.inBlock,Exit.then])
     refine bodyPost_ret (v:=.tuple #[aF (.on gQ),.int .i64 ie]) ?_ rfl ?_
     ·rw[results_cell_tmp rfl];unfold aF aJ.on;go_simp
     ·exact⟨by rw[<- jj.out],hk⟩
   ·have jj:=HE.out
    rw[if_neg hl]at jj
    have hlen:1<=l.length:=by
     rcases l with _|⟨x,r⟩
     ·exact absurd rfl hl
     ·simp
    rw[CY hl _ p]at jj
    obtain⟨O,hO⟩:∃O,scan d up sl follow l gQ n p=O:=⟨_,rfl⟩
    rw[hO]at jj
    replace jj:=Lib.hid jj
    have HO:=Lib.hid hO
    clear HE hO hl
    have hcap:=hsl.cap
    have hmax:=hsl.max
    unfold maxLen at hmax
    have eB:((l.length:Int)==0)=false:=beq_eq_false_iff_ne.2 (by omega)
    go_upto_region 15 with fail
    go_wp2_with fail
    (try rw[eB])
    go_loopw [62] (fun i wr=>∃(k n':Nat) (qK:Int) (p':aJ),i=.int .i64 k∧VM d up sl follow O l w a wr p1 c1 k qK n n' p') (fun i _=>l.length-(intOf i).toNat)
    case atStart=>exact⟨0,n,gQ,p,rfl,⟨Nat.zero_le _,rI,Nat.le_refl _,by rw[List.drop_zero];exact HO.out,CC,hsl⟩⟩
    case round =>
     rename_i wr
     obtain⟨k,n',qK,p',rfl,J⟩:=hrel
     clear CC hsl
     have hk:=J.le
     have sM:=J.xN
     have hn0:=J.n0
     have CC:=J.cs
     by_cases hlt:k<l.length
     ·obtain⟨x,hx⟩:∃x,l[k]?=some x:=⟨_,List.getElem?_eq_getElem hlt⟩
      obtain⟨gb,off,rfl,hS,hg,c0⟩:=J.row.str hx
      have hsc:=J.eq
      rw[List.drop_eq_getElem_cons hlt,show l[k]=x from Option.some.inj ((List.getElem?_eq_getElem hlt).symm.trans hx),L9]at hsc
      obtain⟨fl,hfl⟩:∃fl,fl=(!(l.drop (k+1)).isEmpty||sl||follow):=⟨_,rfl⟩
      rw[<- hfl]at hsc
      have iP:=Lib.hid (VI h CC.keeps (show w.heap.size<=w.heap.size+1 by omega) CC.dg hI hs x fl sM)
      have qA:=U2 d up qK x fl n'
      have Eg:=VN hI up qK x fl n'
      have xP:=Lib.hid J.row
      obtain⟨Q,hQ⟩:∃Q,ck d up qK x fl n'=Q:=⟨_,rfl⟩
      rw[hQ]at hsc iP qA Eg
      have tL:=L0 k l sl follow fl hlt hfl
      obtain⟨sk,hsk⟩:∃sk:Bool,sk=sl:=⟨_,rfl⟩
      have tr:=jj.out
      rw[<- hsk]at tr hsc
      replace hsk:=Lib.hid hsk
      clear jj
      have jj:=Lib.hid tr
      clear tr HO
      replace hsc:=Lib.hid hsc
      replace qA:=Lib.hid qA
      clear hQ hfl hx J
      have B0:=CC.box.c0;have B1:=CC.box.c1;have B2:=CC.box.c2;have FB:=CC.box.fz;have C0:=CC.dg.c0;have C1:=CC.dg.c1;have C2:=CC.dg.c2;have FZ:=CC.dg.fz;have P0:=CC.bA.c0;have P1:=CC.bA.c1;have P2:=CC.bA.c2;have FP:=CC.bA.fz;have dc:=CC.box.lt;have jJ:=CC.dg.lt;have ji:=CC.bA.lt;have k0:=CC.keeps
      rcases tL with⟨hb,hr,rfl⟩|⟨hb,hr,rfl,rfl⟩|⟨hb,hr,rfl,rfl⟩
      all_goals
       replace hr:=Lib.hid hr
       go_upto_region 20 with(first|(go_at_call 76;go_loud(refine iP.out.mono ?_);rintro e w3 ⟨rfl,aV,qo⟩;unfold aF))
      all_goals
       have VO:w.heap.size+1+1<w3.heap.size:=(CC.step aV qo).bA.lt
       have C4:=(CC.step aV qo).on ((aa.refl af w3).alloc (.cells #[.int .i64 Q.p.node,.int .i64 Q.p.dir,.string Q.p.name] 75))
       have r4:=(xP.out.keep aV (fun g (hg:w.heap.size+1+1<g) _ e=>by omega)).ai ((aa.refl af w3).alloc (.cells #[.int .i64 Q.p.node,.int .i64 Q.p.dir,.string Q.p.name] 75))
       have KQ:=kN (aa.refl af (w3.alloc (.cells #[.int .i64 Q.p.node,.int .i64 Q.p.dir,.string Q.p.name] 75)))
       clear B0 B1 B2 FB C0 C1 C2 FZ P0 P1 P2 FP dc jJ ji k0
       clear iP xP CC aV qo c0 hg
       generalize w3.alloc (.cells #[.int .i64 Q.p.node,.int .i64 Q.p.dir,.string Q.p.name] 75)=w4 at *
       generalize w3.heap.size=qb at *
       have CC:=C4
       clear C4
       have q0:=KQ.c0
       have q1:=KQ.c1
       have q2:=KQ.c2
       have ql:=KQ.lt
       clear KQ
       have B0:=CC.box.c0;have B1:=CC.box.c1;have B2:=CC.box.c2;have FB:=CC.box.fz;have C0:=CC.dg.c0;have C1:=CC.dg.c1;have C2:=CC.dg.c2;have FZ:=CC.dg.fz;have P0:=CC.bA.c0;have P1:=CC.bA.c1;have P2:=CC.bA.c2;have FP:=CC.bA.fz;have dc:=CC.box.lt;have jJ:=CC.dg.lt;have ji:=CC.bA.lt;have k0:=CC.keeps
       by_cases he:Q.e≠0
       ·have hO:=hsc.out
        rw[if_pos he]at hO
        subst hO
        have kS:=jj.out
        simp only at kS
        replace kS:=Lib.hid kS
        have hne:(Q.e != 0)=true:=by simpa using he
        clear hsc jj he
        generalize Q.e=qe at *
        go_wp2_with fail
        (try simp only[Exit.jump,Exit.inBlock,Exit.then])
        refine bodyPost_ret (v:=.tuple #[aF .no,.int .i64 qe]) ?_ rfl ?_
        ·rw[results_cell_tmp rfl];unfold aF aJ.no;go_simp
        ·refine⟨by rw[<- kS.out],?_⟩
         repeat exact kB
       have he0:Q.e=0:=Classical.not_not.1 he
       have nK:=hsc.out
       rw[if_neg he]at nK
       rw[he0]
       clear hsc he
       by_cases ht:Q.t≠⟨#[]⟩
       ·rw[if_pos ht]at nK
        subst nK
        have kS:=jj.out
        simp only at kS
        obtain⟨Fy,WM⟩:=qA.out.2.1 he0 ht
        have hrs:=LZ Q.t (l.drop (k+1)) sk 4095 (fun y hy=>HZ.out y (List.mem_of_mem_drop hy))
        have vz:(l.drop (k+1)).length=l.length-(k+1):=by simp
        rw[vz]at hrs
        have uc:(mM Q.t (l.drop (k+1)) sk).size<=4294967280:=by
         have:(l.length-(k+1))*(4095+1)<=4096*4096:=Nat.mul_le_mul (by omega) (by omega)
         omega
        have Mo:=fun wx=>run_slice_l (P:=Tryz.prog) 130 9 1 Tryz.underlying130 (by kernel_rfl) (some ⟨gb,off,none⟩) l.length c1 (k+1) (by omega) wx (by omega)
        have hsub:=r4.sub (k+1) l.length (by omega) (Nat.le_refl _)
        rw[List.take_length]at hsub
        have oK:=Lib.hid (VJ _ w4 _ _ _ hsub Q.t sk (fun y hy=>HZ.out y (List.mem_of_mem_drop hy)) (by omega) (by omega))
        rw[vz,show jX.k=1 from rfl]at oK
        replace kS:=Lib.hid kS
        replace uc:=Lib.hid uc
        have hne:=nr ht
        have Vq:∀wx:World,(Instr.slice 130 (.slice (some ⟨gb,off,none⟩) l.length c1) (some (.int .i64 ((k:Int)+1))) none none).run Tryz.prog wx=.ok (.slice (jK 1 (some ⟨gb,off,none⟩) c1 (k+1)) (l.length-(k+1)) (c1-(k+1))) wx:=Mo
        clear hrs hsub jj hr ht Mo
        generalize mM Q.t (l.drop (k+1)) sk=s2 at *
        rw[hsk.out]at oK
        go_upto_region 23 with fail
        go_wp2_with(first|(go_at_call 77;go_loud(refine oK.out.mono ?_);rintro e w5 ⟨rfl,pR⟩;subst pR))
        go_step3
        (try simp only[Exit.jump,Exit.inBlock,Exit.then])
        refine⟨?_,?_,?_⟩
        ·rfl
        ·refine xY.mk (s:=s2) (at':=qK) (n:=Q.n) (fuel:=fuel) (p:=p') rfl ?_
         exact Bj.mk uc.out (by omega) (by omega) kS.out CC
        ·rw[HM.out,CC.dg.c2]
         simp only[Option.getD_some,intOf,Int.toNat_natCast]
         omega
       have nS:Q.t=⟨#[]⟩:=Classical.not_not.1 ht
       rw[if_neg ht]at nK
       have Fy:=qA.out.2.2 he0 sM
       have WN:=qA.out.1
       rw[nS]
       have VP:=jj
       clear ht nS he0 qA jj
       replace nK:=Lib.hid nK
       by_cases hz:Q.p.node=0∧l.drop (k+1)≠[]
       ·first
        | exact absurd hr.out hz.2
        | (have hb0:(Q.p.node==0)=true:=by simpa using hz.1
           have hO:=nK.out
           rw[if_pos hz]at hO
           subst hO
           have kS:=VP.out
           simp only at kS
           replace kS:=Lib.hid kS
           clear nK hz
           go_wp2_with fail
           (try simp only[Exit.jump,Exit.inBlock,Exit.then])
           refine bodyPost_ret (v:=.tuple #[aF .no,.int .i64 12]) ?_ rfl ?_
           ·rw[results_cell_tmp rfl];unfold aF aJ.no;go_simp
           ·refine⟨by rw[<- kS.out],?_⟩
            (repeat exact kB))
       ·have hcs:(Q.p.node==0)=false∨((Q.p.node==0)=true∧l.drop (k+1)=[]):=by
         by_cases h0:Q.p.node=0
         ·exact .inr ⟨by simpa using h0,Classical.byContradiction fun h=>hz ⟨h0,h⟩⟩
         ·exact .inl (by simpa using h0)
        have xZ:=nK.out
        rw[if_neg hz]at xZ
        replace xZ:=Lib.hid xZ
        clear nK hz
        rcases hcs with hb0|⟨hb0,hlast⟩
        all_goals first
         | exact absurd hlast hr.out
         | ((try clear hlast)
            go_upto_region 27 with fail
            have C5:=CC.put Q.p
            have r5:=r4.keep (tY w4 (w.heap.size+1+1) (.int .i64 Q.p.node) (.int .i64 Q.p.dir) (.string Q.p.name)) (fun g (hg:w.heap.size+1+1<g) _ e=>by omega)
            have z0:(((w4.setCell ⟨w.heap.size+1+1,0,none⟩ (.int .i64 Q.p.node)).setCell ⟨w.heap.size+1+1,1,none⟩ (.int .i64 Q.p.dir)).setCell ⟨w.heap.size+1+1,2,none⟩ (.string Q.p.name)).cell? ⟨qb,0,none⟩=some (.int .i64 Q.p.node) :=
             ((tY w4 (w.heap.size+1+1) (.int .i64 Q.p.node) (.int .i64 Q.p.dir) (.string Q.p.name)).cell (p:=⟨qb,0,none⟩) ql (by show ¬qb=_;omega)).trans q0
            clear B0 B1 B2 FB C0 C1 C2 FZ P0 P1 P2 FP dc jJ ji k0
            clear q0 q1 q2 r4 CC
            generalize(((w4.setCell ⟨w.heap.size+1+1,0,none⟩ (.int .i64 Q.p.node)).setCell ⟨w.heap.size+1+1,1,none⟩ (.int .i64 Q.p.dir)).setCell ⟨w.heap.size+1+1,2,none⟩ (.string Q.p.name))=w5 at *
            have CC:=C5
            have B0:=CC.box.c0;have B1:=CC.box.c1;have B2:=CC.box.c2;have FB:=CC.box.fz;have C0:=CC.dg.c0;have C1:=CC.dg.c1;have C2:=CC.dg.c2;have FZ:=CC.dg.fz;have P0:=CC.bA.c0;have P1:=CC.bA.c1;have P2:=CC.bA.c2;have FP:=CC.bA.fz;have dc:=CC.box.lt;have jJ:=CC.dg.lt;have ji:=CC.bA.lt;have k0:=CC.keeps
            go_wp2_with fail
            go_roundw
            case rel =>
             first
              | exact⟨k+1,Q.n,qK,Q.p,by go_num,⟨by omega,Fy,by omega,(by have:=xZ.out;rw[hr.out]at this ⊢;exact this),CC,r5⟩⟩
              | exact⟨k+1,Q.n,Q.p.node,Q.p,by go_num,⟨by omega,Fy,by omega,(by have:=xZ.out;rw[hsk.out]at this;exact this),CC.goto _,r5.keep (VL w5 (w.heap.size+1) 1 (.int .i64 Q.p.node)) (fun g (hg:w.heap.size+1+1<g) _ e=>by omega)⟩⟩
            case measure=>simp[intOf];omega)
     ·obtain rfl:k=l.length:=by omega
      have hsc:=J.eq
      rw[List.drop_of_length_le (Nat.le_refl _)]at hsc
      simp only[scan]at hsc
      subst hsc
      have kS:=jj.out
      simp only at kS
      have gm:=VK (h.ai CC.keeps) p' sl
      rw[kS]at gm
      unfold aF at gm
      replace gm:=Lib.hid gm
      clear jj kS HO
      obtain⟨F1,F2⟩:=F
      have B0:=CC.box.c0;have B1:=CC.box.c1;have B2:=CC.box.c2;have FB:=CC.box.fz;have C0:=CC.dg.c0;have C1:=CC.dg.c1;have C2:=CC.dg.c2;have FZ:=CC.dg.fz;have P0:=CC.bA.c0;have P1:=CC.bA.c1;have P2:=CC.bA.c2;have FP:=CC.bA.fz;have dc:=CC.box.lt;have jJ:=CC.dg.lt;have ji:=CC.bA.lt;have k0:=CC.keeps
      go_wp2_with(first|(go_at_call 78;go_loud(refine gm.out.mono ?_);rintro e w3 ⟨rfl,aV⟩;have VQ:=CC.on aV;clear B0 B1 B2 FB C0 C1 C2 FZ P0 P1 P2 FP dc jJ ji k0;clear CC;have CC:=VQ;have B0:=CC.box.c0;have B1:=CC.box.c1;have B2:=CC.box.c2;have FB:=CC.box.fz;have C0:=CC.dg.c0;have C1:=CC.dg.c1;have C2:=CC.dg.c2;have FZ:=CC.dg.fz;have P0:=CC.bA.c0;have P1:=CC.bA.c1;have P2:=CC.bA.c2;have FP:=CC.bA.fz;have dc:=CC.box.lt;have jJ:=CC.dg.lt;have ji:=CC.bA.lt;have k0:=CC.keeps))
      (try simp only[Exit.jump,Exit.inBlock,Exit.then])
      refine bodyPost_ret (v:=.tuple #[aF F1,.int .i64 F2]) ?_ rfl ?_
      ·rw[results_cell_tmp rfl];unfold aF;go_simp
      ·refine⟨rfl,?_⟩
       repeat exact kB
end
set_option maxHeartbeats 2000000
def iL (F:aJ × Int):aJ × Int:=if F.2≠0 then(.no,F.2)else if F.1.node=0 then(.no,12)else F
section
variable{R:RD} {w0 w w':World} {a g:Nat} {d:ag} {room us:Int} {lk up:Int->Int}
theorem Pt (h:aS R w a d room us lk up) (hI:aG d) (hs:aP d) (from':Int) (s0:ByteArray) (follow:Bool) (hsz:s0.size<=4294967280) :
 Calls Tryz.prog 27 #[.pointer (some ⟨a,0,none⟩),.int .i64 from',.string s0,.bool follow] w fun e w' =>
  e=.returned (.tuple #[aF (iL (eD d up follow 41 from' s0 0)).1,.int .i64 (iL (eD d up follow 41 from' s0 0)).2])∧aa af w w':=by
 have k1:aa af w (w.alloc (.cells #[.int .i64 0,.int .i64 0,.string ⟨#[]⟩] 75)):=(aa.refl _ _).alloc _
 have aW:=Lib.hid (Iy (h.ai k1) hI hs from' s0 follow hsz)
 obtain⟨⟨⟨node,dir,name⟩,fe⟩,hF⟩:∃F,eD d up follow 41 from' s0 0=F:=⟨_,rfl⟩
 rw[hF]at aW ⊢
 clear hF
 unfold aF at aW
 simp only at aW
 go_enter Tryz.func27,Tryz.ntmps27
 go_upto_region 2 with(first|(go_at_call 43;go_loud(refine aW.out.mono ?_);rintro e w2 ⟨rfl,hk2⟩))
 have kz:aa af w (w2.alloc (.cells #[.int .i64 node,.int .i64 dir,.string name] 75)):=(k1.trans hk2).alloc _
 have KB:=(kN (v0:=.int .i64 0) (v1:=.int .i64 0) (v2:=.string ⟨#[]⟩) hk2).on ((aa.refl af w2).alloc (.cells #[.int .i64 node,.int .i64 dir,.string name] 75))
 have KQ:=kN (v0:=.int .i64 node) (v1:=.int .i64 dir) (v2:=.string name) (aa.refl af (w2.alloc (.cells #[.int .i64 node,.int .i64 dir,.string name] 75)))
 have VO:w.heap.size<w2.heap.size:=Nat.lt_of_lt_of_le (by simp) hk2.size
 generalize w2.alloc (.cells #[.int .i64 node,.int .i64 dir,.string name] 75)=w3 at *
 generalize w2.heap.size=qb at *
 clear aW k1 hk2
 have B0:=KB.c0
 have B1:=KB.c1
 have B2:=KB.c2
 have FB:=KB.fz
 have q0:=KQ.c0
 have q1:=KQ.c1
 have q2:=KQ.c2
 have ql:=KQ.lt
 have bl:=KB.lt
 by_cases he:fe≠0
 ·have hne:(fe != 0)=true:=by simpa using he
  have HQ:=Lib.hid (show iL (⟨node,dir,name⟩,fe)=(.no,fe)by unfold iL;rw[if_pos he])
  clear he
  go_wp2_with fail
  (try simp only[Exit.inBlock,Exit.then])
  refine bodyPost_ret (v:=.tuple #[aF .no,.int .i64 fe]) ?_ rfl ?_
  ·rw[results_cell_tmp rfl];unfold aF aJ.no;go_simp
  ·refine⟨by rw[HQ.out],?_⟩
   repeat exact kB
 ·have he0:fe=0:=Classical.not_not.1 he
  subst he0
  by_cases hn:node=0
  ·have hb:(node==0)=true:=by simpa using hn
   have HQ:=Lib.hid (show iL (⟨node,dir,name⟩,0)=(.no,12)by unfold iL;rw[if_neg (by simp),if_pos hn])
   clear hn he
   go_wp2_with fail
   (try simp only[Exit.inBlock,Exit.then])
   refine bodyPost_ret (v:=.tuple #[aF .no,.int .i64 12]) ?_ rfl ?_
   ·rw[results_cell_tmp rfl];unfold aF aJ.no;go_simp
   ·refine⟨by rw[HQ.out],?_⟩
    repeat exact kB
  ·have hb:(node==0)=false:=by simpa using hn
   have HQ:=Lib.hid (show iL (⟨node,dir,name⟩,0)=(⟨node,dir,name⟩,0)by unfold iL;rw[if_neg (by simp),if_neg hn])
   clear hn he
   go_wp2_with fail
   (try simp only[Exit.inBlock,Exit.then])
   refine bodyPost_ret (v:=.tuple #[aF ⟨node,dir,name⟩,.int .i64 0]) ?_ rfl ?_
   ·rw[results_cell_tmp rfl];unfold aF;go_simp
   ·refine⟨by rw[HQ.out],?_⟩
    repeat exact kB
end
end Go.Proofs.YtnanhmfpikddkaaGreatDoor
namespace Go.Proofs.YtnanhmfpikddkaaGreatDoor
-- what a call makes of the nodes
noncomputable def eZ (d:ag) (i:Int):ag:=if gq d i=0 then gc (gG d i)else d
def eJ (d:ag) (i:Int):ag:=if has d i then kW d i else d
def rS (d:ag) (i:Int):Int:=if has d i then 0 else 12
def oo (d:ag) (i m:Int):ag:=if ic d i m=0 then mS d i m else d
def dD (d:ag) (i:Int):ag:=if dM d i=0 then jY d i else d
theorem Nq {d:ag} (hI:aG d) (hcl:bK d) {i:Int} (hi:has d i):gc (kW d i)=kW d i:=by
 refine BM fun j hj=>?_
 obtain⟨g1,g2,g3⟩:=hj
 have hr:=bF hi
 unfold kW at g1 g2 g3
 rw[uj (n:=(nd d i).bT ((nd d i).holds+1)) hi rfl]at g2
 have Nr:=(mC (n:=(nd d i).bT ((nd d i).holds+1)) hi hi j).1 g1
 rw[gu hr.1 hr.2]at g3
 split at g3
 ·have:=(hI.node i).holds
  simp only[Nd.bT]at g3
  omega
 ·exact hcl j ⟨Nr,g2,g3⟩
def cD (d:ag) (id bit:Int):Int:=if ¬has d id then 12 else if (nd d id).mode / bit % 2=0 then 19 else 0
noncomputable def aQ (d:ag) (at':Int) (s:ByteArray) (follow:Bool):aJ × Int:=eD d (iA d) follow 41 at' s 0
noncomputable def aL (d:ag) (at':Int) (s:ByteArray) (follow:Bool):aJ × Int:=iL (aQ d at' s follow)
noncomputable def eE (d:ag) (at':Int) (s:ByteArray) (slash:Bool):aJ × Int :=
 if (aQ d at' s false).2≠0 then(.no,(aQ d at' s false).2)
 else if (aQ d at' s false).1.node≠0 then(.no,13)
 else if slash=false∧cg s=true then(.no,12)
 else((aQ d at' s false).1,cD d (aQ d at' s false).1.dir 128)
noncomputable def jk (d:ag) (at':Int) (s:ByteArray) (folder:Bool):aJ × Int :=
 if (aL d at' s false).2≠0 then(.no,(aL d at' s false).2)
 else if folder=true∧(nd d (aL d at' s false).1.node).kind≠2 then(.no,14)
 else if folder=false∧(nd d (aL d at' s false).1.node).kind=2 then(.no,15)
 else if (aL d at' s false).1.name=⟨#[]⟩then(.no,23)
 else((aL d at' s false).1,cD d (aL d at' s false).1.dir 128)
def eG (calls fail:Int):Int:=if calls=fail then 21 else 0
def bO (m mask:Int):Int:=bits BinOp.andNot IntKind.i64 m (bits BinOp.and IntKind.i64 mask 511)
noncomputable def qu (d:ag) (room:Int) (p:aJ) (id:Int):ag × Int:=(eZ (bM d room p.dir p.name id) id,cH d room p.dir p.name id)
noncomputable def gV (d:ag) (room:Int) (p:aJ) (kind m:Int) (s:ByteArray):ag × Int :=
 if cP d room kind m s≠0 then(d,cP d room kind m s)else qu (d++[aU kind m s]) room p d.length
noncomputable def gz (d:ag) (room at' mask:Int) (s:ByteArray) (m:Int):ag × Int :=
 if (eE d at' s true).2≠0 then(d,(eE d at' s true).2)else gV d room (eE d at' s true).1 2 (bO m mask) ⟨#[]⟩
noncomputable def kg (d:ag) (room at':Int) (t s:ByteArray):ag × Int :=
 if cO t≠0 then(d,cO t)else if (eE d at' s false).2≠0 then(d,(eE d at' s false).2)else gV d room (eE d at' s false).1 3 511 t
noncomputable def kH (d:ag) (room at':Int) (old s:ByteArray):ag × Int :=
 if (aL d at' old false).2≠0 then(d,(aL d at' old false).2)
 else if (nd d (aL d at' old false).1.node).kind=2 then(d,22)
 else if (eE d at' s false).2≠0 then(d,(eE d at' s false).2)
 else(bM d room (eE d at' s false).1.dir (eE d at' s false).1.name (aL d at' old false).1.node,cH d room (eE d at' s false).1.dir (eE d at' s false).1.name (aL d at' old false).1.node)
noncomputable def eI (d:ag) (at':Int) (s:ByteArray) (folder:Bool):ag × Int :=
 if (jk d at' s folder).2≠0 then(d,(jk d at' s folder).2)
 else(iU d (jk d at' s folder).1.dir (jk d at' s folder).1.name,gF d (jk d at' s folder).1.dir (jk d at' s folder).1.name)
noncomputable def jr (d:ag) (room at':Int) (a b:ByteArray):ag × Int :=
 if (aL d at' a false).2≠0 then(d,(aL d at' a false).2)
 else if (aQ d at' b false).2≠0 then(d,(aQ d at' b false).2)
 else if (aL d at' a false).1.name=⟨#[]⟩∨(aQ d at' b false).1.name=⟨#[]⟩then(d,23)
 else if (aQ d at' b false).1.node=0∧cg b=true∧(nd d (aL d at' a false).1.node).kind≠2 then(d,14)
 else if cD d (aL d at' a false).1.dir 128≠0 then(d,cD d (aL d at' a false).1.dir 128)
 else if cD d (aQ d at' b false).1.dir 128≠0 then(d,cD d (aQ d at' b false).1.dir 128)
 else(iJ d room (aL d at' a false).1.dir (aL d at' a false).1.name (aQ d at' b false).1.dir (aQ d at' b false).1.name,jA d room (aL d at' a false).1.dir (aL d at' a false).1.name (aQ d at' b false).1.dir (aQ d at' b false).1.name)
noncomputable def kI (d:ag) (at':Int) (s:ByteArray) (m:Int):ag × Int :=
 if (aL d at' s true).2≠0 then(d,(aL d at' s true).2)else(oo d (aL d at' s true).1.node m,ic d (aL d at' s true).1.node m)
def bg (flags n:Int):Bool:=bits BinOp.and IntKind.i64 flags n != 0
noncomputable def fL (d:ag) (room mask:Int) (p:aJ) (s:ByteArray) (flags m:Int):ag × Int × Int :=
 if bg flags 4=false then(d,0,12)
 else if cg s=true then(d,0,15)
 else if cD d p.dir 128≠0 then(d,0,cD d p.dir 128)
 else if cP d room 1 (bO m mask) ⟨#[]⟩≠0 then(d,0,cP d room 1 (bO m mask) ⟨#[]⟩)
 else if cH (d++[aU 1 (bO m mask) ⟨#[]⟩]) room p.dir p.name d.length≠0 then
  (eZ (bM (d++[aU 1 (bO m mask) ⟨#[]⟩]) room p.dir p.name d.length) d.length,0,cH (d++[aU 1 (bO m mask) ⟨#[]⟩]) room p.dir p.name d.length)
 else(bM (d++[aU 1 (bO m mask) ⟨#[]⟩]) room p.dir p.name d.length,d.length,0)
def oD (d:ag) (id flags:Int):Int :=
 if (nd d id).kind=2 then 15 else if (nd d id).kind≠1 then 17
 else if (bg flags 1=true∧(nd d id).mode / 256 % 2=0)∨(bg flags 10=true∧(nd d id).mode / 128 % 2=0)then 19 else 0
def fM (d:ag) (id flags:Int):ag × Int × Int :=
 if oD d id flags≠0 then(d,0,oD d id flags)
 else(eJ (if bg flags 8=true then dD d id else d) id,id,rS (if bg flags 8=true then dD d id else d) id)
def ni (flags:Int):Bool:=bg flags 4&&bg flags 16
noncomputable def jc (d:ag) (room at' mask:Int) (s:ByteArray) (flags m:Int):ag × Int × Int :=
 if (aQ d at' s (!ni flags)).2≠0 then(d,0,(aQ d at' s (!ni flags)).2)
 else if (aQ d at' s (!ni flags)).1.node=0 then fL d room mask (aQ d at' s (!ni flags)).1 s flags m
 else if ni flags=true then(d,0,13)
 else fM d (aQ d at' s (!ni flags)).1.node flags
def tf (flags:Int):Bool:=bg flags 12
def bz (calls fail:Int) (d:ag) (x:ag × Int):ag × Int:=if eG calls fail≠0 then(d,eG calls fail)else x
end Go.Proofs.YtnanhmfpikddkaaGreatDoor
set_option maxHeartbeats 4000000
namespace Go.Proofs.YtnanhmfpikddkaaGreatDoor
open Go Go.RowKit
theorem sG (m:Int) (h0:0<=m) (b:Nat):m.toNat.testBit b=!decide (m / ((2 ^ b:Nat):Int) % 2=0):=by
 obtain⟨n,rfl⟩:∃n:Nat,m=n:=⟨m.toNat,by omega⟩
 rw[Int.toNat_natCast,Nat.testBit_eq_decide_div_mod_eq]
 have e:((n:Int) / ((2 ^ b:Nat):Int))=((n / 2 ^ b:Nat):Int):=(Int.natCast_ediv _ _).symm
 rw[e]
 generalize n / 2 ^ b=x
 by_cases hx:x % 2=0
 ·rw[decide_eq_false (by omega),decide_eq_true (by omega)];rfl
 ·rw[decide_eq_true (by omega),decide_eq_false (by omega)];rfl
section
variable{S:Nat->Prop} {w:World} {p:Option Addr} {c:Nat} {d:ag} {room calls fail:Int}
theorem vu (h:aI S w p c d) (hI:aG d) (id:Int) (b:Nat) (hb:b<=50) :
 Calls Tryz.prog 89 #[fV p c d.length room calls fail,.int .i64 id,.int .i64 (b:Int)] w fun e w'=>e=.returned (.int .i64 (cD d id ((2 ^ b:Nat):Int)))∧aa af w w':=by
 have HH:=Lib.hid (fun(wx:World) (k:aa af w wx)=>rA (room:=room) (h.ai k) hI.zero id)
 unfold aE at HH
 unfold fV
 by_cases hi:has d id
 ·obtain⟨k,rfl,hk⟩:=eP hi
  obtain⟨g,off,q,m,rfl,cI,hrow⟩:=h.rowAt hk
  have HC:=Lib.hid (fun(w1:World) (hk1:aa af w w1)=>(⟨(hrow.ai hk1).c1,(hrow.ai hk1).lt⟩:_∧_))
  have hm0:=(hI.node (k:Int)).mV
  have bU:=(hI.node (k:Int)).mW
  have xE:=sG (nd d (k:Int)).mode hm0 b
  have HM:=Lib.hid (tP (nd d (k:Int)).mode.toNat b (by omega) (by omega))
  have hE:cD d (k:Int) ((2 ^ b:Nat):Int)=if (nd d (k:Int)).mode.toNat.testBit b=true then 0 else 19:=by
   unfold cD
   rw[if_neg (fun hn=>hn hi),xE]
   by_cases hx:(nd d (k:Int)).mode / ((2 ^ b:Nat):Int) % 2=0
   ·rw[if_pos hx,decide_eq_true hx];rfl
   ·rw[if_neg hx,decide_eq_false hx];rfl
  rw[hE]
  rw[show(((nd d (k:Int)).mode.toNat:Nat):Int)=(nd d (k:Int)).mode by omega]at HM
  rw[decide_eq_true hi]at HH
  have hcap:=h.cap
  have hmax:=h.max
  unfold maxLen at hmax
  have dw:(k:Int)<(d.length:Int):=by omega
  clear hE xE hi hrow h hI hm0 bU
  generalize(nd d (k:Int)).mode.toNat.testBit b=tb at *
  generalize(nd d (k:Int)).mode=md at *
  have HB:=Lib.hid (fun wx (kx:aa af (w.alloc (.cells #[.slice (some ⟨g,off,none⟩) d.length c,.int .i64 room,.int .i64 calls,.int .i64 fail] 39)) wx)=>Bk.new kx)
  have fH:=Lib.hid ((aa.refl af w).alloc (.cells #[.slice (some ⟨g,off,none⟩) d.length c,.int .i64 room,.int .i64 calls,.int .i64 fail] 39))
  cases tb
  all_goals
   go_enter Tryz.func89,Tryz.ntmps89
   go_wp2_with(first|(go_at_call 30;go_loud(refine(HH.out _ fH.out).mono ?_);rintro e w1 ⟨rfl,hk1⟩;have c0:=(HB.out _ hk1).cell 0 _ rfl;have cl:=(HB.out _ hk1).lt;obtain⟨m1,ml⟩:=HC.out _ (fH.out.trans hk1))|(go_at_call 36;go_loud(refine(HM.out _).mono ?_);rintro e w2 ⟨rfl,rfl⟩))
   go_ret
   exact⟨rfl,fH.out.trans hk1⟩
 ·have hE:cD d id ((2 ^ b:Nat):Int)=12:=if_pos hi
  rw[hE]
  rw[decide_eq_false hi]at HH
  clear hE hi h hI
  have fH:=Lib.hid ((aa.refl af w).alloc (.cells #[.slice p d.length c,.int .i64 room,.int .i64 calls,.int .i64 fail] 39))
  go_enter Tryz.func89,Tryz.ntmps89
  go_wp2_with(go_at_call 30;go_loud(refine(HH.out _ fH.out).mono ?_);rintro e w1 ⟨rfl,hk1⟩)
  go_ret
  exact⟨rfl,fH.out.trans hk1⟩
end
structure F6 (w wx:World) (v:Value) (room calls fail:Int) (u r:List Value):Prop where
 k:aa af w wx
 b0:Bk wx w.heap.size [v,.int .i64 room,.int .i64 calls,.int .i64 fail]
 b1:Bk wx (w.heap.size+1) u
 b2:Bk wx (w.heap.size+1+1) r
section
variable{w wx wy:World} {v v':Value} {room room' calls calls' fail fail':Int} {u r:List Value}
theorem F6.new (w:World) (v:Value) (room calls fail:Int) (u r:Array Value) (T0 T1 T2:TypeId) :
 F6 w (((w.alloc (.cells #[v,.int .i64 room,.int .i64 calls,.int .i64 fail] T0)).alloc (.cells u T1)).alloc (.cells r T2)) v room calls fail u.toList r.toList:=by
 have k0:aa af w (w.alloc (.cells #[v,.int .i64 room,.int .i64 calls,.int .i64 fail] T0)):=(aa.refl af w).alloc _
 have k1:=(aa.refl af (w.alloc (.cells #[v,.int .i64 room,.int .i64 calls,.int .i64 fail] T0))).alloc (.cells u T1)
 have k2:=(aa.refl af ((w.alloc (.cells #[v,.int .i64 room,.int .i64 calls,.int .i64 fail] T0)).alloc (.cells u T1))).alloc (.cells r T2)
 have s1:(w.alloc (.cells #[v,.int .i64 room,.int .i64 calls,.int .i64 fail] T0)).heap.size=w.heap.size+1:=by simp
 have s2:((w.alloc (.cells #[v,.int .i64 room,.int .i64 calls,.int .i64 fail] T0)).alloc (.cells u T1)).heap.size=w.heap.size+1+1:=by simp
 have c0:=Bk.new (k1.trans k2)
 have c1:=Bk.new k2
 have c2:=Bk.new (aa.refl af (((w.alloc (.cells #[v,.int .i64 room,.int .i64 calls,.int .i64 fail] T0)).alloc (.cells u T1)).alloc (.cells r T2)))
 rw[s1]at c1
 rw[s2]at c2
 exact⟨k0.trans (k1.trans k2),c0,c1,c2⟩
theorem F6.on (h:F6 w wx v room calls fail u r) (k:aa af wx wy):F6 w wy v room calls fail u r:=⟨h.k.trans k,h.b0.on k,h.b1.on k,h.b2.on k⟩
theorem F6.all {a0 a1 r0 r1 r2 r3:Value} (h:F6 w wx v room calls fail [a0,a1] [r0,r1,r2,r3]) :
 wx.cell? ⟨w.heap.size,0,none⟩=some v∧wx.cell? ⟨w.heap.size,1,none⟩=some (.int .i64 room)∧wx.cell? ⟨w.heap.size,2,none⟩=some (.int .i64 calls)∧wx.cell? ⟨w.heap.size,3,none⟩=some (.int .i64 fail) ∧
 wx.cell? ⟨w.heap.size+1,0,none⟩=some a0∧wx.cell? ⟨w.heap.size+1,1,none⟩=some a1 ∧
 wx.cell? ⟨w.heap.size+1+1,0,none⟩=some r0∧wx.cell? ⟨w.heap.size+1+1,1,none⟩=some r1∧wx.cell? ⟨w.heap.size+1+1,2,none⟩=some r2∧wx.cell? ⟨w.heap.size+1+1,3,none⟩=some r3 ∧
 w.heap.size<wx.heap.size∧w.heap.size+1+1<wx.heap.size∧(∀j,wx.frozen? ⟨w.heap.size,j,none⟩=false)∧(∀j,wx.frozen? ⟨w.heap.size+1+1,j,none⟩=false) :=
 ⟨h.b0.cell 0 _ rfl,h.b0.cell 1 _ rfl,h.b0.cell 2 _ rfl,h.b0.cell 3 _ rfl,h.b1.cell 0 _ rfl,h.b1.cell 1 _ rfl,h.b2.cell 0 _ rfl,h.b2.cell 1 _ rfl,h.b2.cell 2 _ rfl,h.b2.cell 3 _ rfl,h.b0.lt,h.b2.lt,h.b0.fz,h.b2.fz⟩
def UD (w:World) (b:Nat) (v0 v1 v2 v3:Value):World:=(((w.setCell ⟨b,0,none⟩ v0).setCell ⟨b,1,none⟩ v1).setCell ⟨b,2,none⟩ v2).setCell ⟨b,3,none⟩ v3
theorem gB (w:World) (b:Nat) (v0 v1 v2 v3:Value):aa (fun g=>g=b) w (UD w b v0 v1 v2 v3) :=
 ((((aa.refl (fun g=>g=b) w).setCell (p:=⟨b,0,none⟩) (.inl (show b=b from rfl)) v0).setCell (p:=⟨b,1,none⟩) (.inl (show b=b from rfl)) v1).setCell (p:=⟨b,2,none⟩) (.inl (show b=b from rfl)) v2).setCell (p:=⟨b,3,none⟩) (.inl (show b=b from rfl)) v3
theorem UE (w:World) (b:Nat) (v0 v1 v2:Value):aa (fun g=>g=b) w (((w.setCell ⟨b,0,none⟩ v0).setCell ⟨b,1,none⟩ v1).setCell ⟨b,2,none⟩ v2) :=
 (((aa.refl (fun g=>g=b) w).setCell (p:=⟨b,0,none⟩) (.inl (show b=b from rfl)) v0).setCell (p:=⟨b,1,none⟩) (.inl (show b=b from rfl)) v1).setCell (p:=⟨b,2,none⟩) (.inl (show b=b from rfl)) v2
theorem eV (w:World) (b:Nat) (v0 v1:Value):aa (fun g=>g=b) w ((w.setCell ⟨b,0,none⟩ v0).setCell ⟨b,1,none⟩ v1) :=
 ((aa.refl (fun g=>g=b) w).setCell (p:=⟨b,0,none⟩) (.inl (show b=b from rfl)) v0).setCell (p:=⟨b,1,none⟩) (.inl (show b=b from rfl)) v1
theorem F6.jU (h:F6 w wx v room calls fail u r) (v':Value) (room' calls' fail':Int) :
 F6 w ((((wx.setCell ⟨w.heap.size,0,none⟩ v').setCell ⟨w.heap.size,1,none⟩ (.int .i64 room')).setCell ⟨w.heap.size,2,none⟩ (.int .i64 calls')).setCell ⟨w.heap.size,3,none⟩ (.int .i64 fail')) v' room' calls' fail' u r:=by
 have k:=gB wx w.heap.size v' (.int .i64 room') (.int .i64 calls') (.int .i64 fail')
 exact⟨h.k.step k (fun g hg=>.inr (by omega)),(((h.b0.put 0 v').put 1 (.int .i64 room')).put 2 (.int .i64 calls')).put 3 (.int .i64 fail'),h.b1.keep k (fun e=>by omega),h.b2.keep k (fun e=>by omega)⟩
theorem F6.lK (h:F6 w wx v room calls fail u r) (v':Value) (room':Int) :
 F6 w ((wx.setCell ⟨w.heap.size,0,none⟩ v').setCell ⟨w.heap.size,1,none⟩ (.int .i64 room')) v' room' calls fail u r:=by
 have k:=eV wx w.heap.size v' (.int .i64 room')
 exact⟨h.k.step k (fun g hg=>.inr (by omega)),(h.b0.put 0 v').put 1 (.int .i64 room'),h.b1.keep k (fun e=>by omega),h.b2.keep k (fun e=>by omega)⟩
theorem F6.fin (h:F6 w wx v room calls fail u r) (v0 v1 v2 v3:Value):aa af w ((((wx.setCell ⟨w.heap.size+1+1,0,none⟩ v0).setCell ⟨w.heap.size+1+1,1,none⟩ v1).setCell ⟨w.heap.size+1+1,2,none⟩ v2).setCell ⟨w.heap.size+1+1,3,none⟩ v3) :=
 h.k.step (gB wx (w.heap.size+1+1) v0 v1 v2 v3) (fun g hg=>.inr (by omega))
theorem F6.xF (h:F6 w wx v room calls fail u r) (v0 v1 v2:Value):aa af w (((wx.setCell ⟨w.heap.size+1+1,0,none⟩ v0).setCell ⟨w.heap.size+1+1,1,none⟩ v1).setCell ⟨w.heap.size+1+1,2,none⟩ v2) :=
 h.k.step (UE wx (w.heap.size+1+1) v0 v1 v2) (fun g hg=>.inr (by omega))
theorem F6.beside (h:F6 w wx v room calls fail u r) {b:Nat} (hb:w.heap.size+3<=b) (k:aa (fun g=>g=b) wx wy):F6 w wy v room calls fail u r :=
 ⟨h.k.step k (fun g hg=>.inr (by omega)),h.b0.keep k (fun e=>by omega),h.b1.keep k (fun e=>by omega),h.b2.keep k (fun e=>by omega)⟩
theorem Bk.beside {b g:Nat} {l:List Value} (h:Bk wx b l) (hb:w.heap.size+3<=b) (k:aa (fun x=>x=w.heap.size) wx wy):Bk wy b l:=h.keep k (fun e=>by omega)
end
end Go.Proofs.YtnanhmfpikddkaaGreatDoor
