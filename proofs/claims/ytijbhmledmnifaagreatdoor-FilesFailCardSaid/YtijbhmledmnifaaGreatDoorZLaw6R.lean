/-
 FilesFail: the walk.
-/
import Derived.Test.YtijbhmledmnifaaGreatDoorG40

set_option linter.unusedSimpArgs false
set_option linter.unusedVariables false

set_option maxRecDepth 100000
set_option maxHeartbeats 8000000
namespace Go.Proofs.YtijbhmledmnifaaGreatDoor
open Go Go.RowKit
noncomputable def stG (calls fail room at' mask:Int) (d:Nds) (o:OpS):Nds × Int:=if 1<=o.kind∧o.kind<=7 then ((opF calls fail room at' mask d o).1,calls+1) else (d,calls)
section
variable {B:Nat->Prop} {w:World} {B0 F a:Nat} {d:Nds} {room calls fail at' mask:Int} {p:Option Addr} {c k:Nat}
theorem l6step_ex (h:Sd B w B0 F a p c d room calls fail at' mask k) (hk:k<=40) (o:OpS) (ho:okO o=true) (h8:o.kind≠8) (h9:o.kind≠9) :
  Calls Tryz.prog 19 #[.pointer (some ⟨B0,0,none⟩),.agg #[.int .i64 o.kind,.string o.s,.string o.t,.int .i64 o.m,.int .i64 o.n,.int .i64 o.k]] w (StTo B w B0 F a (stG calls fail room at' mask d o).1 room (stG calls fail room at' mask d o).2 fail at' mask (k+1)):=by
 obtain ⟨kd,s,t,m,n,kk⟩:=o
 unfold stG
 by_cases h17:1<=kd∧kd<=7
 ·rw [if_pos h17]
  have hh:kd=1∨kd=2∨kd=3∨kd=4∨kd=5∨kd=6∨kd=7:=by omega
  rcases hh with rfl|rfl|rfl|rfl|rfl|rfl|rfl
  ·exact l6step1_any h hk s t m n kk ho
  ·exact l6step2_any h hk s t m n kk ho
  ·exact l6step3_any h hk s t m n kk ho
  ·exact l6step4_any h hk s t m n kk ho
  ·exact l6step5_any h hk s t m n kk ho
  ·exact l6step6_any h hk s t m n kk ho
  ·exact l6step7_any h hk s t m n kk ho
 ·rw [if_neg h17]
  have k0:Keeps NoB w ((w.alloc (.cells #[.int .i64 kd,.string s,.string t,.int .i64 m,.int .i64 n,.int .i64 kk] 55)).alloc (.cells #[.int .i64 at',.int .i64 mask] 46)):=((Keeps.refl NoB w).alloc _).alloc _
  have HH:=Lib.hid (h.on k0)
  have HK:=Lib.hid k0
  have x0:=h.bx.cell 7 _ rfl
  have x1:=h.bx.cell 8 _ rfl
  have bl:=h.bx.lt
  simp only at h8 h9
  have b1:(kd == 1)=false:=by simp;omega
  have b2:(kd == 2)=false:=by simp;omega
  have b3:(kd == 3)=false:=by simp;omega
  have b4:(kd == 4)=false:=by simp;omega
  have b5:(kd == 5)=false:=by simp;omega
  have b6:(kd == 6)=false:=by simp;omega
  have b7:(kd == 7)=false:=by simp;omega
  have b8:(kd == 8)=false:=by simpa using h8
  have b9:(kd == 9)=false:=by simpa using h9
  clear h h17 h8 h9 k0
  go_enter Tryz.func19,Tryz.ntmps19
  go_wp2_with fail
  go_ret
  exact ⟨p,c,rfl,HH.out.up,HK.out.of_none⟩
end
theorem stG_pair (calls1 calls2 fail room:Int) (d:Nds) (o:OpS) (h2:0<=calls2) :
  (1<=o.kind∧o.kind<=7∧calls1=fail->(stG calls1 fail room 1 0 d o).1=d∧(stG calls1 fail room 1 0 d o).2=calls1+1) ∧
  (¬ (1<=o.kind∧o.kind<=7∧calls1=fail)->(stG calls1 fail room 1 0 d o).1=(stG calls2 (-1) room 1 0 d o).1∧(calls1≠fail∨(stG calls1 fail room 1 0 d o).2=calls1)):=by
 unfold stG
 by_cases h17:1<=o.kind∧o.kind<=7
 ·rw [if_pos h17,if_pos h17]
  refine ⟨fun h=>⟨?_,rfl⟩,fun h=>?_⟩
  ·unfold opF orFail callE
   rw [if_pos h.2.2,if_pos (by decide)]
  ·have hne:calls1≠fail:=fun e=>h ⟨h17.1,h17.2,e⟩
   refine ⟨?_,.inl hne⟩
   unfold opF orFail callE
   rw [if_neg hne,if_neg (by decide),if_neg (show ¬ calls2=-1 by omega),if_neg (by decide)]
 ·rw [if_neg h17,if_neg h17]
  exact ⟨fun h=>absurd ⟨h.1,h.2.1⟩ h17,fun _=>⟨rfl,.inr rfl⟩⟩
structure Fj2 (V:Nat->Prop) (W w:World) (B1 F1 a1 B2 F2 a2:Nat) (d1 d2:Nds) (calls1 calls2 fail:Int) (j j2:Nat):Prop where
 ex:∃ (G1 G2:Nat->Prop) (p1 p2:Option Addr) (c1 c2:Nat),Sd G1 w B1 F1 a1 p1 c1 d1 1048576 calls1 fail 1 0 j∧Sd G2 w B2 F2 a2 p2 c2 d2 1048576 calls2 (-1) 1 0 j2 ∧
  (∀ g,g < w.heap.size->G1 g∨G2 g)∧(∀ g,g < W.heap.size∨V g->G1 g∧G2 g)∧G1 B2∧G2 B1
 ne:B1≠B2
 l1:W.heap.size<=B1
 l2:W.heap.size<=B2
 v1:¬ V B1
 v2:¬ V B2
 k:Keeps NoB W w
section
variable {V V':Nat->Prop} {W w w':World} {B1 F1 a1 B2 F2 a2:Nat} {d1 d2 d':Nds} {calls1 calls2 calls' fail:Int} {j j2:Nat}
theorem Fj2.on (h:Fj2 V W w B1 F1 a1 B2 F2 a2 d1 d2 calls1 calls2 fail j j2) (k:Keeps NoB w w') (hV:∀ g,V' g->V g∨(w.heap.size<=g∧g < w'.heap.size)):Fj2 V' W w' B1 F1 a1 B2 F2 a2 d1 d2 calls1 calls2 fail j j2:=by
 obtain ⟨G1,G2,p1,p2,c1,c2,h1,h2,h3,h4,h5,h6⟩:=h.ex
 have b1:=h1.bx.lt
 have b2:=h2.bx.lt
 refine ⟨⟨fun g=>G1 g∨(w.heap.size<=g∧g < w'.heap.size),fun g=>G2 g∨(w.heap.size<=g∧g < w'.heap.size),p1,p2,c1,c2,h1.more k (fun _ _ hx=>hx.elim) (fun hx=>hx) (fun _ hg=>hg) (.inl h1.nb),h2.more k (fun _ _ hx=>hx.elim) (fun hx=>hx) (fun _ hg=>hg) (.inl h2.nb),fun g hg=>?_,fun g hg=>?_,.inl h5,.inl h6⟩,h.ne,h.l1,h.l2,fun hv=>(hV _ hv).elim h.v1 (fun e=>by omega),fun hv=>(hV _ hv).elim h.v2 (fun e=>by omega),h.k.trans k⟩
 ·rcases Nat.lt_or_ge g w.heap.size with h|h
  ·exact (h3 g h).imp .inl .inl
  ·exact .inl (.inr ⟨h,hg⟩)
 ·rcases hg with hg|hg
  ·exact ⟨.inl (h4 g (.inl hg)).1,.inl (h4 g (.inl hg)).2⟩
  ·rcases hV g hg with hg|hg
   ·exact ⟨.inl (h4 g (.inr hg)).1,.inl (h4 g (.inr hg)).2⟩
   ·exact ⟨.inr hg,.inr hg⟩
theorem Fj2.calls (h:Fj2 V W w B1 F1 a1 B2 F2 a2 d1 d2 calls1 calls2 fail j j2):Calls Tryz.prog 18 #[.pointer (some ⟨F1,0,none⟩)] w fun e w'=>e=.returned (.int .i64 calls1)∧w'=w:=by
 obtain ⟨G1,G2,p1,p2,c1,c2,h1,_⟩:=h.ex
 exact h1.sd.asks fun N hN=>(callsF_any hN).mono fun e w' h=>⟨h.1,h.2.symm⟩
theorem Fj2.f0 (h:Fj2 V W w B1 F1 a1 B2 F2 a2 d1 d2 calls1 calls2 fail j j2):w.cell? ⟨B1,0,none⟩=some (.pointer (some ⟨F1,0,none⟩)):=by
 obtain ⟨G1,G2,p1,p2,c1,c2,h1,_⟩:=h.ex
 exact h1.bx.cell 0 _ rfl
def Fj2To (V:Nat->Prop) (W w:World) (B1 F1 a1 B2 F2 a2:Nat) (d1 d2:Nds) (calls1 calls2 fail:Int) (j j2:Nat):Ending->World->Prop:=fun e w'=>e=.returned (.bool true)∧Fj2 V W w' B1 F1 a1 B2 F2 a2 d1 d2 calls1 calls2 fail j j2∧Keeps (fun g=>¬ V g) w w'
theorem Fj2.step1 (h:Fj2 V W w B1 F1 a1 B2 F2 a2 d1 d2 calls1 calls2 fail j j2) (hj:j<=40) (o:OpS) (ho:okO o=true) (h8:o.kind≠8) (h9:o.kind≠9) :
  Calls Tryz.prog 19 #[.pointer (some ⟨B1,0,none⟩),.agg #[.int .i64 o.kind,.string o.s,.string o.t,.int .i64 o.m,.int .i64 o.n,.int .i64 o.k]] w (Fj2To V W w B1 F1 a1 B2 F2 a2 (stG calls1 fail 1048576 1 0 d1 o).1 d2 (stG calls1 fail 1048576 1 0 d1 o).2 calls2 fail (j+1) j2):=by
 obtain ⟨G1,G2,p1,p2,c1,c2,h1,h2,h3,h4,h5,h6⟩:=h.ex
 refine (l6step_ex h1 hj o ho h8 h9).mono ?_
 rintro e w' ⟨p',c',rfl,h7,k7⟩
 have hs:=k7.size
 refine ⟨rfl,⟨⟨G1,fun g=>G2 g∨(w.heap.size<=g∧g < w'.heap.size),p',p2,c',c2,h7,h2.more k7 (fun g hg hx=>hx.elim (fun hn=>(h3 g hg).resolve_left hn) (fun e=>by rw [e];exact h6)) (fun hx=>hx.elim (fun hn=>hn h5) (fun e=>h.ne e.symm)) (fun _ hg=>hg) (.inl h2.nb),fun g hg=>?_,fun g hg=>⟨(h4 g hg).1,.inl (h4 g hg).2⟩,h5,.inl h6⟩,h.ne,h.l1,h.l2,h.v1,h.v2,h.k.step k7 (fun g hg=>?_)⟩,k7.mono (fun g _ hg hv=>hg.elim (fun hn=>hn (h4 g (.inr hv)).1) (fun e=>h.v1 (by rw [<- e];exact hv)))⟩
 ·rcases Nat.lt_or_ge g w.heap.size with h|h
  ·exact (h3 g h).imp id .inl
  ·exact .inr (.inr ⟨h,hg⟩)
 ·rcases hg with hg|rfl
  ·rcases Nat.lt_or_ge g W.heap.size with h|h
   ·exact absurd (h4 g (.inl h)).1 hg
   ·exact .inr h
  ·exact .inr h.l1
theorem Fj2.step2 (h:Fj2 V W w B1 F1 a1 B2 F2 a2 d1 d2 calls1 calls2 fail j j2) (hj:j2<=40) (o:OpS) (ho:okO o=true) (h8:o.kind≠8) (h9:o.kind≠9) :
  Calls Tryz.prog 19 #[.pointer (some ⟨B2,0,none⟩),.agg #[.int .i64 o.kind,.string o.s,.string o.t,.int .i64 o.m,.int .i64 o.n,.int .i64 o.k]] w (Fj2To V W w B1 F1 a1 B2 F2 a2 d1 (stG calls2 (-1) 1048576 1 0 d2 o).1 calls1 (stG calls2 (-1) 1048576 1 0 d2 o).2 fail j (j2+1)):=by
 obtain ⟨G1,G2,p1,p2,c1,c2,h1,h2,h3,h4,h5,h6⟩:=h.ex
 refine (l6step_ex h2 hj o ho h8 h9).mono ?_
 rintro e w' ⟨p',c',rfl,h7,k7⟩
 have hs:=k7.size
 refine ⟨rfl,⟨⟨fun g=>G1 g∨(w.heap.size<=g∧g < w'.heap.size),G2,p1,p',c1,c',h1.more k7 (fun g hg hx=>hx.elim (fun hn=>(h3 g hg).resolve_right hn) (fun e=>by rw [e];exact h5)) (fun hx=>hx.elim (fun hn=>hn h6) (fun e=>h.ne e)) (fun _ hg=>hg) (.inl h1.nb),h7,fun g hg=>?_,fun g hg=>⟨.inl (h4 g hg).1,(h4 g hg).2⟩,.inl h5,h6⟩,h.ne,h.l1,h.l2,h.v1,h.v2,h.k.step k7 (fun g hg=>?_)⟩,k7.mono (fun g _ hg hv=>hg.elim (fun hn=>hn (h4 g (.inr hv)).2) (fun e=>h.v2 (by rw [<- e];exact hv)))⟩
 ·rcases Nat.lt_or_ge g w.heap.size with h|h
  ·exact (h3 g h).imp .inl id
  ·exact .inl (.inr ⟨h,hg⟩)
 ·rcases hg with hg|rfl
  ·rcases Nat.lt_or_ge g W.heap.size with h|h
   ·exact absurd (h4 g (.inl h)).2 hg
   ·exact .inr h
  ·exact .inr h.l2
theorem Fj2.start {w0 w1 w2:World} {fail:Int} (k0:Keeps NoB W w0) {p1:Option Addr} {c1:Nat} (g1:w0.heap.size<=B1) (h1:Sd (fun g=>g < w0.heap.size∨g=B1) w1 B1 F1 a1 p1 c1 newD 1048576 0 fail 1 0 0) (k1:Keeps NoB w0 w1)
  {p2:Option Addr} {c2:Nat} (g2:w1.heap.size<=B2) (h2:Sd (fun g=>g < w1.heap.size∨g=B2) w2 B2 F2 a2 p2 c2 newD 1048576 0 (-1) 1 0 0) (k2:Keeps NoB w1 w2):Fj2 NoB W w2 B1 F1 a1 B2 F2 a2 newD newD 0 0 fail 0 0:=by
 have s0:=k0.size
 have s1:=k1.size
 have s2:=k2.size
 have b1:=h1.bx.lt
 have b2:=h2.bx.lt
 refine ⟨⟨fun g=>(g < w0.heap.size∨g=B1)∨(w1.heap.size<=g∧g < w2.heap.size),fun g=>g < w1.heap.size∨g=B2,p1,p2,c1,c2,h1.more k2 (fun _ _ hx=>hx.elim) (fun hx=>hx) (fun _ hg=>hg) (.inl (.inr rfl)),h2,fun g hg=>?_,fun g hg=>?_,.inr ⟨g2,b2⟩,.inl b1⟩,by omega,by omega,by omega,fun h=>h,fun h=>h,(k0.trans k1).trans k2⟩
 ·rcases Nat.lt_or_ge g w1.heap.size with h|h
  ·exact .inr (.inl h)
  ·exact .inl (.inr ⟨h,hg⟩)
 ·rcases hg with hg|hg
  ·exact ⟨.inl (.inl (by omega)),.inl (by omega)⟩
  ·exact hg.elim
end
def Yes (W:World):Ending->World->Prop:=fun e w'=>e=.returned (.bool true)∧Keeps NoB W w'
theorem smallO_parts {l:List OpS} (h:smallO l=true):(∀ o ∈ l,okO o=true)∧l.length<=40:=by
 unfold smallO at h
 rw [Bool.and_eq_true,List.all_eq_true] at h
 exact ⟨h.1,of_decide_eq_true h.2⟩
theorem filesFail_any {W:World} {q:Option Addr} {m:Nat} {l:List OpS} (h:SlAt encOpS (fun g=>g < W.heap.size) W q m l) (hz:∀ o ∈ l,o.s.size<=maxLen∧o.t.size<=maxLen) (fail:Int) :
  Calls Tryz.prog 4 #[.slice q l.length m,.int .i64 fail] W (Yes W):=by
 have HL:=Lib.hid h
 have HSm:=Lib.hid (fun (wx:World) (kx:Keeps NoB W wx)=>l6small_any (h.keepN kx) (fun o ho=>by have:=hz o ho;unfold maxLen at this;omega))
 have hcap:=h.cap
 have hmax:=h.max
 unfold maxLen at hmax
 clear h hz
 obtain ⟨sm,hsm⟩:∃ sm,smallO l=sm:=⟨_,rfl⟩
 rw [hsm] at HSm
 cases sm with
 | false =>
  clear hsm
  go_enter Tryz.func4,Tryz.ntmps4
  go_wp2_with (first|(go_at_call 15;go_loud (refine (anchor6_any _).mono ?_);rintro e w1 ⟨rfl,k1⟩)|(go_at_call 16;go_loud (refine (HSm.out _ k1).mono ?_);rintro e w2 ⟨rfl,k2⟩))
  go_ret
  exact ⟨rfl,k1.trans k2⟩
 | true =>
 obtain ⟨ho,hn⟩:=smallO_parts hsm
 have HO:=Lib.hid ho
 have HN:=Lib.hid hn
 clear ho hn hsm
 by_cases hf:fail < 0
 case pos =>
  go_enter Tryz.func4,Tryz.ntmps4
  go_wp2_with (first|(go_at_call 15;go_loud (refine (anchor6_any _).mono ?_);rintro e w1 ⟨rfl,k1⟩)|(go_at_call 16;go_loud (refine (HSm.out _ k1).mono ?_);rintro e w2 ⟨rfl,k2⟩))
  go_ret
  exact ⟨rfl,k1.trans k2⟩
 case neg =>
 have HB1:=Lib.hid (fun wx:World=>l6begun_any wx 1048576 fail 0 (by decide) (by decide) (by decide) (by decide))
 have HB2:=Lib.hid (fun wx:World=>l6begun_any wx 1048576 (-1) 0 (by decide) (by decide) (by decide) (by decide))
 unfold BgTo at HB1 HB2
 go_enter Tryz.func4,Tryz.ntmps4
 go_upto_region 5 with (first|(go_at_call 15;go_loud (refine (anchor6_any _).mono ?_);rintro e w1 ⟨rfl,k1⟩)|(go_at_call 16;go_loud (refine (HSm.out _ k1).mono ?_);rintro e w2 ⟨rfl,k2⟩))
 have HK2:=Lib.hid (k1.trans k2)
 clear k1 k2 HSm
 go_upto_region 8 with (first
  | (go_at_call 17;have HBx:=HB1;clear HB1;go_loud (refine (HBx.out _).mono ?_);rintro e w3 ⟨B1,F1,a1,p1,c1,rfl,g1,h1,k3⟩;have HS1:=Lib.hid h1;have HG1:=Lib.hid g1;have HK3:=Lib.hid k3;clear h1 g1 k3 HBx)
  | (go_at_call 17;have HBx:=HB2;clear HB2;go_loud (refine (HBx.out _).mono ?_);rintro e w4 ⟨B2,F2,a2,p2,c2,rfl,g2,h2,k4⟩;have HS2:=Lib.hid h2;have HG2:=Lib.hid g2;have HK4:=Lib.hid k4;clear h2 g2 k4 HBx))
 have HJ0:=Lib.hid (Fj2.start HK2.out HG1.out HS1.out HK3.out HG2.out HS2.out HK4.out)
 clear HK2 HG1 HS1 HK3 HG2 HS2 HK4
 go_wp2
 go_loopw [8,9,10,31] (fun _ _ _ iv wr=>∃ (j j1 j2:Nat) (d:Nds) (calls1 calls2:Int),j<=l.length∧j1<=j∧j2<=j∧iv=.int .i64 j∧Fj2 NoB W wr B1 F1 a1 B2 F2 a2 d d calls1 calls2 fail j1 j2) (fun _ _ _ iv _=>l.length+1 - (intOf iv).toNat)
 case atStart=>exact ⟨0,0,0,newD,0,0,Nat.zero_le _,Nat.le_refl _,Nat.le_refl _,rfl,HJ0.out⟩
 case round =>
  obtain ⟨j,j1,j2,d,calls1,calls2,hj,hj1,hj2,rfl,hJ⟩:=hrel
  have HJ:=Lib.hid hJ
  clear hJ HJ0
  by_cases hlt:j < l.length
  case neg =>
   obtain rfl:j=l.length:=by omega
   have hlz:¬ (l.length:Int) < (l.length:Int):=by omega
   obtain ⟨G1,G2,p1,p2,c1,c2,h1,h2,h3,h4,h5,h6⟩:=HJ.out.ex
   have HS1:=Lib.hid h1
   have HS2:=Lib.hid h2
   have HG:=Lib.hid h6
   have x3:=h2.bx.cell 3 _ rfl
   have x4:=h2.bx.cell 4 _ rfl
   have y3:=h1.bx.cell 3 _ rfl
   have y4:=h1.bx.cell 4 _ rfl
   have yl:=h1.bx.lt
   have yf:=h1.bx.fz
   clear h1 h2 h3 h4 h5 h6
   have kp:=((Keeps.refl (fun g=>g=B1) wr).setCell (p:=⟨B1,3,none⟩) (.inl (show B1=B1 from rfl)) (.slice p2 d.length c2)).setCell (p:=⟨B1,4,none⟩) (.inl (show B1=B1 from rfl)) (.int .i64 1048576)
   have hb5:=(HS1.out.bx.put 3 (.slice p2 d.length c2)).put 4 (.int .i64 1048576)
   have hsm5:SmAt ((wr.setCell ⟨B1,3,none⟩ (.slice p2 d.length c2)).setCell ⟨B1,4,none⟩ (.int .i64 1048576)) B1 F1 a1 d 1048576 calls1 fail 1048576 p2 c2:=by
    obtain ⟨N,_,hf,_⟩:=(HS1.out.sd.turn kp (fun g _ hg=>by rw [show g=B1 from hg];exact HS1.out.nb)).ex
    obtain ⟨N',_,_,hr⟩:=(HS2.out.sd.turn kp (fun g _ hg=>by rw [show g=B1 from hg];exact HG.out)).ex
    exact ⟨⟨N,hf⟩,⟨_,hr⟩,hb5.lt,hb5.cell 0 _ rfl,hb5.cell 3 _ rfl,hb5.cell 4 _ rfl⟩
   have HSame:=Lib.hid (same_any hsm5 60 (by decide) 1)
   have HK5:=Lib.hid (HJ.out.k.step kp (fun g hg=>.inr (by rw [show g=B1 from hg];exact HJ.out.l1)))
   clear kp hb5 hsm5 HS1 HS2 HG HJ
   go_upto_region 20 with fail
   go_wp2_with (go_at_call 20;go_loud (refine HSame.out.mono ?_);rintro e w6 ⟨rfl,k6⟩)
   go_ret
   exact ⟨rfl,HK5.out.trans k6⟩
  case pos =>
  have hlz:(j:Int) < (l.length:Int):=by omega
  obtain ⟨x,hx⟩:∃ x,l[j]?=some x:=⟨_,List.getElem?_eq_getElem hlt⟩
  obtain ⟨g,off,rfl,_,hgl,c0,c2,c3,c4,c5,c6⟩:=(HL.out.keepN HJ.out.k).op6 hx
  have hok:=HO.out x (List.mem_of_getElem? hx)
  have HJ40:=Lib.hid (show j1<=40∧j2<=40∧j1<=j∧j2<=j from by have:=HN.out;omega)
  clear hx hj1 hj2
  obtain ⟨kd,s,t,md,n,kk⟩:=x
  simp only at c0 c2 c3 c4 c5 c6
  replace hok:=Lib.hid hok
  go_upto_region 11 with fail
  have ka:Keeps NoB wr (wr.alloc (.cells #[.int .i64 kd,.string s,.string t,.int .i64 md,.int .i64 n,.int .i64 kk] 55)):=(Keeps.refl NoB wr).alloc _
  have HOB:=Lib.hid (Bk.new (Keeps.refl NoB (wr.alloc (.cells #[.int .i64 kd,.string s,.string t,.int .i64 md,.int .i64 n,.int .i64 kk] 55))))
  have H2:=Lib.hid (HJ.out.on ka (V':=fun g=>g=wr.heap.size) (fun g hg=>.inr ⟨by omega,by rw [hg];simp⟩))
  clear c0 c2 c3 c4 c5 c6 ka hgl HJ
  generalize wr.alloc (.cells #[.int .i64 kd,.string s,.string t,.int .i64 md,.int .i64 n,.int .i64 kk] 55)=w2 at *
  generalize wr.heap.size=OB at *
  have o0:=HOB.out.cell 0 _ rfl
  by_cases h8:kd=8
  case pos =>
   subst h8
   go_wp2_with fail
   go_roundw
   case rel=>exact ⟨j+1,j1,j2,d,calls1,calls2,by omega,by have:=HJ40.out;omega,by have:=HJ40.out;omega,by go_num,H2.out.on (Keeps.refl NoB _) (fun _ hg=>hg.elim)⟩
   case measure=>simp [intOf];omega
  case neg =>
  have b8:(kd == 8)=false:=by simpa using h8
  by_cases h9:kd=9
  case pos =>
   subst h9
   go_wp2_with fail
   go_roundw
   case rel=>exact ⟨j+1,j1,j2,d,calls1,calls2,by omega,by have:=HJ40.out;omega,by have:=HJ40.out;omega,by go_num,H2.out.on (Keeps.refl NoB _) (fun _ hg=>hg.elim)⟩
   case measure=>simp [intOf];omega
  case neg =>
  have b9:(kd == 9)=false:=by simpa using h9
  have f0:=H2.out.f0
  have HCa:=Lib.hid H2.out.calls
  go_upto_region 13 with (go_at_call 18;go_loud (refine HCa.out.mono ?_);rintro e wf ⟨rfl,hwf⟩;obtain rfl:_=wf:=hwf.symm)
  have o1:=HOB.out.cell 1 _ rfl
  have o2:=HOB.out.cell 2 _ rfl
  have o3:=HOB.out.cell 3 _ rfl
  have o4:=HOB.out.cell 4 _ rfl
  have o5:=HOB.out.cell 5 _ rfl
  have HSt:=Lib.hid (H2.out.step1 HJ40.out.1 ⟨kd,s,t,md,n,kk⟩ hok.out h8 h9)
  obtain ⟨hp1,hp2⟩:=stG_pair calls1 calls2 fail 1048576 d ⟨kd,s,t,md,n,kk⟩ (by obtain ⟨_,_,_,_,_,_,_,hh,_⟩:=H2.out.ex;exact hh.c0)
  have HP1:=Lib.hid hp1
  have HP2:=Lib.hid hp2
  clear hp1 hp2
  have HSt2:=Lib.hid (fun (wx:World) (d1:Nds) (c1:Int) (j1':Nat) (hx:Fj2 (fun g=>g=OB) W wx B1 F1 a1 B2 F2 a2 d1 d c1 calls2 fail j1' j2)=>hx.step2 HJ40.out.2.1 ⟨kd,s,t,md,n,kk⟩ hok.out h8 h9)
  obtain ⟨⟨dA,cA⟩,hA⟩:∃ A,stG calls1 fail 1048576 1 0 d ⟨kd,s,t,md,n,kk⟩=A:=⟨_,rfl⟩
  obtain ⟨⟨dC,cC⟩,hC⟩:∃ A,stG calls2 (-1) 1048576 1 0 d ⟨kd,s,t,md,n,kk⟩=A:=⟨_,rfl⟩
  rw [hA] at HSt HP1 HP2
  rw [hC] at HSt2 HP2
  simp only at HSt HSt2 HP1 HP2
  unfold Fj2To at HSt HSt2
  clear hA hC HCa
  go_upto_region 14 with (go_at_call 19;go_loud (refine HSt.out.mono ?_);rintro e w3 ⟨rfl,h3,k3⟩;have H3:=Lib.hid h3;have HO3:=Lib.hid (HOB.out.keep k3 (fun hn=>hn rfl));clear h3 k3)
  clear f0 o0 o1 o2 o3 o4 o5 HSt H2 HOB
  have f0:=H3.out.f0
  have HCa:=Lib.hid H3.out.calls
  by_cases hcase:1<=kd∧kd<=7∧calls1=fail
  case pos =>
   obtain ⟨e1,e2⟩:=HP1.out hcase
   have e1':dA=d:=e1
   have e2':cA=calls1+1:=e2
   subst e1' e2'
   have hcf:calls1=fail:=hcase.2.2
   subst hcf
   have hne:(calls1+1 == calls1)=false:=beq_eq_false_iff_ne.2 (by omega)
   clear hcase e1 e2 HP1 HP2 HSt2 b8 b9 h8 h9
   go_upto_region 16 with (go_at_call 18;go_loud (refine HCa.out.mono ?_);rintro e wf ⟨rfl,hwf⟩;obtain rfl:_=wf:=hwf.symm)
   go_wp2_with fail
   go_roundw
   case rel=>exact ⟨j+1,j1+1,j2,dA,calls1+1,calls2,by omega,by have:=HJ40.out;omega,by have:=HJ40.out;omega,by go_num,H3.out.on (Keeps.refl NoB _) (fun _ hg=>hg.elim)⟩
   case measure=>simp [intOf];omega
  case neg =>
   obtain ⟨e1,e2⟩:=HP2.out hcase
   have e1':dA=dC:=e1
   subst e1'
   have HE2:=Lib.hid e2
   have HSt3:=Lib.hid (HSt2.out w3 dA cA (j1+1) H3.out)
   clear hcase e1 e2 HP1 HP2 HSt2 b8 b9 h8 h9
   have o0:=HO3.out.cell 0 _ rfl
   have o1:=HO3.out.cell 1 _ rfl
   have o2:=HO3.out.cell 2 _ rfl
   have o3:=HO3.out.cell 3 _ rfl
   have o4:=HO3.out.cell 4 _ rfl
   have o5:=HO3.out.cell 5 _ rfl
   by_cases hcf:calls1=fail
   case pos =>
    have hca:cA=calls1:=HE2.out.resolve_left (fun h=>h hcf)
    subst hcf hca
    go_upto_region 16 with (first|(go_at_call 18;go_loud (refine HCa.out.mono ?_);rintro e wf ⟨rfl,hwf⟩;obtain rfl:_=wf:=hwf.symm)|(go_at_call 19;go_loud (refine HSt3.out.mono ?_);rintro e w4 ⟨rfl,h4,k4⟩;have H4:=Lib.hid h4;clear h4 k4))
    go_wp2_with fail
    go_roundw
    case rel=>exact ⟨j+1,j1+1,j2+1,dA,_,cC,by omega,by have:=HJ40.out;omega,by have:=HJ40.out;omega,by go_num,H4.out.on (Keeps.refl NoB _) (fun _ hg=>hg.elim)⟩
    case measure=>simp [intOf];omega
   case neg =>
    have hbf:(calls1 != fail)=true:=by simpa using hcf
    clear hcf
    go_upto_region 16 with (first|(go_at_call 18;go_loud (refine HCa.out.mono ?_);rintro e wf ⟨rfl,hwf⟩;obtain rfl:_=wf:=hwf.symm)|(go_at_call 19;go_loud (refine HSt3.out.mono ?_);rintro e w4 ⟨rfl,h4,k4⟩;have H4:=Lib.hid h4;clear h4 k4))
    go_wp2_with fail
    go_roundw
    case rel=>exact ⟨j+1,j1+1,j2+1,dA,cA,cC,by omega,by have:=HJ40.out;omega,by have:=HJ40.out;omega,by go_num,H4.out.on (Keeps.refl NoB _) (fun _ hg=>hg.elim)⟩
    case measure=>simp [intOf];omega
end Go.Proofs.YtijbhmledmnifaaGreatDoor
