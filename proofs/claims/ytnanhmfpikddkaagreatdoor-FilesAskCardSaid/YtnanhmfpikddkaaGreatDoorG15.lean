/-
  Contracts of the reference for layer 5: way.
-/
import Derived.Test.YtnanhmfpikddkaaGreatDoorG13
import Derived.Test.YtnanhmfpikddkaaGreatDoorG14
import Derived.Test.YtnanhmfpikddkaaGreatDoorG09
import Derived.Laws.Bits64b
import Derived.Test.YtnanhmfpikddkaaGreatDoorG10
import Derived.Test.YtnanhmfpikddkaaGreatDoorG11
import Derived.Deep.RegionHeld3
import Derived.Test.YtnanhmfpikddkaaGreatDoorG07
import Derived.Test.YtnanhmfpikddkaaGreatDoorG03
import Derived.BigQuiet
import Derived.Deep.QuietTactic

set_option linter.unusedSimpArgs false
set_option linter.unusedVariables false
set_option maxRecDepth 100000
namespace Go.Proofs.YtnanhmfpikddkaaGreatDoor
open Go Go.RowKit
section
variable{S:Nat->Prop} {w:World} {p:Option Addr} {c:Nat} {d:ag} {room:Int}
theorem Vb (hI:aG d) (hs:aP d) {up:Int->Int} (cA:∀i u,aO d i=0->kY d i u->up i=u) (follow:Bool) (fuel:Nat) (ih:xM d up room follow fuel):xM d up room follow (fuel+1):=by
 intro S w p c h from' s n hsz rI oZ
 cases hab:fj s with
 | true=>exact Vc hI hs cA follow fuel ih S w p c h from' s n hsz rI oZ hab
 | false=>exact Vd hI hs cA follow fuel ih S w p c h from' s n hsz rI oZ hab
end
set_option maxHeartbeats 4000000
section
variable{S:Nat->Prop} {w:World} {p:Option Addr} {c:Nat} {d:ag} {room:Int}
theorem Me (hI:aG d) (hs:aP d) {up:Int->Int} (cA:∀i u,aO d i=0->kY d i u->up i=u) (follow:Bool):∀fuel,xM d up room follow fuel
 | 0=>fun _ _ _ _ _ _ _ _ _ h1 h2=>by omega
 | fuel+1=>Vb hI hs cA follow fuel (Me hI hs cA follow fuel)
theorem Mf (h:aI S w p c d) (hI:aG d) (hs:aP d) {up:Int->Int} (cA:∀i u,aO d i=0->kY d i u->up i=u) (from':Int) (s:ByteArray) (follow:Bool) (hsz:s.size<=4294967280) :
 Calls Tryz.prog 61 #[aE p c d room,.int .i64 from',.string s,.bool follow] w fun e w' =>
  e=.returned (.tuple #[aF (lR d up follow 41 from' s 0).1,.int .i64 (lR d up follow 41 from' s 0).2])∧aa af w w':=by
 have k1:aa af w ((w.alloc (.cells #[.slice p d.length c,.int .i64 room] 37)).alloc (.cells #[.int .i64 0,.int .i64 0,.string ⟨#[]⟩] 82)):=((aa.refl _ _).alloc _).alloc _
 have e1:(w.alloc (.cells #[.slice p d.length c,.int .i64 room] 37)).heap.size=w.heap.size+1:=by simp
 have HW:=Lib.hid (Me (room:=room) hI hs cA follow 41 _ _ _ _ (h.ai k1) from' s 0 hsz (by decide) (by decide))
 obtain⟨⟨⟨Fn,Fd,Fm⟩,Fe⟩,hF⟩:∃F,lR d up follow 41 from' s 0=F:=⟨_,rfl⟩
 rw[hF]at HW ⊢
 unfold aF aE at HW
 unfold aE
 simp only at HW ⊢
 clear hF cA
 go_enter Tryz.func61,Tryz.ntmps61
 go_wp2_with(first|(go_at_call 104;go_loud(refine HW.out.mono ?_);rintro e w2 ⟨rfl,hk2⟩;have KB:=kN (v0:=.int .i64 0) (v1:=.int .i64 0) (v2:=.string ⟨#[]⟩) hk2;rw[e1]at KB;have B0:=KB.c0;have B1:=KB.c1;have B2:=KB.c2;have FB:=KB.fz;have bl:=KB.lt;have kz:=k1.trans hk2))
 (try simp only[Exit.inBlock,Exit.then])
 refine bodyPost_ret (v:=.tuple #[aF ⟨Fn,Fd,Fm⟩,.int .i64 Fe]) ?_ rfl ?_
 ·rw[results_cell_tmp rfl];unfold aF;go_simp
 ·refine⟨rfl,?_⟩
  repeat exact kB
def rK (F:aJ × Int):aJ × Int:=if F.2=0∧F.1.node=0 then(.no,12)else F
theorem Vs (h:aI S w p c d) (hI:aG d) (hs:aP d) {up:Int->Int} (cA:∀i u,aO d i=0->kY d i u->up i=u) (from':Int) (s:ByteArray) (follow:Bool) (hsz:s.size<=4294967280) :
 Calls Tryz.prog 29 #[aE p c d room,.int .i64 from',.string s,.bool follow] w fun e w' =>
  e=.returned (.tuple #[aF (rK (lR d up follow 41 from' s 0)).1,.int .i64 (rK (lR d up follow 41 from' s 0)).2])∧aa af w w':=by
 have k1:aa af w ((w.alloc (.cells #[.slice p d.length c,.int .i64 room] 37)).alloc (.cells #[.int .i64 0,.int .i64 0,.string ⟨#[]⟩] 82)):=((aa.refl _ _).alloc _).alloc _
 have e1:(w.alloc (.cells #[.slice p d.length c,.int .i64 room] 37)).heap.size=w.heap.size+1:=by simp
 have HW:=Lib.hid (Mf (room:=room) (h.ai k1) hI hs cA from' s follow hsz)
 obtain⟨⟨⟨Fn,Fd,Fm⟩,Fe⟩,hF⟩:∃F,lR d up follow 41 from' s 0=F:=⟨_,rfl⟩
 rw[hF]at HW ⊢
 unfold aF aE at HW
 unfold aE
 simp only at HW
 clear hF cA
 have hC:(Fe≠0∨(Fe=0∧Fn≠0))∨(Fe=0∧Fn=0):=by
  by_cases g1:Fe=0
  ·by_cases g2:Fn=0
   ·exact .inr ⟨g1,g2⟩
   ·exact .inl (.inr ⟨g1,g2⟩)
  ·exact .inl (.inl g1)
 rcases hC with hC|⟨g1,g2⟩
 ·have HQ:=Lib.hid (show rK (⟨Fn,Fd,Fm⟩,Fe)=(⟨Fn,Fd,Fm⟩,Fe)by
   unfold rK
   rw[if_neg]
   rintro⟨h1,h2⟩
   exact hC.elim (fun h=>h h1) (fun h=>h.2 h2))
  rcases hC with g1|⟨g1,g2⟩
  ·have b1:(Fe==0)=false:=by simpa using g1
   go_enter Tryz.func29,Tryz.ntmps29
   go_wp2_with(first|(go_at_call 61;go_loud(refine HW.out.mono ?_);rintro e w2 ⟨rfl,hk2⟩;have KB:=kN (v0:=.int .i64 0) (v1:=.int .i64 0) (v2:=.string ⟨#[]⟩) hk2;rw[e1]at KB;have B0:=KB.c0;have B1:=KB.c1;have B2:=KB.c2;have FB:=KB.fz;have bl:=KB.lt;have kz:=k1.trans hk2))
   (try simp only[Exit.inBlock,Exit.then])
   refine bodyPost_ret (v:=.tuple #[aF ⟨Fn,Fd,Fm⟩,.int .i64 Fe]) ?_ rfl ?_
   ·rw[results_cell_tmp rfl];unfold aF;go_simp
   ·refine⟨by rw[HQ.out],?_⟩
    repeat exact kB
  ·have b1:(Fe==0)=true:=by simpa using g1
   have b2:(Fn==0)=false:=by simpa using g2
   clear g2
   go_enter Tryz.func29,Tryz.ntmps29
   go_wp2_with(first|(go_at_call 61;go_loud(refine HW.out.mono ?_);rintro e w2 ⟨rfl,hk2⟩;have KB:=kN (v0:=.int .i64 0) (v1:=.int .i64 0) (v2:=.string ⟨#[]⟩) hk2;rw[e1]at KB;have B0:=KB.c0;have B1:=KB.c1;have B2:=KB.c2;have FB:=KB.fz;have bl:=KB.lt;have kz:=k1.trans hk2))
   (try simp only[Exit.inBlock,Exit.then])
   refine bodyPost_ret (v:=.tuple #[aF ⟨Fn,Fd,Fm⟩,.int .i64 Fe]) ?_ rfl ?_
   ·rw[results_cell_tmp rfl];unfold aF;go_simp
   ·refine⟨by rw[HQ.out],?_⟩
    repeat exact kB
 ·have HQ:=Lib.hid (show rK (⟨Fn,Fd,Fm⟩,Fe)=(.no,12)by unfold rK;rw[if_pos ⟨g1,g2⟩])
  have b1:(Fe==0)=true:=by simpa using g1
  have b2:(Fn==0)=true:=by simpa using g2
  clear g2
  go_enter Tryz.func29,Tryz.ntmps29
  go_wp2_with(first|(go_at_call 61;go_loud(refine HW.out.mono ?_);rintro e w2 ⟨rfl,hk2⟩;have KB:=kN (v0:=.int .i64 0) (v1:=.int .i64 0) (v2:=.string ⟨#[]⟩) hk2;rw[e1]at KB;have B0:=KB.c0;have B1:=KB.c1;have B2:=KB.c2;have FB:=KB.fz;have bl:=KB.lt;have kz:=k1.trans hk2))
  (try simp only[Exit.inBlock,Exit.then])
  refine bodyPost_ret (v:=.tuple #[aF .no,.int .i64 12]) ?_ rfl ?_
  ·rw[results_cell_tmp rfl];unfold aF aJ.no;go_simp
  ·refine⟨by rw[HQ.out],?_⟩
   repeat exact kB
theorem Vt {F:aJ × Int} (h:F.2≠0->F.1=.no):rK F=iL F:=by
 obtain⟨P,e⟩:=F
 unfold rK iL
 simp only at h ⊢
 by_cases he:e=0
 ·subst he
  rw[if_neg (show ¬((0:Int)≠0)by simp)]
  by_cases hn:P.node=0
  ·rw[if_pos ⟨rfl,hn⟩,if_pos hn]
  ·rw[if_neg (fun h=>hn h.2),if_neg hn]
 ·rw[if_neg (fun h=>he h.1),if_pos he,h he]
theorem Vu (F:aJ × Int):rK (qF F)=iL F:=by
 have h:(qF F).2=F.2:=by unfold qF;split<;>rfl
 rw[Vt (F:=qF F) (fun h0=>by unfold qF;rw[if_neg (by rw[<- h];exact h0)])]
 unfold iL
 rw[h]
 by_cases h2:F.2≠0
 ·rw[if_pos h2,if_pos h2]
 ·rw[if_neg h2,if_neg h2]
  unfold qF
  rw[if_pos (Classical.not_not.1 h2)]
theorem nE (F:aJ × Int):(qF F).2=F.2:=by unfold qF;split<;>rfl
theorem xH (h:aI S w p c d) (hI:aG d) (hs:aP d) {up:Int->Int} (cA:∀i u,aO d i=0->kY d i u->up i=u) (from':Int) (s:ByteArray) (follow:Bool) (hsz:s.size<=4294967280) :
 Calls Tryz.prog 61 #[aE p c d room,.int .i64 from',.string s,.bool follow] w fun e w' =>
  e=.returned (.tuple #[aF (qF (eD d up follow 41 from' s 0)).1,.int .i64 (eD d up follow 41 from' s 0).2])∧aa af w w':=by
 have:=Mf (room:=room) h hI hs cA from' s follow hsz
 rw[Fl,nE]at this
 exact this
theorem xK (h:aI S w p c d) (hI:aG d) (hs:aP d) {up:Int->Int} (cA:∀i u,aO d i=0->kY d i u->up i=u) (from':Int) (s:ByteArray) (follow:Bool) (hsz:s.size<=4294967280) :
 Calls Tryz.prog 29 #[aE p c d room,.int .i64 from',.string s,.bool follow] w fun e w' =>
  e=.returned (.tuple #[aF (iL (eD d up follow 41 from' s 0)).1,.int .i64 (iL (eD d up follow 41 from' s 0)).2])∧aa af w w':=by
 have:=Vs (room:=room) h hI hs cA from' s follow hsz
 rw[Fl,Vu]at this
 exact this
end
end Go.Proofs.YtnanhmfpikddkaaGreatDoor
namespace Go.Proofs.YtnanhmfpikddkaaGreatDoor
open Go
theorem Qk (x i j:Nat) (h:x.testBit i=true):(x-2 ^ i).testBit j=(x.testBit j&&!decide (j=i)):=by
 have hp:0<2 ^ i:=Nat.two_pow_pos i
 have hb:x % 2 ^ i<2 ^ i:=Nat.mod_lt _ hp
 have hx:x=2 ^ i*(x / 2 ^ i)+x % 2 ^ i:=(Nat.div_add_mod x (2 ^ i)).symm
 have ho:x / 2 ^ i % 2=1:=by
  rw[Nat.testBit_eq_decide_div_mod_eq]at h
  exact of_decide_eq_true h
 obtain⟨a,ha⟩:∃a,x / 2 ^ i=2*a+1:=⟨x / 2 ^ i / 2,by omega⟩
 generalize x % 2 ^ i=b at *
 rw[ha]at hx
 have hs:x-2 ^ i=2 ^ i*(2*a)+b:=by
  rw[hx,Nat.mul_add,Nat.mul_one];omega
 rw[hs,hx,Nat.testBit_two_pow_mul_add _ hb,Nat.testBit_two_pow_mul_add _ hb]
 by_cases h1:j<i
 ·rw[if_pos h1,if_pos h1,decide_eq_false (by omega)];simp
 rw[if_neg h1,if_neg h1]
 by_cases h2:j=i
 ·subst h2
  rw[Nat.sub_self,decide_eq_true rfl]
  simp
 ·rw[decide_eq_false h2]
  obtain⟨k,hk⟩:∃k,j-i=k+1:=⟨j-i-1,by omega⟩
  rw[hk,Nat.testBit_succ,Nat.testBit_succ,show 2*a / 2=a by omega,show(2*a+1) / 2=a by omega]
  simp
def nX (m mask:Nat):Nat->Nat
 | 0=>m
 | i+1=>if mask.testBit i=true∧(nX m mask i).testBit i=true then nX m mask i-2 ^ i else nX m mask i
theorem Ja (m mask:Nat):∀i j,(nX m mask i).testBit j=(m.testBit j&&!(decide (j<i)&&mask.testBit j))
 | 0,j=>by simp[nX]
 | i+1,j=>by
   have ih:=Ja m mask i
   unfold nX
   split
   ·next h =>
    rw[Qk _ _ _ h.2,ih]
    by_cases hj:j=i
    ·subst hj
     simp[h.1]
    ·by_cases h1:j<i
     ·simp[hj,h1,Nat.lt_succ_of_lt h1]
     ·have:¬j<i+1:=by omega
      simp[hj,h1,this]
   ·next h =>
    rw[ih]
    by_cases hj:j=i
    ·subst hj
     simp only[Nat.lt_irrefl,decide_false,Bool.false_and,Bool.not_false,Bool.and_true,Nat.lt_succ_self,decide_true,Bool.true_and]
     cases hm:mask.testBit j
     ·simp
     ·have h2:¬(nX m mask j).testBit j=true:=fun e=>h ⟨hm,e⟩
      rw[ih]at h2
      simp at h2
      simp[h2]
    ·by_cases h1:j<i
     ·simp[h1,Nat.lt_succ_of_lt h1]
     ·have:¬j<i+1:=by omega
      simp[h1,this]
theorem zV (m mask:Nat):∀i,nX m mask i<=m
 | 0=>Nat.le_refl _
 | i+1=>by
   have:=zV m mask i
   unfold nX
   split
   ·exact Nat.le_trans (Nat.sub_le _ _) this
   ·exact this
theorem zW (a:Nat) (ha:a<18446744073709551616):(BitVec.ofInt 64 (a:Int)).toNat=a:=by
 rw[BitVec.ofInt_natCast,BitVec.toNat_ofNat];exact Nat.mod_eq_of_lt (by omega)
theorem Ql (a b:Nat) (ha:a<9223372036854775808) (hb:b<9223372036854775808):bits .and .i64 (a:Int) (b:Int)=((a &&& b:Nat):Int):=by
 have hx:a &&& b<2 ^ 63:=Nat.and_lt_two_pow _ (by omega)
 show IntKind.i64.wrap ((BitVec.ofInt 64 (a:Int) &&& BitVec.ofInt 64 (b:Int)).toNat:Int)=_
 rw[BitVec.toNat_and,zW a (by omega),zW b (by omega),IntKind.wrap_i64]
 omega
theorem Jb (m mask:Nat) (hm:m<4096) (hk:mask<512):bO (m:Int) (mask:Int)=((nX m mask 9:Nat):Int):=by
 have h1:bits BinOp.and IntKind.i64 (mask:Int) 511=((mask:Nat):Int):=by
  have h2:=Ql mask 511 (by omega) (by omega)
  rw[show((511:Nat):Int)=511 from rfl]at h2
  rw[h2]
  congr 1
  rw[show(511:Nat)=2 ^ 9-1 from rfl,Nat.and_two_pow_sub_one_eq_mod]
  exact Nat.mod_eq_of_lt (by omega)
 have hc:=zV m mask 9
 unfold bO
 rw[h1]
 show IntKind.i64.wrap ((BitVec.ofInt 64 (m:Int) &&& ~~~ BitVec.ofInt 64 (mask:Int)).toNat:Int)=_
 have h3:(BitVec.ofInt 64 (m:Int) &&& ~~~ BitVec.ofInt 64 (mask:Int)).toNat=nX m mask 9:=by
  apply Nat.eq_of_testBit_eq
  intro j
  rw[Ja]
  have oF:(BitVec.ofInt 64 (m:Int)).getLsbD j=m.testBit j:=by
   show(BitVec.ofInt 64 (m:Int)).toNat.testBit j=_
   rw[zW m (by omega)]
  have hbk:(BitVec.ofInt 64 (mask:Int)).getLsbD j=mask.testBit j:=by
   show(BitVec.ofInt 64 (mask:Int)).toNat.testBit j=_
   rw[zW mask (by omega)]
  show(BitVec.ofInt 64 (m:Int) &&& ~~~ BitVec.ofInt 64 (mask:Int)).getLsbD j=_
  rw[BitVec.getLsbD_and,BitVec.getLsbD_not,oF,hbk]
  by_cases h9:j<9
  ·simp[h9,show j<64 by omega]
  ·have hkj:mask.testBit j=false:=Nat.testBit_lt_two_pow (Nat.lt_of_lt_of_le hk (by
    rw[show(512:Nat)=2 ^ 9 from rfl]
    exact Nat.pow_le_pow_right (by decide) (by omega)))
   by_cases Qm:j<64
   ·simp[h9,Qm,hkj]
   ·have Qn:m.testBit j=false:=Nat.testBit_lt_two_pow (Nat.lt_of_lt_of_le hm (by
     rw[show(4096:Nat)=2 ^ 12 from rfl]
     exact Nat.pow_le_pow_right (by decide) (by omega)))
    simp[Qn]
 rw[h3,IntKind.wrap_i64]
 omega
end Go.Proofs.YtnanhmfpikddkaaGreatDoor
set_option maxHeartbeats 8000000
namespace Go.Proofs.YtnanhmfpikddkaaGreatDoor
open Go Go.RowKit
theorem JS {w:World} {g b j:Nat} {v:Value} (h:w.cell? ⟨g,j,none⟩=some v) (hne:¬g=b) (v0 v1 v2 v3:Value) :
 ((((w.setCell ⟨b,0,none⟩ v0).setCell ⟨b,1,none⟩ v1).setCell ⟨b,2,none⟩ v2).setCell ⟨b,3,none⟩ v3).cell? ⟨g,j,none⟩=some v :=
 ((gB w b v0 v1 v2 v3).cell (p:=⟨g,j,none⟩) (dm h) hne).trans h
structure R6 (S:Nat->Prop) (w:World) (p:Option Addr) (c:Nat) (d:ag) (calls:Int):Prop where
 rows:aI S w p c d
 all:∀g,w.heap.size<=g->S g
 inv:aG d
 clean:bK d
 nh:NH d
 ms:aH d+8<=2147483648
 c0:0<=calls
 c1:calls<=4611686018427387904
section
variable{S:Nat->Prop} {w:World} {p:Option Addr} {c:Nat} {d:ag} {room calls fail:Int}
theorem R6.small (H:R6 S w p c d calls):aP d:=by have:=H.ms;unfold aP;omega
theorem UH (d:ag) (at':Int) (s:ByteArray) (slash:Bool):vv (qF (aQ d at' s false)) slash (cg s) (cD d (qF (aQ d at' s false)).1.dir 128)=(eE d at' s slash).2:=by
 unfold eE
 generalize aQ d at' s false=F
 obtain⟨P,e⟩:=F
 by_cases h1:e=0
 ·subst h1
  rw[show qF (P,0)=(P,0)from if_pos rfl]
  unfold vv
  have hz:¬((P,(0:Int)).2≠0):=by simp
  rw[if_neg hz,if_neg hz]
  by_cases h2:P.node≠0
  ·rw[if_pos h2,if_pos h2]
  ·rw[if_neg h2,if_neg h2]
   by_cases h3:slash=false∧cg s=true
   ·rw[if_pos h3,if_pos h3]
   ·rw[if_neg h3,if_neg h3]
 ·rw[show qF (P,e)=(.no,e)from if_neg h1]
  unfold vv
  rw[if_pos h1,if_pos h1]
def A6 (w:World) (X:aJ × Int):Ending->World->Prop:=fun e w' =>
 ∃P:aJ,e=.returned (.tuple #[.agg #[.int .i64 P.node,.int .i64 P.dir,.string P.name],.int .i64 X.2])∧(X.2=0->P=X.1)∧aa af w w'
theorem E0 {wx:World} {p':Option Addr} {c':Nat} {S':Nat->Prop} {calls':Int} (H:R6 S w p c d calls) (h:aI S' wx p' c' d) (at' mask:Int) (s:ByteArray) (slash:Bool) (hs:s.size<=4294967280) :
 Calls Tryz.prog 82 #[fV p' c' d.length room calls' fail,.agg #[.int .i64 at',.int .i64 mask],.string s,.bool slash] wx (A6 wx (eE d at' s slash)):=by
 have hw:=UF (w:=wx) (p:=p') (c:=c') (n:=d.length) (room:=room) (calls:=calls') (fail:=fail) (at':=at') (mask:=mask) (s:=s) (slash:=slash) (X:=qF (aQ d at' s false)) (me:=cD d (qF (aQ d at' s false)).1.dir 128) (by omega)
  (fun wy k=>by
    have:=xH (room:=room) (h.ai k) H.inv H.small (pz H.nh H.inv H.clean) at' s false hs
    unfold aF aE at this
    rw[nE]
    exact this)
  (fun wy k=>vu (h.ai k) H.inv _ 7 (by decide))
 refine hw.mono ?_
 rintro e w' ⟨rfl,hk⟩
 refine⟨(qF (aQ d at' s false)).1,?_,fun h0=>?_,hk⟩
 ·rw[UH]
 ·unfold eE at h0 ⊢
  by_cases h1:(aQ d at' s false).2=0
  ·rw[if_neg (fun h=>h h1)]at h0 ⊢
   have hq:qF (aQ d at' s false)=aQ d at' s false:=if_pos h1
   rw[hq]
   by_cases h2:(aQ d at' s false).1.node≠0
   ·rw[if_pos h2]at h0;cases h0
   rw[if_neg h2]at h0 ⊢
   by_cases h3:slash=false∧cg s=true
   ·rw[if_pos h3]at h0;cases h0
   rw[if_neg h3]
  ·rw[if_pos h1]at h0
   exact absurd h0 h1
theorem RT (H:R6 S w p c d calls) (at' mask:Int) (s:ByteArray) (m:Int) (hs:s.size<=4294967280) (hm0:0<=m) (bU:m<=4095) (bS:0<=mask) (hk1:mask<=511) :
 Calls Tryz.prog 46 #[fV p c d.length room calls fail,.agg #[.int .i64 at',.int .i64 mask],.string s,.int .i64 m] w (l8 S w (bz calls fail d (gz d room at' mask s m)) room (calls+1) fail):=by
 have HH:=Lib.hid H
 have cm:=Lib.hid (qG p c d.length room calls fail H.c0 H.c1)
 unfold fV at *
 obtain⟨X,hX⟩:∃X,bz calls fail d (gz d room at' mask s m)=X:=⟨_,rfl⟩
 rw[hX]
 replace hX:=Lib.hid hX
 clear H
 go_enter Tryz.func46,Tryz.ntmps46
 go_upto_region 1 with fail
 have HF:=Lib.hid (F6.new w (.slice p d.length c) room calls fail #[.int .i64 at',.int .i64 mask] #[.slice none 0 0,.int .i64 0,.int .i64 0,.int .i64 0] 39 40 39)
 generalize((w.alloc (.cells #[.slice p d.length c,.int .i64 room,.int .i64 calls,.int .i64 fail] 39)).alloc (.cells #[.int .i64 at',.int .i64 mask] 40)).alloc (.cells #[.slice none 0 0,.int .i64 0,.int .i64 0,.int .i64 0] 39)=w0 at *
 obtain⟨f0,f1,f2,f3,u0,u1,ak,aq,au,aB,ay,av,aA,ax⟩:=HF.out.all
 by_cases bG:calls=fail
 case pos =>
  have hx:X=(d,21):=hX.out.symm.trans (by unfold bz eG;rw[if_pos bG,if_pos (by decide)])
  subst hx
  rw[if_pos bG]at cm
  clear hX bG
  go_upto_region 2 with(go_at_call 81;go_loud(refine(cm.out _).mono ?_);rintro e w1 ⟨rfl,hkn⟩;(clear f0 f1 f2 f3 u0 u1 ak aq au aB ay av aA ax;replace HF:=Lib.hid (HF.out.on hkn);obtain⟨f0,f1,f2,f3,u0,u1,ak,aq,au,aB,ay,av,aA,ax⟩:=HF.out.all))
  replace HF:=Lib.hid (HF.out.jU (.slice p d.length c) room (calls+1) fail)
  clear f0 f1 f2 f3 u0 u1 ak aq au aB ay av aA ax
  clear hkn
  generalize(((w1.setCell ⟨w.heap.size,0,none⟩ (.slice p d.length c)).setCell ⟨w.heap.size,1,none⟩ (.int .i64 room)).setCell ⟨w.heap.size,2,none⟩ (.int .i64 (calls+1))).setCell ⟨w.heap.size,3,none⟩ (.int .i64 fail)=w2 at *
  obtain⟨f0,f1,f2,f3,u0,u1,ak,aq,au,aB,ay,av,aA,ax⟩:=HF.out.all
  go_wp2_with fail
  refine bodyPost_ret (v:=.tuple #[.agg #[.slice p d.length c,.int .i64 room,.int .i64 (calls+1),.int .i64 fail],.int .i64 21]) ?_ rfl ⟨p,c,rfl,HH.out.rows.ai (HF.out.fin _ _ _ _),HF.out.fin _ _ _ _⟩
  rw[cL rfl]
  go_simp
 case neg =>
 have jB:X=gz d room at' mask s m:=hX.out.symm.trans (by unfold bz eG;rw[if_neg bG,if_neg (by decide)])
 rw[if_neg bG]at cm
 replace hX:=Lib.hid jB
 clear bG jB
 go_upto_region 2 with(go_at_call 81;go_loud(refine(cm.out _).mono ?_);rintro e w1 ⟨rfl,hkn⟩;(clear f0 f1 f2 f3 u0 u1 ak aq au aB ay av aA ax;replace HF:=Lib.hid (HF.out.on hkn);obtain⟨f0,f1,f2,f3,u0,u1,ak,aq,au,aB,ay,av,aA,ax⟩:=HF.out.all))
 replace HF:=Lib.hid (HF.out.jU (.slice p d.length c) room (calls+1) fail)
 clear f0 f1 f2 f3 u0 u1 ak aq au aB ay av aA ax
 clear hkn
 generalize(((w1.setCell ⟨w.heap.size,0,none⟩ (.slice p d.length c)).setCell ⟨w.heap.size,1,none⟩ (.int .i64 room)).setCell ⟨w.heap.size,2,none⟩ (.int .i64 (calls+1))).setCell ⟨w.heap.size,3,none⟩ (.int .i64 fail)=w2 at *
 have HR:=Lib.hid (HH.out.rows.first (L:=[w.heap.size,w.heap.size+1,w.heap.size+1+1]) HF.out.k (by simp;omega))
 have bP:=Lib.hid (E0 (room:=room) (fail:=fail) (calls':=calls+1) HH.out HR.out at' mask s true hs)
 unfold gz at hX
 have hfo:=fun he:(eE d at' s true).2=0=>uD (d:=d) (at':=at') (s:=s) (slash:=true) (p:=(eE d at' s true).1) (by rw[<- he])
 obtain⟨Y,hY⟩:∃Y,eE d at' s true=Y:=⟨_,rfl⟩
 rw[hY]at bP hX hfo
 clear hY
 obtain⟨⟨yn,yd,ym⟩,ye⟩:=Y
 unfold A6 fV at bP
 simp only at bP hX hfo
 obtain⟨f0,f1,f2,f3,u0,u1,ak,aq,au,aB,ay,av,aA,ax⟩:=HF.out.all
 go_upto_region 5 with(go_at_call 82;go_loud(refine bP.out.mono ?_);rintro e w3 ⟨⟨qn,qd,qm⟩,rfl,hq,hkn⟩;(clear f0 f1 f2 f3 u0 u1 ak aq au aB ay av aA ax;replace HF:=Lib.hid (HF.out.on hkn);obtain⟨f0,f1,f2,f3,u0,u1,ak,aq,au,aB,ay,av,aA,ax⟩:=HF.out.all))
 have UG:w.heap.size+3<=w3.heap.size:=by omega
 have HP:=Lib.hid (Bk.new (aa.refl af (w3.alloc (.cells #[.int .i64 qn,.int .i64 qd,.string qm] 82))))
 replace HF:=Lib.hid (HF.out.on ((aa.refl af w3).alloc (.cells #[.int .i64 qn,.int .i64 qd,.string qm] 82)))
 replace HR:=Lib.hid ((HR.out.ai hkn).ai ((aa.refl af w3).alloc (.cells #[.int .i64 qn,.int .i64 qd,.string qm] 82)))
 replace hq:=Lib.hid hq
 clear f0 f1 f2 f3 u0 u1 ak aq au aB ay av aA ax
 clear hkn bP cm
 generalize w3.alloc (.cells #[.int .i64 qn,.int .i64 qd,.string qm] 82)=w4 at *
 generalize w3.heap.size=PB at *
 obtain⟨f0,f1,f2,f3,u0,u1,ak,aq,au,aB,ay,av,aA,ax⟩:=HF.out.all
 by_cases cC:ye=0
 case neg =>
  have hb:(ye != 0)=true:=by simpa using cC
  obtain rfl:X=(d,ye):=hX.out.trans (if_pos cC)
  clear hX cC hq hfo
  go_wp2_with fail
  refine bodyPost_ret (v:=.tuple #[.agg #[.slice p d.length c,.int .i64 room,.int .i64 (calls+1),.int .i64 fail],.int .i64 ye]) ?_ rfl ⟨p,c,rfl,HH.out.rows.ai (HF.out.fin _ _ _ _),HF.out.fin _ _ _ _⟩
  rw[cL rfl]
  go_simp
 case pos =>
  subst cC
  have hx2:=hX.out.trans (if_neg (by simp))
  have tT:=hq.out rfl
  cases tT
  obtain⟨o1,o2,o3,o4,o5⟩:=hfo rfl
  have xI:yn=0:=o3
  clear o3 o4 o5
  subst xI
  obtain⟨mn,rfl⟩:∃mn:Nat,m=mn:=⟨m.toNat,by omega⟩
  obtain⟨kn,rfl⟩:∃kn:Nat,mask=kn:=⟨mask.toNat,by omega⟩
  have A7:Hid (∀wx,Calls Tryz.prog 84 #[.int .i64 (mn:Int),.int .i64 (kn:Int)] wx fun e w'=>e=.returned (.int .i64 (bO mn kn))∧w'=wx):=Lib.hid fun wx=>by
   have:=LP (CL:=nX) (fun _ _=>rfl) (fun _ _ _=>rfl) zV mn kn (by omega) (by omega) wx
   rw[<- Jb mn kn (by omega) (by omega)]at this
   exact this
  have hne:yd≠d.length:=fun e=>by
   have:=bF o1
   omega
  have xJ:Hid (∀wx,aa af w4 wx->Calls Tryz.prog 83 #[fV p c d.length room (calls+1) fail,.agg #[.int .i64 0,.int .i64 yd,.string ym],.int .i64 2,.int .i64 (bO mn kn),.string ⟨#[]⟩] wx (l8 (NI S [w.heap.size,w.heap.size+1,w.heap.size+1+1]) wx X room (calls+1) fail)):=Lib.hid fun wx k=>by
   rw[hx2]
   exact LQ (HR.out.ai k) (NI.new HH.out.all (HF.out.k.trans k) (by have:=HF.out.b2.lt;have:=k.size;simp;omega)) HH.out.inv HH.out.clean (by have:=HH.out.ms;omega) ⟨0,yd,ym⟩ hne o2 2 (bO mn kn) ⟨#[]⟩ (by decide)
  unfold l8 fV at xJ
  clear hX hq hfo hx2 o1 o2 hne
  generalize bO (mn:Int) (kn:Int)=fm at *
  have p0:=HP.out.cell 0 _ rfl
  have p1:=HP.out.cell 1 _ rfl
  have p2:=HP.out.cell 2 _ rfl
  go_upto_region 7 with fail
  have jV:=Lib.hid (HF.out.on (aa.refl af w4).drew)
  have E2:=Lib.hid (HP.out.on (aa.refl af w4).drew)
  clear f0 f1 f2 f3 u0 u1 ak aq au aB ay av aA ax
  clear p0 p1 p2
  have d0:=jV.out.b0.cell 0 _ rfl
  have d1:=jV.out.b0.cell 1 _ rfl
  have d2:=jV.out.b0.cell 2 _ rfl
  have d3:=jV.out.b0.cell 3 _ rfl
  have d4:=E2.out.cell 0 _ rfl
  have d5:=E2.out.cell 1 _ rfl
  have d6:=E2.out.cell 2 _ rfl
  have d7:=jV.out.b1.cell 1 _ rfl
  go_region_held3 (fun wz=>wz.cell? ⟨w.heap.size,0,none⟩=some (.slice p d.length c)∧wz.cell? ⟨w.heap.size,1,none⟩=some (.int .i64 room)∧wz.cell? ⟨w.heap.size,2,none⟩=some (.int .i64 (calls+1))∧wz.cell? ⟨w.heap.size,3,none⟩=some (.int .i64 fail)∧wz.cell? ⟨PB,0,none⟩=some (.int .i64 0)∧wz.cell? ⟨PB,1,none⟩=some (.int .i64 yd)∧wz.cell? ⟨PB,2,none⟩=some (.string ym)∧wz.cell? ⟨w.heap.size+1,1,none⟩=some (.int .i64 (kn:Int)))
   (refine⟨?_,?_,?_,?_,?_,?_,?_,?_⟩<;>first|with_reducible assumption|(with_reducible refine JS ?_ ?_ _ _ _ _<;>first|with_reducible assumption|omega))
   (first
     | (go_at_call 84;refine(A7.out _).mono ?_;rintro e wf ⟨rfl,rfl⟩)
     | (go_at_call 83;refine(xJ.out _ kD).mono ?_;rintro e w5 ⟨p3,c3,rfl,rF,bX⟩;have zk:aa af w4 w5:=aa.trans kD bX;have ju:=Lib.hid (HF.out.on zk);have E3:=Lib.hid (HP.out.on zk);have z0:=ju.out.b0.cell 0 _ rfl;have z1:=ju.out.b0.cell 1 _ rfl;have z2:=ju.out.b0.cell 2 _ rfl;have z3:=ju.out.b0.cell 3 _ rfl;have z4:=E3.out.cell 0 _ rfl;have z5:=E3.out.cell 1 _ rfl;have z6:=E3.out.cell 2 _ rfl;have z7:=ju.out.b1.cell 1 _ rfl;have ak:=ju.out.b2.cell 0 _ rfl;have aq:=ju.out.b2.cell 1 _ rfl;have au:=ju.out.b2.cell 2 _ rfl;have aB:=ju.out.b2.cell 3 _ rfl;have av:=ju.out.b2.lt;have ax:=ju.out.b2.fz))
  all_goals
   go_wp2_with fail
   refine bodyPost_ret (v:=.tuple #[.agg #[.slice p3 X.1.length c3,.int .i64 room,.int .i64 (calls+1),.int .i64 fail],.int .i64 X.2]) ?_ rfl ⟨p3,c3,rfl,(rF.put (gB w5 (w.heap.size+1+1) _ _ _ _) (by simp)).drop,ju.out.fin _ _ _ _⟩
   rw[cL rfl]
   go_simp
end
structure PD (N:Nat->Prop) (w:World) (a:Nat) (d:ag) (room:Int):Prop where
 low:∀x,N x->x<w.heap.size
 ex:∃R:RD,cK R w a d room∧∀x,N x->R.tag x=.none
section
variable{N:Nat->Prop} {w w':World} {a:Nat} {d d':ag} {room:Int}
theorem PD.inv (h:PD N w a d room):aG d:=by obtain⟨R,h1,_⟩:=h.ex;exact h1.inv
theorem PD.clean (h:PD N w a d room):bK d:=by obtain⟨R,h1,_⟩:=h.ex;exact h1.clean
theorem PD.small (h:PD N w a d room):aP d:=by obtain⟨R,h1,_⟩:=h.ex;exact h1.small
theorem Pv {R:RD} (h:cK R w a d room):∀x,w.heap.size<=x->R.tag x=.none:=by
 obtain⟨⟨lk,up,hC⟩,_,_,_⟩:=h
 exact hC.rep.top
theorem oW.pd {W:World} (h:oW W w a d room):PD (fun g=>g<W.heap.size) w a d room:=by
 obtain⟨R,h⟩:=h
 exact⟨fun x hx=>Nat.lt_of_lt_of_le hx h.keeps.size,R,h.disk,h.tag⟩
theorem PD.grow {N' F:Nat->Prop} (h:PD N w a d room) (k:aa F w w') (hF:∀x,x<w.heap.size->F x->N x) (hN:∀x,N' x->N x∨(w.heap.size<=x∧x<w'.heap.size)):PD N' w' a d room:=by
 obtain⟨R,h1,h2⟩:=h.ex
 have hs:=k.size
 refine⟨fun x hx=>?_,R,h1.keep k (fun x hl hx=>h2 x (hF x hl hx)),fun x hx=>?_⟩
 ·rcases hN x hx with h4|h4
  ·exact Nat.lt_of_lt_of_le (h.low x h4) hs
  ·exact h4.2
 ·rcases hN x hx with h4|h4
  ·exact h2 x h4
  ·exact Pv h1 x h4.1
theorem PD.keep {F:Nat->Prop} (h:PD N w a d room) (k:aa F w w') (hF:∀x,x<w.heap.size->F x->N x):PD N w' a d room:=h.grow k hF (fun _ hx=>.inl hx)
theorem PD.on (h:PD N w a d room) (k:aa af w w'):PD N w' a d room:=h.keep k (fun _ _ hx=>hx.elim)
theorem PD.less {N':Nat->Prop} (h:PD N w a d room) (hN:∀x,N' x->N x):PD N' w a d room:=h.grow (aa.refl af w) (fun _ _ hx=>hx.elim) (fun x hx=>.inl (hN x hx))
theorem PD.prog {f:Nat} {args:Array Value} {E:Ending} (h:PD N w a d room) (hc:∀R,cK R w a d room->Calls Tryz.prog f args w fun e w'=>e=E∧dn R w a d' room w') :
 Calls Tryz.prog f args w fun e w'=>e=E∧PD N w' a d' room∧aa (fun g=>¬N g) w w':=by
 obtain⟨R,h1,h2⟩:=h.ex
 refine(hc R h1).mono ?_
 rintro e w' ⟨rfl,R',h4,h5⟩
 have hs:=h5.keeps.size
 exact⟨rfl,⟨fun x hx=>Nat.lt_of_lt_of_le (h.low x hx) hs,R',h4,fun x hx=>by rw[h5.same x (h.low x hx)];exact h2 x hx⟩,h5.keeps.mono (fun x _ hx hN=>hx (h2 x hN))⟩
theorem PD.tells {f:Nat} {args:Array Value} {Q:Ending->World->Prop} (h:PD N w a d room)
 (hc:∀R lk up,aS R w a d room (used d) lk up->(∀i,has d i->lk i=((links d i:Nat):Int))->zH d up (iA d)->Calls Tryz.prog f args w Q):Calls Tryz.prog f args w Q:=by
 obtain⟨R,⟨⟨lk,up,hC⟩,_,_,_⟩,h2⟩:=h.ex
 have hlk:∀i,has d i->lk i=((links d i:Nat):Int):=fun i hi=>by have:=hC.cnt i hi;simpa[zp]using this
 refine hc R lk up hC.rep hlk fun i hf=>?_
 obtain⟨hi,hk⟩:=fD hf
 obtain⟨p1,p2,p3⟩:=hC.mT i hi
 by_cases h1:i=1
 ·subst h1
  rw[p2 rfl]
  unfold iA
  rw[if_pos rfl]
 ·by_cases hp:∃j,cY d j i
  ·obtain⟨j,hj⟩:=hp
   rw[p1 j hj,De hC.inv h1 hj (fun ha hb=>hC.inv.uq ha hb)]
  ·rw[Pw h1 hp]
   refine p3 ?_
   rw[hlk i hi]
   have:cnt d i=0:=Nat.eq_zero_of_not_pos fun h0=>by
    obtain⟨j,e,he,q8⟩:=mD.1 h0
    exact hp ⟨j,hk,e,he,q8⟩
   unfold links
   rw[this,if_neg h1]
   rfl
end
structure aY (N:Nat->Prop) (w:World) (F a:Nat) (d:ag) (room calls fail:Int):Prop where
 pd:PD (fun g=>N g∨g=F) w a d room
 mX:¬N F
 c0:w.cell? ⟨F,0,none⟩=some (.pointer (some ⟨a,0,none⟩))
 c1:w.cell? ⟨F,1,none⟩=some (.int .i64 calls)
 c2:w.cell? ⟨F,2,none⟩=some (.int .i64 fail)
 fz:∀j,w.frozen? ⟨F,j,none⟩=false
section
variable{N:Nat->Prop} {w w':World} {F a:Nat} {d d':ag} {room calls fail:Int}
theorem aY.lt (h:aY N w F a d room calls fail):F<w.heap.size:=h.pd.low F (.inr rfl)
theorem aY.low (h:aY N w F a d room calls fail) (x:Nat) (hx:N x):x<w.heap.size:=h.pd.low x (.inl hx)
theorem aY.turn {G:Nat->Prop} (h:aY N w F a d room calls fail) (hp:PD (fun g=>N g∨g=F) w' a d' room) (k:aa G w w') (hG:¬G F):aY N w' F a d' room calls fail :=
 ⟨hp,h.mX,(k.cell (p:=⟨F,0,none⟩) h.lt hG).trans h.c0,(k.cell (p:=⟨F,1,none⟩) h.lt hG).trans h.c1,(k.cell (p:=⟨F,2,none⟩) h.lt hG).trans h.c2,fun j=>(k.frozen (p:=⟨F,j,none⟩) h.lt hG).trans (h.fz j)⟩
theorem aY.keep {G:Nat->Prop} (h:aY N w F a d room calls fail) (k:aa G w w') (hG:∀x,G x->N x):aY N w' F a d room calls fail :=
 h.turn (h.pd.keep k (fun x _ hx=>.inl (hG x hx))) k (fun hx=>h.mX (hG F hx))
theorem aY.on (h:aY N w F a d room calls fail) (k:aa af w w'):aY N w' F a d room calls fail:=h.keep k (fun _ hx=>hx.elim)
theorem aY.more (h:aY N w F a d room calls fail) (k:aa af w w') (b:Nat) (h1:w.heap.size<=b) (h2:b<w'.heap.size):aY (fun g=>N g∨g=b) w' F a d room calls fail:=by
 have h3:=h.on k
 have hl:=h.lt
 refine⟨h.pd.grow k (fun _ _ hx=>hx.elim) (fun x hx=>?_),fun hx=>hx.elim h.mX (fun e=>by omega),h3.c0,h3.c1,h3.c2,h3.fz⟩
 rcases hx with(hx|rfl)|rfl
 ·exact .inl (.inl hx)
 ·exact .inr ⟨h1,h2⟩
 ·exact .inl (.inr rfl)
theorem aY.less {N':Nat->Prop} (h:aY N w F a d room calls fail) (hN:∀x,N' x->N x):aY N' w F a d room calls fail :=
 ⟨h.pd.less (fun x hx=>hx.elim (fun hx=>.inl (hN x hx)) .inr),fun hx=>h.mX (hN F hx),h.c0,h.c1,h.c2,h.fz⟩
theorem aY.called (h:aY N w F a d room calls fail) (c':Int):aY N (w.setCell ⟨F,1,none⟩ (.int .i64 c')) F a d room c' fail:=by
 have k:=cB w ⟨F,1,none⟩ (.int .i64 c')
 have a0:=cZ (g:=F) (k:=1) (u:=.int .i64 c') (j:=0) h.c0
 have a1:=cZ (g:=F) (k:=1) (u:=.int .i64 c') (j:=1) h.c1
 have a2:=cZ (g:=F) (k:=1) (u:=.int .i64 c') (j:=2) h.c2
 rw[if_neg (by decide)]at a0
 rw[if_pos rfl]at a1
 rw[if_neg (by decide)]at a2
 exact⟨h.pd.keep k (fun x _ hx=>.inr hx),h.mX,a0,a1,a2,fun j=>(j6 _ _ _ _).trans (h.fz j)⟩
theorem aY.prog {f:Nat} {args:Array Value} {E:Ending} (h:aY N w F a d room calls fail) (hc:∀R,cK R w a d room->Calls Tryz.prog f args w fun e w'=>e=E∧dn R w a d' room w') :
 Calls Tryz.prog f args w fun e w'=>e=E∧aY N w' F a d' room calls fail∧aa (fun g=>¬(N g∨g=F)) w w':=by
 refine(h.pd.prog hc).mono ?_
 rintro e w' ⟨rfl,h1,h2⟩
 exact⟨rfl,h.turn h1 h2 (fun hx=>hx (.inr rfl)),h2⟩
theorem aY.find (h:aY N w F a d room calls fail) (from':Int) (s:ByteArray) (follow:Bool) (hsz:s.size<=4294967280) :
 Calls Tryz.prog 43 #[.pointer (some ⟨a,0,none⟩),.int .i64 from',.string s,.bool follow] w fun e w' =>
  e=.returned (.tuple #[aF (eD d (iA d) follow 41 from' s 0).1,.int .i64 (eD d (iA d) follow 41 from' s 0).2])∧aa af w w' :=
 h.pd.tells fun R lk up hR _ cA=>by
  rw[<- Dc cA]
  exact Iy hR h.pd.inv h.pd.small from' s follow hsz
theorem aY.there (h:aY N w F a d room calls fail) (from':Int) (s:ByteArray) (follow:Bool) (hsz:s.size<=4294967280) :
 Calls Tryz.prog 27 #[.pointer (some ⟨a,0,none⟩),.int .i64 from',.string s,.bool follow] w fun e w' =>
  e=.returned (.tuple #[aF (iL (eD d (iA d) follow 41 from' s 0)).1,.int .i64 (iL (eD d (iA d) follow 41 from' s 0)).2])∧aa af w w' :=
 h.pd.tells fun R lk up hR _ cA=>by
  rw[<- Dc cA]
  exact Pt hR h.pd.inv h.pd.small from' s follow hsz
def infoAt (d:ag) (i:Int):Value:=if has d i then r9 (nd d i) ((links d i:Nat):Int)else o6
theorem aY.info (h:aY N w F a d room calls fail) (i:Int) :
 Calls Tryz.prog 28 #[.pointer (some ⟨a,0,none⟩),.int .i64 i] w fun e w'=>e=.returned (.tuple #[infoAt d i,.int .i64 (if has d i then 0 else 12)])∧aa af w w' :=
 h.pd.tells fun R lk up hR hlk _=>by
  have:=Iq hR i
  unfold infoAt
  by_cases hi:has d i
  ·rw[if_pos hi,if_pos hi]at this ⊢
   rw[<- hlk i hi]
   exact this
  ·rw[if_neg hi,if_neg hi]at this ⊢
   exact this
end
set_option maxHeartbeats 4000000
section
variable{N:Nat->Prop} {w w':World} {F a:Nat} {d d':ag} {room calls fail:Int}
structure Bx (w:World) (B:Nat) (l:List Value):Prop where
 lt:B<w.heap.size
 cell:∀i v,l[i]?=some v->w.cell? ⟨B,i,none⟩=some v
 fz:∀j,w.frozen? ⟨B,j,none⟩=false
theorem Bx.new {cs:Array Value} {T:TypeId} (k:aa af (w.alloc (.cells cs T)) w'):Bx w' w.heap.size cs.toList :=
 ⟨Nat.lt_of_lt_of_le (by simp) k.size,fun i v hv=>boxed k i v (by rw[<- Array.getElem?_toList];exact hv),nW k⟩
theorem Bx.keep {G:Nat->Prop} {B:Nat} {l:List Value} (h:Bx w B l) (k:aa G w w') (hB:¬G B):Bx w' B l :=
 ⟨Nat.lt_of_lt_of_le h.lt k.size,fun i v hv=>(k.cell (p:=⟨B,i,none⟩) h.lt hB).trans (h.cell i v hv),fun j=>(k.frozen (p:=⟨B,j,none⟩) h.lt hB).trans (h.fz j)⟩
theorem Bx.on {B:Nat} {l:List Value} (h:Bx w B l) (k:aa af w w'):Bx w' B l:=h.keep k (fun h=>h)
theorem Bx.bW {cs:Array Value} {T:TypeId} (k:aa af (w.alloc (.cells cs T)).drew w'):Bx w' w.heap.size cs.toList:=Bx.new ((aa.refl af _).drew.trans k)
theorem Bx.put {B:Nat} {l:List Value} (h:Bx w B l) (i:Nat) (v:Value):Bx (w.setCell ⟨B,i,none⟩ v) B (l.set i v):=by
 refine⟨by simpa using h.lt,fun j u hu=>?_,fun j=>(j6 _ _ _ _).trans (h.fz j)⟩
 rw[List.getElem?_set]at hu
 split at hu
 ·next e =>
  subst e
  split at hu
  ·next hl =>
   cases hu
   have:=cZ (g:=B) (k:=i) (u:=v) (j:=i) (h.cell i _ (List.getElem?_eq_getElem hl))
   rw[if_pos rfl]at this
   exact this
  ·cases hu
 ·next e =>
  have:=cZ (g:=B) (k:=i) (u:=v) (j:=j) (h.cell j u hu)
  rw[if_neg (fun x=>e x.symm)]at this
  exact this
theorem aY.wC (h:aY N w F a d room calls fail) (from':Int) (s:ByteArray) (follow:Bool) (hsz:s.size<=4294967280) :
 Calls Tryz.prog 27 #[.pointer (some ⟨a,0,none⟩),.int .i64 from',.string s,.bool follow] w fun e w' =>
  e=.returned (.tuple #[aF (aL d from' s follow).1,.int .i64 (aL d from' s follow).2])∧aa af w w':=h.there from' s follow hsz
theorem aY.Df (h:aY N w F a d room calls fail) (from':Int) (s:ByteArray) (follow:Bool) (hsz:s.size<=4294967280) :
 Calls Tryz.prog 43 #[.pointer (some ⟨a,0,none⟩),.int .i64 from',.string s,.bool follow] w fun e w' =>
  e=.returned (.tuple #[aF (aQ d from' s follow).1,.int .i64 (aQ d from' s follow).2])∧aa af w w':=h.find from' s follow hsz
theorem aY.wider (h:aY N w F a d room calls fail) (k:aa af w w'):∃N1:Nat->Prop,(∀g,N g->N1 g)∧(∀g,w.heap.size<=g->g<w'.heap.size->N1 g)∧aY N1 w' F a d room calls fail:=by
 have h3:=h.on k
 have hl:=h.lt
 refine⟨fun g=>N g∨(w.heap.size<=g∧g<w'.heap.size),fun g hg=>.inl hg,fun g h1 h2=>.inr ⟨h1,h2⟩,h.pd.grow k (fun _ _ hx=>hx.elim) (fun x hx=>?_),fun hx=>hx.elim h.mX (fun e=>by omega),h3.c0,h3.c1,h3.c2,h3.fz⟩
 rcases hx with(hx|hx)|rfl
 ·exact .inl (.inl hx)
 ·exact .inr hx
 ·exact .inl (.inr rfl)
def lz (N:Nat->Prop) (w:World) (F a:Nat) (d':ag) (room calls' fail:Int) (V:Value):Ending->World->Prop:=fun e w' =>
 e=.returned V∧aY N w' F a d' room calls' fail∧aa (fun g=>¬N g) w w'
theorem aY.lA {f:Nat} {args:Array Value} {V:Value} (h:aY N w F a d room calls fail) (hc:∀R,cK R w a d room->Calls Tryz.prog f args w fun e w'=>e=.returned V∧dn R w a d' room w') :
 Calls Tryz.prog f args w (lz N w F a d' room calls fail V) :=
 (h.prog hc).mono fun e w' ⟨h1,h2,h3⟩=>⟨h1,h2,h3.mono fun x _ hx hN=>hx (.inl hN)⟩
theorem q9 (h:aY N w F a d room calls fail) (h0:0<=calls) (h1:calls<=4611686018427387904) :
 Calls Tryz.prog 38 #[.pointer (some ⟨F,0,none⟩)] w (lz N w F a d room (calls+1) fail (.int .i64 (eG calls fail))):=by
 have FS:=h
 have hw1:IntKind.i64.wrap (calls+1)=calls+1:=by rw[IntKind.wrap_i64];omega
 have oA:IntKind.i64.wrap (calls+1-1)=calls:=by rw[IntKind.wrap_i64];omega
 have hk:aa (fun g=>¬N g) w (w.setCell ⟨F,1,none⟩ (.int .i64 (calls+1))):=(aa.refl _ _).setCell (p:=⟨F,1,none⟩) (.inl h.mX) _
 have HC:=h.called (calls+1)
 have f0:=FS.c0;have f1:=FS.c1;have f2:=FS.c2;have fz:=FS.fz;have fl:=FS.lt
 clear h
 go_enter Tryz.func38,Tryz.ntmps38
 go_upto_region 2 with fail
 clear f0 f1 f2 fz fl
 clear FS
 have FS:=HC
 have f0:=FS.c0;have f1:=FS.c1;have f2:=FS.c2;have fz:=FS.fz;have fl:=FS.lt
 generalize w.setCell ⟨F,1,none⟩ (.int .i64 (calls+1))=w2 at *
 by_cases hc:calls=fail
 ·have hb:(calls==fail)=true:=by simpa using hc
  go_quiet (fail)
  go_wp2
  go_ret
  exact⟨cR (by unfold eG;rw[if_pos hc]),FS.on ((aa.refl _ _).drewN _),hk.trans ((aa.refl _ _).drewN _)⟩
 ·have hb:(calls==fail)=false:=by simpa using hc
  go_quiet (fail)
  go_wp2
  go_ret
  exact⟨cR (by unfold eG;rw[if_neg hc]),FS.on ((aa.refl _ _).drewN _),hk.trans ((aa.refl _ _).drewN _)⟩
theorem IE (m mask:Int) (w:World) :
 Calls Tryz.prog 41 #[.int .i64 m,.int .i64 mask] w fun e w'=>e=.returned (.int .i64 (bO m mask))∧w=w':=by
 go_enter Tryz.func41,Tryz.ntmps41
 go_wp2
 go_ret
 exact⟨rfl,rfl⟩
theorem aY.tell (h:aY N w F a d room calls fail) (i:Int) :
 ∃k m l hh z:Int,k=(nd d i).kind∧(has d i->m=(nd d i).mode)∧(¬has d i->m=0)∧infoAt d i=.agg #[.int .i64 k,.int .i64 m,.int .i64 l,.int .i64 hh,.int .i64 z]:=by
 by_cases hi:has d i
 ·exact⟨_,_,_,_,_,rfl,fun _=>rfl,fun h=>absurd hi h,by unfold infoAt r9;rw[if_pos hi]⟩
 ·refine⟨0,0,0,0,0,(j8 hi).symm▸rfl,fun h=>absurd h hi,fun _=>rfl,by unfold infoAt o6;rw[if_neg hi]⟩
theorem PI (b:Nat) (n:Fin 4096):(b=64∨b=128∨b=256)->(bits BinOp.and IntKind.i64 (n.val:Int) (b:Int)==0)=decide ((n.val:Int) / (b:Int) % 2=0):=by
 rintro(rfl|rfl|rfl)
 ·revert n;decide +kernel
 ·revert n;decide +kernel
 ·revert n;decide +kernel
theorem zK (b:Nat) (hb:b=64∨b=128∨b=256) (m:Int) (h0:0<=m) (h1:m<=4095):(bits BinOp.and IntKind.i64 m (b:Int)==0)=decide (m / (b:Int) % 2=0):=by
 have:=PI b ⟨m.toNat,by omega⟩ hb
 simp only[Int.toNat_of_nonneg h0]at this
 exact this
theorem uF (h:aY N w F a d room calls fail) (i:Int) (b:Nat) (hb:b=64∨b=128∨b=256) :
 Calls Tryz.prog 67 #[.pointer (some ⟨F,0,none⟩),.int .i64 i,.int .i64 (b:Int)] w fun e w'=>e=.returned (.int .i64 (cD d i b))∧aa af w w':=by
 obtain⟨k,m,l,hh,z,hk,hm,hm0,he⟩:=h.tell i
 have HI:=Lib.hid (h.info i)
 have HE:=Lib.hid (show cD d i b=if ¬has d i then 12 else if (bits BinOp.and IntKind.i64 m (b:Int)==0)=true then 19 else 0 by
  unfold cD
  by_cases hi:has d i
  ·rw[hm hi,zK b hb _ ((h.pd.inv.node i).mV) ((h.pd.inv.node i).mW)]
   simp[hi]
  ·simp[hi])
 have HH:has d i∨¬has d i:=Classical.em _
 have FS:=h
 have f0:=FS.c0;have f1:=FS.c1;have f2:=FS.c2;have fz:=FS.fz;have fl:=FS.lt
 clear h hk hm hm0
 rw[he]at HI
 generalize(b:Int)=bb at *
 rcases HH with hi|hi
 ·simp only[if_pos hi]at HI
  go_enter Tryz.func67,Tryz.ntmps67
  go_wp2_with(go_at_call 28;go_loud(refine HI.out.mono ?_);rintro e w2 ⟨rfl,hk2⟩)
  all_goals
   go_ret
   refine⟨cR ?_,hk2.alloc _⟩
   rw[HE.out,if_neg (by simpa using hi)]
   simp_all
 ·simp only[if_neg hi]at HI
  go_enter Tryz.func67,Tryz.ntmps67
  go_wp2_with(go_at_call 28;go_loud(refine HI.out.mono ?_);rintro e w2 ⟨rfl,hk2⟩)
  all_goals
   go_ret
   refine⟨cR ?_,hk2.alloc _⟩
   rw[HE.out,if_pos hi]
end
end Go.Proofs.YtnanhmfpikddkaaGreatDoor
