/-
  The reference for layer 6: the walks of fresh,made,over what they call.
-/
import Derived.Test.YtnanhmfpikddkaaGreatDoorG09
import Derived.Test.YtnanhmfpikddkaaGreatDoorG03
import Derived.Deep.RegionWith
import Derived.BigQuiet
import Derived.StillTailTactics

set_option linter.unusedSimpArgs false
set_option linter.unusedVariables false
set_option maxRecDepth 100000
set_option maxHeartbeats 8000000
namespace Go.Proofs.YtnanhmfpikddkaaGreatDoor
open Go Go.RowKit
def vv (X:aJ × Int) (slash es:Bool) (me:Int):Int:=if X.2≠0 then X.2 else if X.1.node≠0 then 13 else if slash=false∧es=true then 12 else me
theorem UF {w:World} {p:Option Addr} {c n:Nat} {room calls fail at' mask:Int} {s:ByteArray} {slash:Bool} {X:aJ × Int} {me:Int} (hs:s.size<=9223372036854775807)
 (aW:∀wx,aa af w wx->Calls Tryz.prog 61 #[.agg #[.slice p n c,.int .i64 room],.int .i64 at',.string s,.bool false] wx fun e w'=>e=.returned (.tuple #[.agg #[.int .i64 X.1.node,.int .i64 X.1.dir,.string X.1.name],.int .i64 X.2])∧aa af wx w')
 (AY:∀wx,aa af w wx->Calls Tryz.prog 89 #[fV p c n room calls fail,.int .i64 X.1.dir,.int .i64 7] wx fun e w'=>e=.returned (.int .i64 me)∧aa af wx w') :
 Calls Tryz.prog 82 #[fV p c n room calls fail,.agg #[.int .i64 at',.int .i64 mask],.string s,.bool slash] w fun e w' =>
  e=.returned (.tuple #[.agg #[.int .i64 X.1.node,.int .i64 X.1.dir,.string X.1.name],.int .i64 (vv X slash (cg s) me)])∧aa af w w':=by
 obtain⟨⟨pn,pd,pm⟩,xe⟩:=X
 simp only at aW AY ⊢
 replace aW:=Lib.hid aW
 replace AY:=Lib.hid AY
 have gT:=Lib.hid (EY s hs)
 obtain⟨E,hE⟩:∃E,vv (⟨pn,pd,pm⟩,xe) slash (cg s) me=E:=⟨_,rfl⟩
 rw[hE]
 unfold vv at hE
 simp only at hE
 unfold fV at *
 go_enter Tryz.func82,Tryz.ntmps82
 go_upto_region 1 with fail
 have HF:=Lib.hid (F6.new w (.slice p n c) room calls fail #[.int .i64 at',.int .i64 mask] #[.int .i64 0,.int .i64 0,.string ⟨#[]⟩] 39 40 82)
 generalize((w.alloc (.cells #[.slice p n c,.int .i64 room,.int .i64 calls,.int .i64 fail] 39)).alloc (.cells #[.int .i64 at',.int .i64 mask] 40)).alloc (.cells #[.int .i64 0,.int .i64 0,.string ⟨#[]⟩] 82)=w0 at *
 have f0:=HF.out.b0.cell 0 _ rfl;have f1:=HF.out.b0.cell 1 _ rfl;have f2:=HF.out.b0.cell 2 _ rfl;have f3:=HF.out.b0.cell 3 _ rfl;have u0:=HF.out.b1.cell 0 _ rfl;have u1:=HF.out.b1.cell 1 _ rfl;have ak:=HF.out.b2.cell 0 _ rfl;have aq:=HF.out.b2.cell 1 _ rfl;have au:=HF.out.b2.cell 2 _ rfl;have ay:=HF.out.b0.lt;have av:=HF.out.b2.lt;have aA:=HF.out.b0.fz;have ax:=HF.out.b2.fz
 go_upto_region 2 with(go_at_call 61;go_loud(refine(aW.out _ HF.out.k).mono ?_);rintro e w1 ⟨rfl,hkn⟩;(clear f0 f1 f2 f3 u0 u1 ak aq au ay av aA ax;replace HF:=Lib.hid (HF.out.on hkn);have f0:=HF.out.b0.cell 0 _ rfl;have f1:=HF.out.b0.cell 1 _ rfl;have f2:=HF.out.b0.cell 2 _ rfl;have f3:=HF.out.b0.cell 3 _ rfl;have u0:=HF.out.b1.cell 0 _ rfl;have u1:=HF.out.b1.cell 1 _ rfl;have ak:=HF.out.b2.cell 0 _ rfl;have aq:=HF.out.b2.cell 1 _ rfl;have au:=HF.out.b2.cell 2 _ rfl;have ay:=HF.out.b0.lt;have av:=HF.out.b2.lt;have aA:=HF.out.b0.fz;have ax:=HF.out.b2.fz))
 have HP:=Lib.hid (Bk.new (aa.refl af (w1.alloc (.cells #[.int .i64 pn,.int .i64 pd,.string pm] 82))))
 replace HF:=Lib.hid (HF.out.on ((aa.refl af w1).alloc (.cells #[.int .i64 pn,.int .i64 pd,.string pm] 82)))
 have UG:w.heap.size+3<=w1.heap.size:=by omega
 clear hkn
 clear f0 f1 f2 f3 u0 u1 ak aq au ay av aA ax
 generalize w1.alloc (.cells #[.int .i64 pn,.int .i64 pd,.string pm] 82)=w2 at *
 generalize w1.heap.size=PB at *
 have f0:=HF.out.b0.cell 0 _ rfl;have f1:=HF.out.b0.cell 1 _ rfl;have f2:=HF.out.b0.cell 2 _ rfl;have f3:=HF.out.b0.cell 3 _ rfl;have u0:=HF.out.b1.cell 0 _ rfl;have u1:=HF.out.b1.cell 1 _ rfl;have ak:=HF.out.b2.cell 0 _ rfl;have aq:=HF.out.b2.cell 1 _ rfl;have au:=HF.out.b2.cell 2 _ rfl;have ay:=HF.out.b0.lt;have av:=HF.out.b2.lt;have aA:=HF.out.b0.fz;have ax:=HF.out.b2.fz
 have p0:=HP.out.cell 0 _ rfl
 have p1:=HP.out.cell 1 _ rfl
 have p2:=HP.out.cell 2 _ rfl
 by_cases hx:xe=0
 case neg =>
  have hb:(xe != 0)=true:=by simpa using hx
  rw[if_pos hx]at hE
  subst hE
  clear hx
  go_wp2_with fail
  refine bodyPost_ret (v:=.tuple #[.agg #[.int .i64 pn,.int .i64 pd,.string pm],.int .i64 xe]) ?_ rfl ⟨rfl,HF.out.xF _ _ _⟩
  rw[cL rfl]
  go_simp
 subst hx
 rw[if_neg (by simp)]at hE
 by_cases hn:pn=0
 case neg =>
  have hb:(pn != 0)=true:=by simpa using hn
  rw[if_pos hn]at hE
  subst hE
  clear hn
  go_wp2_with fail
  refine bodyPost_ret (v:=.tuple #[.agg #[.int .i64 pn,.int .i64 pd,.string pm],.int .i64 13]) ?_ rfl ⟨rfl,HF.out.xF _ _ _⟩
  rw[cL rfl]
  go_simp
 subst hn
 rw[if_neg (by simp)]at hE
 obtain⟨es,hes⟩:∃es,cg s=es:=⟨_,rfl⟩
 rw[hes]at hE gT
 by_cases hse:slash=false∧es=true
 ·rw[if_pos hse]at hE
  obtain⟨rfl,rfl⟩:=hse
  subst hE
  go_wp2_with(go_at_call 92;go_loud(refine(gT.out _).mono ?_);rintro e w3 ⟨rfl,rfl⟩)
  refine bodyPost_ret (v:=.tuple #[.agg #[.int .i64 0,.int .i64 pd,.string pm],.int .i64 12]) ?_ rfl ⟨rfl,HF.out.xF _ _ _⟩
  rw[cL rfl]
  go_simp
 rw[if_neg hse]at hE
 subst hE
 have hcs:slash=true∨(slash=false∧es=false):=by cases slash<;>cases es<;>simp_all
 clear hse hes
 rcases hcs with rfl|⟨rfl,rfl⟩
 all_goals
  go_upto_region 8 with(go_at_call 92;go_loud(refine(gT.out _).mono ?_);rintro e w3 ⟨rfl,qo⟩;obtain rfl:w2=w3:=qo.symm)
  have q0:w2.drew.cell? ⟨PB,0,none⟩=_:=p0
  have q1:w2.drew.cell? ⟨PB,1,none⟩=_:=p1
  have q2:w2.drew.cell? ⟨PB,2,none⟩=_:=p2
  have g0:w2.drew.cell? ⟨w.heap.size,0,none⟩=_:=f0
  have g1:w2.drew.cell? ⟨w.heap.size,1,none⟩=_:=f1
  have g2:w2.drew.cell? ⟨w.heap.size,2,none⟩=_:=f2
  have g3:w2.drew.cell? ⟨w.heap.size,3,none⟩=_:=f3
  clear f0 f1 f2 f3 u0 u1 ak aq au ay av aA ax
  clear p0 p1 p2 aW gT
  go_region_with(go_at_call 89;go_loud(refine(AY.out _ (HF.out.k.trans (by(first|exact aa.refl _ _|exact(aa.refl _ _).drew|exact((aa.refl _ _).drew).drew|exact(((aa.refl _ _).drew).drew).drew)))).mono ?_);rintro e w4 ⟨rfl,bB⟩;have tQ:=Lib.hid (HF.out.on (aa.trans (by(first|exact aa.refl _ _|exact(aa.refl _ _).drew|exact((aa.refl _ _).drew).drew|exact(((aa.refl _ _).drew).drew).drew)) bB));have sn:=Lib.hid (HP.out.on (aa.trans (by(first|exact aa.refl _ _|exact(aa.refl _ _).drew|exact((aa.refl _ _).drew).drew|exact(((aa.refl _ _).drew).drew).drew)) bB));have y0:=sn.out.cell 0 _ rfl;have y1:=sn.out.cell 1 _ rfl;have y2:=sn.out.cell 2 _ rfl;have ak:=tQ.out.b2.cell 0 _ rfl;have aq:=tQ.out.b2.cell 1 _ rfl;have au:=tQ.out.b2.cell 2 _ rfl;have av:=tQ.out.b2.lt;have ax:=tQ.out.b2.fz)
  all_goals
   go_wp2_with fail
   refine bodyPost_ret (v:=.tuple #[.agg #[.int .i64 0,.int .i64 pd,.string pm],.int .i64 me]) ?_ rfl ⟨rfl,by first|exact tQ.out.xF _ _ _|exact(tQ.out.on (aa.refl _ _).drew).xF _ _ _⟩
   rw[cL rfl]
   go_simp
end Go.Proofs.YtnanhmfpikddkaaGreatDoor
