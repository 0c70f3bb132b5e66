/-
  Layer 6's statements: a step of both: Rmdir. Printed by wip/genlaw6.py.
-/
import Derived.Test.YtnanhmfpikddkaaGreatDoorG22
import Derived.Test.YtnanhmfpikddkaaGreatDoorG18
import Derived.Test.YtnanhmfpikddkaaGreatDoorG28
import Derived.Deep.RegionHeld3
import Derived.StillTailTactics

set_option linter.unusedSimpArgs false
set_option linter.unusedVariables false
set_option maxRecDepth 100000
set_option maxHeartbeats 8000000
namespace Go.Proofs.YtnanhmfpikddkaaGreatDoor
open Go Go.RowKit
section
variable{B:Nat->Prop} {w:World} {B0 F a:Nat} {d:ag} {room calls fail at' mask:Int} {p:Option Addr} {c k:Nat}
theorem RF (h:Sd B w B0 F a p c d room calls fail at' mask k) (hk:k<=40) (s t:ByteArray) (m n kk:Int) (ho:okO ⟨4,s,t,m,n,kk⟩=true) :
 Calls Tryz.prog 22 #[.pointer (some ⟨B0,0,none⟩),.agg #[.int .i64 4,.string s,.string t,.int .i64 m,.int .i64 n,.int .i64 kk]] w (qy B w B0 F a (gZ calls fail room at' mask d ⟨4,s,t,m,n,kk⟩).1 room (calls+1) fail at' mask (k+1)):=by
 have HH:=Lib.hid h
 obtain⟨hs,ht,hm0,bU,_,_,_⟩:=rz ho
 have hs2:s.size<=4294967280:=by simp only at hs;omega
 have cy:t.size<=4294967280:=by simp only at ht;omega
 have hms:=h.ms
 have hc1:calls<=4611686018427387904:=by have:=h.c1;omega
 have hcap:=h.sd.cap
 have hmax:=h.sd.max
 unfold maxLen at hmax
 have e1:gZ calls fail room at' mask d ⟨4,s,t,m,n,kk⟩=bz calls fail d (eI d at' s true):=by unfold gZ nj;rw[if_neg (show ¬(4:Int)=1 by decide),if_neg (show ¬(4:Int)=2 by decide),if_neg (show ¬(4:Int)=3 by decide),if_pos rfl]
 have HA:=Lib.hid (tu h.sd.inv h.nh calls fail room at' mask ⟨4,s,t,m,n,kk⟩)
 rw[e1]at HA ⊢
 obtain⟨X,hX⟩:∃X,bz calls fail d (eI d at' s true)=X:=⟨_,rfl⟩
 rw[hX]at HA ⊢
 have gD:=Lib.hid hX
 clear hX
 have HI:=Lib.hid h.sd.inv
 have HC:=Lib.hid h.sd.clean
 have k0:aa af w ((w.alloc (.cells #[.int .i64 4,.string s,.string t,.int .i64 m,.int .i64 n,.int .i64 kk] 68)).alloc (.cells #[.int .i64 at',.int .i64 mask] 40)):=((aa.refl af w).alloc _).alloc _
 have s1:(w.alloc (.cells #[.int .i64 4,.string s,.string t,.int .i64 m,.int .i64 n,.int .i64 kk] 68)).heap.size=w.heap.size+1:=by simp
 have HO:=Lib.hid (Bk.new ((aa.refl af (w.alloc (.cells #[.int .i64 4,.string s,.string t,.int .i64 m,.int .i64 n,.int .i64 kk] 68))).alloc (.cells #[.int .i64 at',.int .i64 mask] 40)))
 have hw0:=Bk.new (aa.refl af ((w.alloc (.cells #[.int .i64 4,.string s,.string t,.int .i64 m,.int .i64 n,.int .i64 kk] 68)).alloc (.cells #[.int .i64 at',.int .i64 mask] 40)))
 rw[s1]at hw0
 have HW:=Lib.hid hw0
 have HB:=Lib.hid (h.bx.on k0)
 have HK:=Lib.hid k0
 have HS:=Lib.hid (h.sd.more k0 (fun _ _ hx=>hx.elim) (B':=fun g=>B g∨(w.heap.size<=g∧g<w.heap.size+2)) (fun g hg=>hg.elim .inl (fun hg=>.inr ⟨hg.1,by simp;omega⟩)))
 have x0:=h.bx.cell 7 _ rfl
 have x1:=h.bx.cell 8 _ rfl
 have bl:=h.bx.lt
 clear k0 s1 hw0 e1 h ho hs ht
 go_enter Tryz.func22,Tryz.ntmps22
 go_upto_region 14 with fail
 clear x0 x1 bl
 generalize(w.alloc (.cells #[.int .i64 4,.string s,.string t,.int .i64 m,.int .i64 n,.int .i64 kk] 68)).alloc (.cells #[.int .i64 at',.int .i64 mask] 40)=w2 at *
 have x0:=HB.out.cell 0 _ rfl
 have x1:=HB.out.cell 1 _ rfl
 have x2:=HB.out.cell 2 _ rfl
 have y0:=HO.out.cell 1 _ rfl
 go_still_tail 10,(by kernel_rfl)
 change wpList _ _ _ _ _ w2.drew
 have HP:=Lib.hid ((HS.out.on (aa.refl af w2).drew).prog fun N hN=>P5 hN (HH.out.c0) hc1 at' mask s hs2)
 rw[gD.out]at HP
 clear x0 x1 x2 y0
 go_upto_region 15 with(go_at_call 51;go_loud(refine HP.out.mono ?_);rintro e w4 ⟨rfl,iN,k4⟩)
 have cM:=Lib.hid ((HB.out.on (aa.refl af w2).drew).keep k4 (fun hn=>hn (.inl HH.out.nb)))
 have nY:=Lib.hid ((HO.out.on (aa.refl af w2).drew).keep k4 (fun hn=>hn (.inr ⟨Nat.le_refl _,by omega⟩)))
 have lC:=Lib.hid ((HW.out.on (aa.refl af w2).drew).keep k4 (fun hn=>hn (.inr ⟨by omega,by omega⟩)))
 have lF:=Lib.hid k4
 have lD:=Lib.hid iN
 have HR:=Lib.hid (fun(wx:World) (kx:aa af w4 wx)=>(lD.out.on kx).su (f:=52) (X:=X) (cr:=calls) (qx:=calls+1) HI.out HC.out HH.out.nh (by omega) HH.out.c0 hc1 (fun S HR=>by rw[<- gD.out];exact Kc HR at' mask s true hs2))
 unfold oH fV at HR
 clear iN k4 HP HB HO HW HS gD hs2 cy hm0 bU hms hc1
 have eS:=Lib.hid (cM.out.on (aa.refl af w4).drew)
 have kQ:=Lib.hid (nY.out.on (aa.refl af w4).drew)
 have jF:=Lib.hid (lC.out.on (aa.refl af w4).drew)
 have d3:=eS.out.cell 3 _ rfl
 have d4:=eS.out.cell 4 _ rfl
 have d5:=eS.out.cell 5 _ rfl
 have d6:=eS.out.cell 6 _ rfl
 have d7:=jF.out.cell 0 _ rfl
 have d8:=jF.out.cell 1 _ rfl
 have g0:=kQ.out.cell 1 _ rfl
 go_region_with(first|(go_at_call 52;refine(HR.out _ kD).mono ?_;rintro e w5 ⟨p5,c5,rfl,iF,k5⟩;have zk:aa af w4 w5:=aa.trans kD k5;have cT:=Lib.hid (cM.out.on zk);have jf:=Lib.hid iF;clear iF k5 d3 d4 d5 d6 d7 d8 g0;have z3:=cT.out.cell 3 _ rfl;have z4:=cT.out.cell 4 _ rfl;have z5:=cT.out.cell 5 _ rfl;have z6:=cT.out.cell 6 _ rfl;have zl:=cT.out.lt;have zf:=cT.out.fz))
 all_goals
  go_wp2_with fail
  go_ret
  obtain⟨hz1,hz2⟩:=HH.out.ends (k':=k+1) (HK.out.trans (aa.refl af w2).drew) lF.out zk jf.out HA.out.2.1 HA.out.2.2 (by have:=HA.out.1;have:=HH.out.ms;omega) (by have:=HH.out.c0;omega) (by have:=HH.out.c1;omega)
  exact⟨p5,c5,rfl,hz1,hz2⟩
end
end Go.Proofs.YtnanhmfpikddkaaGreatDoor
