/-
  Contracts of the reference for layer 6: Open.
-/
import Derived.Test.YtnanhmfpikddkaaGreatDoorG43
import Derived.Test.YtnanhmfpikddkaaGreatDoorG44
import Derived.Test.YtnanhmfpikddkaaGreatDoorG45
import Derived.Test.YtnanhmfpikddkaaGreatDoorG15
import Derived.Test.YtnanhmfpikddkaaGreatDoorG19
import Derived.Test.YtnanhmfpikddkaaGreatDoorG16
import Derived.Test.YtnanhmfpikddkaaGreatDoorG22
import Derived.Test.YtnanhmfpikddkaaGreatDoorG42
import Derived.Deep.RegionHeld3
import Derived.Test.YtnanhmfpikddkaaGreatDoorG23
import Derived.Test.YtnanhmfpikddkaaGreatDoorG25
import Derived.Test.YtnanhmfpikddkaaGreatDoorG27
import Derived.Test.YtnanhmfpikddkaaGreatDoorG29
import Derived.Test.YtnanhmfpikddkaaGreatDoorG30
import Derived.Test.YtnanhmfpikddkaaGreatDoorG37
import Derived.Test.YtnanhmfpikddkaaGreatDoorG39
import Derived.Test.YtnanhmfpikddkaaGreatDoorG07
import Derived.Test.YtnanhmfpikddkaaGreatDoorG11
import Derived.Test.YtnanhmfpikddkaaGreatDoorG03
import Derived.Test.YtnanhmfpikddkaaGreatDoorG01

set_option linter.unusedSimpArgs false
set_option linter.unusedVariables false
set_option maxRecDepth 100000
namespace Go.Proofs.YtnanhmfpikddkaaGreatDoor
open Go Go.RowKit
section
variable{S:Nat->Prop} {w:World} {p:Option Addr} {c:Nat} {d:ag} {room calls fail:Int}
theorem Re (H:R6 S w p c d calls) (at' mask:Int) (s:ByteArray) (hs:s.size<=4294967280) (flags m:Int) (gy:0<=flags) (dK:flags<=31) (hm0:0<=m) (bU:m<=4095) (bS:0<=mask) (hk1:mask<=511) :
 Calls Tryz.prog 96 #[fV p c d.length room calls fail,.agg #[.int .i64 at',.int .i64 mask],.string s,.int .i64 flags,.int .i64 m] w (sH S w (fF calls fail d room at' mask s flags m) room (kJ calls flags) fail):=by
 cases h4:bg flags 4 with
 | true=>exact UU H at' mask s hs flags m gy dK hm0 bU bS hk1 h4
 | false =>
   cases h8:bg flags 8 with
   | true=>exact UW H at' mask s hs flags m gy dK hm0 bU bS hk1 h4 h8
   | false=>exact UX H at' mask s hs flags m gy dK hm0 bU bS hk1 h4 h8
end
set_option maxHeartbeats 8000000
structure F7 (w wx:World) (v:Value) (room calls fail:Int) (r:List Value):Prop where
 k:aa af w wx
 b0:Bk wx w.heap.size [v,.int .i64 room,.int .i64 calls,.int .i64 fail]
 b2:Bk wx (w.heap.size+1) r
section
variable{w wx wy:World} {v v':Value} {room room' calls calls' fail fail':Int} {r:List Value}
theorem F7.new (w:World) (v:Value) (room calls fail:Int) (r:Array Value) (T0 T2:TypeId) :
 F7 w ((w.alloc (.cells #[v,.int .i64 room,.int .i64 calls,.int .i64 fail] T0)).alloc (.cells r T2)) v room calls fail r.toList:=by
 have k0:aa af w (w.alloc (.cells #[v,.int .i64 room,.int .i64 calls,.int .i64 fail] T0)):=(aa.refl af w).alloc _
 have k2:=(aa.refl af (w.alloc (.cells #[v,.int .i64 room,.int .i64 calls,.int .i64 fail] T0))).alloc (.cells r T2)
 have s1:(w.alloc (.cells #[v,.int .i64 room,.int .i64 calls,.int .i64 fail] T0)).heap.size=w.heap.size+1:=by simp
 have c2:=Bk.new (aa.refl af ((w.alloc (.cells #[v,.int .i64 room,.int .i64 calls,.int .i64 fail] T0)).alloc (.cells r T2)))
 rw[s1]at c2
 exact⟨k0.trans k2,Bk.new k2,c2⟩
theorem F7.on (h:F7 w wx v room calls fail r) (k:aa af wx wy):F7 w wy v room calls fail r:=⟨h.k.trans k,h.b0.on k,h.b2.on k⟩
theorem F7.jU (h:F7 w wx v room calls fail r) (v':Value) (room' calls' fail':Int) :
 F7 w ((((wx.setCell ⟨w.heap.size,0,none⟩ v').setCell ⟨w.heap.size,1,none⟩ (.int .i64 room')).setCell ⟨w.heap.size,2,none⟩ (.int .i64 calls')).setCell ⟨w.heap.size,3,none⟩ (.int .i64 fail')) v' room' calls' fail' r:=by
 have k:=gB wx w.heap.size v' (.int .i64 room') (.int .i64 calls') (.int .i64 fail')
 exact⟨h.k.step k (fun g hg=>.inr (by omega)),(((h.b0.put 0 v').put 1 (.int .i64 room')).put 2 (.int .i64 calls')).put 3 (.int .i64 fail'),h.b2.keep k (fun e=>by omega)⟩
theorem F7.lK (h:F7 w wx v room calls fail r) (v':Value) (room':Int) :
 F7 w ((wx.setCell ⟨w.heap.size,0,none⟩ v').setCell ⟨w.heap.size,1,none⟩ (.int .i64 room')) v' room' calls fail r:=by
 have k:=eV wx w.heap.size v' (.int .i64 room')
 exact⟨h.k.step k (fun g hg=>.inr (by omega)),(h.b0.put 0 v').put 1 (.int .i64 room'),h.b2.keep k (fun e=>by omega)⟩
theorem F7.fin (h:F7 w wx v room calls fail r) (v0 v1 v2 v3:Value):aa af w ((((wx.setCell ⟨w.heap.size+1,0,none⟩ v0).setCell ⟨w.heap.size+1,1,none⟩ v1).setCell ⟨w.heap.size+1,2,none⟩ v2).setCell ⟨w.heap.size+1,3,none⟩ v3) :=
 h.k.step (gB wx (w.heap.size+1) v0 v1 v2 v3) (fun g hg=>.inr (by omega))
end
section
variable{S:Nat->Prop} {w:World} {p:Option Addr} {c:Nat} {d:ag} {room calls fail:Int}
theorem Rj (H:R6 S w p c d calls) (id x:Int) (s:ByteArray) (hs:s.size<=4294967296) :
 Calls Tryz.prog 98 #[fV p c d.length room calls fail,.int .i64 id,.int .i64 x,.string s] w (l8 S w (mK calls fail d room id x s) room (calls+1) fail):=by
 have HH:=Lib.hid H
 have cm:=Lib.hid (qG p c d.length room calls fail H.c0 H.c1)
 unfold fV at *
 obtain⟨X,hX⟩:∃X,mK calls fail d room id x s=X:=⟨_,rfl⟩
 rw[hX]
 replace hX:=Lib.hid hX
 clear H
 go_enter Tryz.func98,Tryz.ntmps98
 go_upto_region 1 with fail
 have HF:=Lib.hid (F7.new w (.slice p d.length c) room calls fail #[.slice none 0 0,.int .i64 0,.int .i64 0,.int .i64 0] 39 39)
 generalize(w.alloc (.cells #[.slice p d.length c,.int .i64 room,.int .i64 calls,.int .i64 fail] 39)).alloc (.cells #[.slice none 0 0,.int .i64 0,.int .i64 0,.int .i64 0] 39)=w0 at *
 have f0:=HF.out.b0.cell 0 _ rfl;have f1:=HF.out.b0.cell 1 _ rfl;have f2:=HF.out.b0.cell 2 _ rfl;have f3:=HF.out.b0.cell 3 _ rfl;have ak:=HF.out.b2.cell 0 _ rfl;have aq:=HF.out.b2.cell 1 _ rfl;have au:=HF.out.b2.cell 2 _ rfl;have aB:=HF.out.b2.cell 3 _ rfl;have ay:=HF.out.b0.lt;have av:=HF.out.b2.lt;have aA:=HF.out.b0.fz;have ax:=HF.out.b2.fz
 by_cases bG:calls=fail
 case pos =>
  have hx:X=(d,21):=hX.out.symm.trans (by unfold mK bz eG;rw[if_pos bG,if_pos (by decide)])
  subst hx
  rw[if_pos bG]at cm
  clear hX bG
  go_upto_region 2 with(go_at_call 81;go_loud(refine(cm.out _).mono ?_);rintro e w1 ⟨rfl,hkn⟩;(clear f0 f1 f2 f3 ak aq au aB ay av aA ax;replace HF:=Lib.hid (HF.out.on hkn);have f0:=HF.out.b0.cell 0 _ rfl;have f1:=HF.out.b0.cell 1 _ rfl;have f2:=HF.out.b0.cell 2 _ rfl;have f3:=HF.out.b0.cell 3 _ rfl;have ak:=HF.out.b2.cell 0 _ rfl;have aq:=HF.out.b2.cell 1 _ rfl;have au:=HF.out.b2.cell 2 _ rfl;have aB:=HF.out.b2.cell 3 _ rfl;have ay:=HF.out.b0.lt;have av:=HF.out.b2.lt;have aA:=HF.out.b0.fz;have ax:=HF.out.b2.fz))
  replace HF:=Lib.hid (HF.out.jU (.slice p d.length c) room (calls+1) fail)
  clear f0 f1 f2 f3 ak aq au aB ay av aA ax
  clear hkn
  generalize(((w1.setCell ⟨w.heap.size,0,none⟩ (.slice p d.length c)).setCell ⟨w.heap.size,1,none⟩ (.int .i64 room)).setCell ⟨w.heap.size,2,none⟩ (.int .i64 (calls+1))).setCell ⟨w.heap.size,3,none⟩ (.int .i64 fail)=w2 at *
  have f0:=HF.out.b0.cell 0 _ rfl;have f1:=HF.out.b0.cell 1 _ rfl;have f2:=HF.out.b0.cell 2 _ rfl;have f3:=HF.out.b0.cell 3 _ rfl;have ak:=HF.out.b2.cell 0 _ rfl;have aq:=HF.out.b2.cell 1 _ rfl;have au:=HF.out.b2.cell 2 _ rfl;have aB:=HF.out.b2.cell 3 _ rfl;have ay:=HF.out.b0.lt;have av:=HF.out.b2.lt;have aA:=HF.out.b0.fz;have ax:=HF.out.b2.fz
  go_wp2_with fail
  refine bodyPost_ret (v:=.tuple #[.agg #[.slice p d.length c,.int .i64 room,.int .i64 (calls+1),.int .i64 fail],.int .i64 21]) ?_ rfl ⟨p,c,rfl,HH.out.rows.ai (HF.out.fin _ _ _ _),HF.out.fin _ _ _ _⟩
  rw[cL rfl]
  go_simp
 case neg =>
 have hx2:X=(iy d room id x s,iK d room id x s):=hX.out.symm.trans (by unfold mK bz eG;rw[if_neg bG,if_neg (by decide)])
 rw[if_neg bG]at cm
 clear bG hX
 go_upto_region 2 with(go_at_call 81;go_loud(refine(cm.out _).mono ?_);rintro e w1 ⟨rfl,hkn⟩;(clear f0 f1 f2 f3 ak aq au aB ay av aA ax;replace HF:=Lib.hid (HF.out.on hkn);have f0:=HF.out.b0.cell 0 _ rfl;have f1:=HF.out.b0.cell 1 _ rfl;have f2:=HF.out.b0.cell 2 _ rfl;have f3:=HF.out.b0.cell 3 _ rfl;have ak:=HF.out.b2.cell 0 _ rfl;have aq:=HF.out.b2.cell 1 _ rfl;have au:=HF.out.b2.cell 2 _ rfl;have aB:=HF.out.b2.cell 3 _ rfl;have ay:=HF.out.b0.lt;have av:=HF.out.b2.lt;have aA:=HF.out.b0.fz;have ax:=HF.out.b2.fz))
 replace HF:=Lib.hid (HF.out.jU (.slice p d.length c) room (calls+1) fail)
 clear f0 f1 f2 f3 ak aq au aB ay av aA ax
 clear hkn cm
 generalize(((w1.setCell ⟨w.heap.size,0,none⟩ (.slice p d.length c)).setCell ⟨w.heap.size,1,none⟩ (.int .i64 room)).setCell ⟨w.heap.size,2,none⟩ (.int .i64 (calls+1))).setCell ⟨w.heap.size,3,none⟩ (.int .i64 fail)=w2 at *
 have HR:=Lib.hid (HH.out.rows.first (L:=[w.heap.size,w.heap.size+1]) HF.out.k (by simp))
 have HE:=Lib.hid (TX (room:=room) HR.out (NI.new HH.out.all HF.out.k (by have:=HF.out.b2.lt;simp;omega)) HH.out.inv HH.out.small id x s hs)
 unfold eH aE at HE
 generalize iy d room id x s=d3 at *
 generalize iK d room id x s=e3 at *
 subst hx2
 have f0:=HF.out.b0.cell 0 _ rfl;have f1:=HF.out.b0.cell 1 _ rfl;have f2:=HF.out.b0.cell 2 _ rfl;have f3:=HF.out.b0.cell 3 _ rfl;have ak:=HF.out.b2.cell 0 _ rfl;have aq:=HF.out.b2.cell 1 _ rfl;have au:=HF.out.b2.cell 2 _ rfl;have aB:=HF.out.b2.cell 3 _ rfl;have ay:=HF.out.b0.lt;have av:=HF.out.b2.lt;have aA:=HF.out.b0.fz;have ax:=HF.out.b2.fz
 go_upto_region 5 with(go_at_call 137;go_loud(refine HE.out.mono ?_);rintro e wd ⟨p3,c3,rfl,hr,hkn⟩;(clear f0 f1 f2 f3 ak aq au aB ay av aA ax;replace HF:=Lib.hid (HF.out.on hkn);have f0:=HF.out.b0.cell 0 _ rfl;have f1:=HF.out.b0.cell 1 _ rfl;have f2:=HF.out.b0.cell 2 _ rfl;have f3:=HF.out.b0.cell 3 _ rfl;have ak:=HF.out.b2.cell 0 _ rfl;have aq:=HF.out.b2.cell 1 _ rfl;have au:=HF.out.b2.cell 2 _ rfl;have aB:=HF.out.b2.cell 3 _ rfl;have ay:=HF.out.b0.lt;have av:=HF.out.b2.lt;have aA:=HF.out.b0.fz;have ax:=HF.out.b2.fz))
 have HD:=Lib.hid (Bk.new (aa.refl af (wd.alloc (.cells #[.slice p3 d3.length c3,.int .i64 room] 37))))
 replace HF:=Lib.hid (HF.out.on ((aa.refl af wd).alloc (.cells #[.slice p3 d3.length c3,.int .i64 room] 37)))
 have gC:=Lib.hid (hr.ai ((aa.refl af wd).alloc (.cells #[.slice p3 d3.length c3,.int .i64 room] 37)))
 clear f0 f1 f2 f3 ak aq au aB ay av aA ax
 clear hkn hr HE
 generalize wd.alloc (.cells #[.slice p3 d3.length c3,.int .i64 room] 37)=we at *
 generalize wd.heap.size=DB at *
 have f0:=HF.out.b0.cell 0 _ rfl;have f1:=HF.out.b0.cell 1 _ rfl;have f2:=HF.out.b0.cell 2 _ rfl;have f3:=HF.out.b0.cell 3 _ rfl;have ak:=HF.out.b2.cell 0 _ rfl;have aq:=HF.out.b2.cell 1 _ rfl;have au:=HF.out.b2.cell 2 _ rfl;have aB:=HF.out.b2.cell 3 _ rfl;have ay:=HF.out.b0.lt;have av:=HF.out.b2.lt;have aA:=HF.out.b0.fz;have ax:=HF.out.b2.fz
 have e0:=HD.out.cell 0 _ rfl
 have e1:=HD.out.cell 1 _ rfl
 go_upto_region 6 with fail
 replace gC:=Lib.hid (gC.out.put (eV we w.heap.size (.slice p3 d3.length c3) (.int .i64 room)) (by simp))
 replace HF:=Lib.hid (HF.out.lK (.slice p3 d3.length c3) room)
 clear f0 f1 f2 f3 ak aq au aB ay av aA ax
 clear e0 e1
 generalize(we.setCell ⟨w.heap.size,0,none⟩ (.slice p3 d3.length c3)).setCell ⟨w.heap.size,1,none⟩ (.int .i64 room)=wf at *
 have f0:=HF.out.b0.cell 0 _ rfl;have f1:=HF.out.b0.cell 1 _ rfl;have f2:=HF.out.b0.cell 2 _ rfl;have f3:=HF.out.b0.cell 3 _ rfl;have ak:=HF.out.b2.cell 0 _ rfl;have aq:=HF.out.b2.cell 1 _ rfl;have au:=HF.out.b2.cell 2 _ rfl;have aB:=HF.out.b2.cell 3 _ rfl;have ay:=HF.out.b0.lt;have av:=HF.out.b2.lt;have aA:=HF.out.b0.fz;have ax:=HF.out.b2.fz
 go_wp2_with fail
 refine bodyPost_ret (v:=.tuple #[.agg #[.slice p3 d3.length c3,.int .i64 room,.int .i64 (calls+1),.int .i64 fail],.int .i64 e3]) ?_ rfl ⟨p3,c3,rfl,(gC.out.put (gB wf (w.heap.size+1) _ _ _ _) (by simp)).drop,HF.out.fin _ _ _ _⟩
 rw[cL rfl]
 go_simp
end
structure Q9 (B:Nat->Prop) (w4 wx:World) (F a GB:Nat) (dO:ag) (room cc fail:Int) (p5:Option Addr) (c5:Nat):Prop where
 sd:SD (fun g=>B g∨g=GB) wx F a dO room cc fail p5 c5 dO
 box:Bk wx GB [.slice p5 dO.length c5,.int .i64 room,.int .i64 cc,.int .i64 fail]
 far:w4.heap.size<=GB
 k:aa af w4 wx
section
variable{B:Nat->Prop} {w:World} {B0 F a:Nat} {d:ag} {room calls fail at' mask:Int} {p:Option Addr} {c k:Nat}
def Ra (B:Nat->Prop) (w:World) (B0 F a:Nat) (room fail at' mask:Int) (k:Nat):Ending->World->Prop:=fun e w'=>∃d' calls',qy B w B0 F a d' room calls' fail at' mask k e w'
theorem Rb (h:Sd B w B0 F a p c d room calls fail at' mask k) (hk:k<=40) (kd:Int) (s t:ByteArray) (m n kk:Int) (ho:okO ⟨kd,s,t,m,n,kk⟩=true) :
 Calls Tryz.prog 58 #[.pointer (some ⟨B0,0,none⟩),.agg #[.int .i64 kd,.string s,.string t,.int .i64 m,.int .i64 n,.int .i64 kk]] w (Ra B w B0 F a room fail at' mask (k+1)):=by
 obtain⟨hs,ht,hm0,bU,hn0,hn1,_⟩:=rz ho
 have hs2:s.size<=4294967280:=by simp only at hs;omega
 have cy:t.size<=4294967280:=by simp only at ht;omega
 simp only at hm0 bU hn0 hn1
 have hms:=h.ms
 have hc1:calls<=4611686018427387000:=by have:=h.c1;omega
 have hc0:=h.c0
 have hcap:=h.sd.cap
 have hmax:=h.sd.max
 unfold maxLen at hmax
 obtain⟨uB,qZ,s6⟩:=Rc (room:=room) h.nh calls fail at' mask s n m
 obtain⟨uQ,uR⟩:=Rd (room:=room) h.sd.inv h.sd.clean calls fail at' mask s n m
 have HO:=Lib.hid (fun(wx:World) (V:Nat->Prop) (DF:SD V wx F a d room calls fail p c d)=>DF.prog fun N hN=>IL hN hc0 (by omega) (by omega) at' mask s n m hs2)
 have uS:=Lib.hid (fun(wx:World) (V:Nat->Prop) (dp:ag) (DF:SD V wx F a dp room (kJ calls n) fail p c d)=>DF.ref (f:=96) (d':=(fF calls fail d room at' mask s n m).1) (V:=fun p' c'=>.tuple #[fV p' c' (fF calls fail d room at' mask s n m).1.length room (kJ calls n) fail,.int .i64 (fF calls fail d room at' mask s n m).2.1,.int .i64 (fF calls fail d room at' mask s n m).2.2]) (fun S hr hS =>
  Re (room:=room) (fail:=fail) ⟨hr,hS,h.sd.inv,h.sd.clean,h.nh,by omega,hc0,by omega⟩ at' mask s hs2 n m hn0 hn1 hm0 bU h.m0 h.m1))
 have hcc:kJ calls n=calls+1∨kJ calls n=calls:=by unfold kJ;split<;>simp
 generalize kJ calls n=cc at *
 obtain⟨⟨dO,iO,eO⟩,hO⟩:∃O,fF calls fail d room at' mask s n m=O:=⟨_,rfl⟩
 rw[hO]at HO uS uB qZ s6 uQ uR
 simp only at HO uS uB qZ s6 uQ uR
 clear hO ho hs ht hm0 bU hn0 hn1
 unfold Ab at HO
 unfold oH fV at uS
 have uT:0<=cc:=by omega
 have wQ:cc<=2*(k:Int)+1:=by have:=h.c1;omega
 have k0:aa af w (w.alloc (.cells #[.int .i64 kd,.string s,.string t,.int .i64 m,.int .i64 n,.int .i64 kk] 68)):=(aa.refl af w).alloc _
 have HX:=Lib.hid (Bk.new (aa.refl af (w.alloc (.cells #[.int .i64 kd,.string s,.string t,.int .i64 m,.int .i64 n,.int .i64 kk] 68))))
 have HH:=Lib.hid (h.more k0 (fun _ _ hx=>hx.elim) (fun hx=>hx) (B':=fun g=>B g∨g=w.heap.size) (fun g hg=>hg.elim .inl (fun e=>.inr ⟨by omega,by rw[e];simp⟩)) (.inl h.nb))
 have HK:=Lib.hid k0
 have hne:¬w.heap.size=B0:=fun e=>by have:=h.bx.lt;omega
 have JK:=Lib.hid hne
 have hnb:=h.nb
 have wR:=Lib.hid hnb
 have DG:=Lib.hid (show aH dO<=2+4*(k+1)∧NH dO∧KK d dO from⟨by omega,qZ,s6⟩)
 have HM:=Lib.hid hms
 clear h k0 hne hnb uB qZ s6 hms hcc
 replace uQ:=Lib.hid uQ
 replace uR:=Lib.hid uR
 replace uT:=Lib.hid uT
 replace wQ:=Lib.hid wQ
 clear hc0 hc1
 go_enter Tryz.func58,Tryz.ntmps58
 go_upto_region 1 with fail
 generalize w.alloc (.cells #[.int .i64 kd,.string s,.string t,.int .i64 m,.int .i64 n,.int .i64 kk] 68)=w1 at *
 obtain⟨OB,DH⟩:∃OB,w.heap.size=OB:=⟨_,rfl⟩
 rw[DH]at HX HH JK ⊢
 have tw:=Lib.hid DH
 clear DH
 have kr:aa af w1 w1.drew:=(aa.refl af w1).drew
 have JL:=Lib.hid (HO.out _ _ (HH.out.sd.on kr))
 clear HO
 have d0:=(HH.out.bx.on kr).cell 0 _ rfl
 have d1:=(HH.out.bx.on kr).cell 1 _ rfl
 have d2:=(HH.out.bx.on kr).cell 2 _ rfl
 have d3:=(HX.out.on kr).cell 1 _ rfl
 have d4:=(HX.out.on kr).cell 3 _ rfl
 have d5:=(HX.out.on kr).cell 4 _ rfl
 go_region_held3 (fun wz=>wz.cell? ⟨B0,0,none⟩=some (.pointer (some ⟨F,0,none⟩))∧wz.cell? ⟨B0,1,none⟩=some (.int .i64 at')∧wz.cell? ⟨B0,2,none⟩=some (.int .i64 mask)∧wz.cell? ⟨OB,1,none⟩=some (.string s)∧wz.cell? ⟨OB,3,none⟩=some (.int .i64 m)∧wz.cell? ⟨OB,4,none⟩=some (.int .i64 n))
  (refine⟨?_,?_,?_,?_,?_,?_⟩<;>with_reducible assumption)
  (first|(go_at_call 19;refine JL.out.mono ?_;rintro e w4 ⟨rfl,iN,k4⟩;have lD:=Lib.hid iN;have cM:=Lib.hid ((HH.out.bx.on (aa.refl af w1).drew).keep k4 (fun hn=>hn HH.out.nb));have lE:=Lib.hid ((HX.out.on (aa.refl af w1).drew).keep k4 (fun hn=>hn (.inr rfl)));have lF:=Lib.hid k4;clear iN k4;have z0:=cM.out.cell 0 _ rfl;have z1:=cM.out.cell 1 _ rfl;have z2:=cM.out.cell 2 _ rfl;have z3:=lE.out.cell 1 _ rfl;have z4:=lE.out.cell 3 _ rfl;have z5:=lE.out.cell 4 _ rfl))
 clear d0 d1 d2 d3 d4 d5 z0 z1 z2 z3 z4 z5 JL kr
 go_upto_region 2 with fail
 have kr:aa af w4 w4.drew:=(aa.refl af w4).drew
 have uU:=Lib.hid (fun(wx:World) (kx:aa af w4 wx)=>uS.out wx _ _ (lD.out.on kx))
 have wS:=Lib.hid (fun(wx:World) (kx:aa af w4 wx) (hlt:w4.heap.size<wx.heap.size)=>uS.out wx _ _ (lD.out.more kx (fun _ _ hx=>hx.elim) (B':=fun g=>(B g∨g=OB)∨g=w4.heap.size) (fun g hg=>hg.elim .inl (fun e=>.inr ⟨by omega,by rw[e];exact hlt⟩))))
 clear uS
 go_cut [7,8,9]from 7 to 50 (fun x y z wx=>∃(GB:Nat) (p5:Option Addr) (c5:Nat),x=.pointer (some ⟨GB,0,none⟩)∧y=.int .i64 iO∧z=.int .i64 eO∧Q9 (fun g=>B g∨g=OB) w4 wx F a GB dO room cc fail p5 c5)
 case first =>
  have d0:=(cM.out.on kr).cell 3 _ rfl
  have d1:=(cM.out.on kr).cell 4 _ rfl
  have d2:=(cM.out.on kr).cell 5 _ rfl
  have d3:=(cM.out.on kr).cell 6 _ rfl
  have d4:=(cM.out.on kr).cell 7 _ rfl
  have d5:=(cM.out.on kr).cell 8 _ rfl
  have d6:=(lE.out.on kr).cell 1 _ rfl
  have d7:=(lE.out.on kr).cell 3 _ rfl
  have d8:=(lE.out.on kr).cell 4 _ rfl
  go_region_held3 (fun wz=>wz.cell? ⟨B0,3,none⟩=some (.slice p d.length c)∧wz.cell? ⟨B0,4,none⟩=some (.int .i64 room)∧wz.cell? ⟨B0,5,none⟩=some (.int .i64 calls)∧wz.cell? ⟨B0,6,none⟩=some (.int .i64 fail)∧wz.cell? ⟨B0,7,none⟩=some (.int .i64 at')∧wz.cell? ⟨B0,8,none⟩=some (.int .i64 mask)∧wz.cell? ⟨OB,1,none⟩=some (.string s)∧wz.cell? ⟨OB,3,none⟩=some (.int .i64 m)∧wz.cell? ⟨OB,4,none⟩=some (.int .i64 n)∧aa af w4 wz)
   (refine⟨?_,?_,?_,?_,?_,?_,?_,?_,?_,?_⟩<;>first|with_reducible assumption|(with_reducible refine(cM.out.on ?_).cell 3 _ rfl;exact kC)|(with_reducible refine(cM.out.on ?_).cell 4 _ rfl;exact kC)|(with_reducible refine(cM.out.on ?_).cell 5 _ rfl;exact kC)|(with_reducible refine(cM.out.on ?_).cell 6 _ rfl;exact kC)|(with_reducible refine(cM.out.on ?_).cell 7 _ rfl;exact kC)|(with_reducible refine(cM.out.on ?_).cell 8 _ rfl;exact kC)|(with_reducible refine(lE.out.on ?_).cell 1 _ rfl;exact kC)|(with_reducible refine(lE.out.on ?_).cell 3 _ rfl;exact kC)|(with_reducible refine(lE.out.on ?_).cell 4 _ rfl;exact kC)|(exact kC))
   (first|(go_at_call 96;first
     | (refine(wS.out _ kC (by first|(simp;done)|(simp;omega))).mono ?_;rintro e w5 ⟨p5,c5,rfl,iF,k5⟩;have jf:=Lib.hid iF;have zk:aa af w4 w5:=aa.trans kC k5;have z0:=(cM.out.on zk).cell 3 _ rfl;have z1:=(cM.out.on zk).cell 4 _ rfl;have z2:=(cM.out.on zk).cell 5 _ rfl;have z3:=(cM.out.on zk).cell 6 _ rfl;have z4:=(cM.out.on zk).cell 7 _ rfl;have z5:=(cM.out.on zk).cell 8 _ rfl;have z6:=(lE.out.on zk).cell 1 _ rfl;have z7:=(lE.out.on zk).cell 3 _ rfl;have z8:=(lE.out.on zk).cell 4 _ rfl;have yb:=Bk.new ((aa.refl af _).drew.trans k5);have y0:=yb.cell 0 _ rfl;have y1:=yb.cell 1 _ rfl;have y2:=yb.cell 2 _ rfl;have y3:=yb.cell 3 _ rfl;have yl:=yb.lt;have yf:=yb.fz)
     | (refine(uU.out _ kC).mono ?_;rintro e w5 ⟨p5,c5,rfl,iF,k5⟩;have jf:=Lib.hid iF;have zk:aa af w4 w5:=aa.trans kC k5;have z0:=(cM.out.on zk).cell 3 _ rfl;have z1:=(cM.out.on zk).cell 4 _ rfl;have z2:=(cM.out.on zk).cell 5 _ rfl;have z3:=(cM.out.on zk).cell 6 _ rfl;have z4:=(cM.out.on zk).cell 7 _ rfl;have z5:=(cM.out.on zk).cell 8 _ rfl;have z6:=(lE.out.on zk).cell 1 _ rfl;have z7:=(lE.out.on zk).cell 3 _ rfl;have z8:=(lE.out.on zk).cell 4 _ rfl)))
  all_goals
   go_wp2_with fail
   go_meet
   first
    | exact⟨w5.heap.size,p5,c5,rfl,rfl,rfl,jf.out.more ((aa.refl af w5).alloc _) (fun _ _ hx=>hx.elim) (fun g hg=>hg.elim .inl (fun e=>.inr ⟨by omega,by rw[e];simp⟩)),Bk.new (aa.refl af _),zk.size,zk.alloc _⟩
    | exact⟨w4.heap.size,p5,c5,rfl,rfl,rfl,jf.out.turn (gB w5 w4.heap.size _ _ _ _) (fun g _ hg=>.inr hg),(((yb.put 0 _).put 1 _).put 2 _).put 3 _,Nat.le_refl _,zk.step (gB w5 w4.heap.size _ _ _ _) (fun g hg=>.inr (by omega))⟩
 case rest =>
 obtain⟨GB,p5,c5,rfl,rfl,rfl,hm⟩:=hcut
 have uV:=Lib.hid hm.box
 have JM:w1.heap.size<=GB:=by have:=hm.far;have:=lF.out.size;simp at this;omega
 have Rf:=HH.out.bx.lt
 have tC:=HX.out.lt
 have Af:=Lib.hid (show ¬GB=B0∧¬OB=GB∧w1.heap.size<=GB from⟨by omega,by omega,JM⟩)
 have gm:=Lib.hid (HH.out.Jy (V:=fun g=>g=GB) (k':=k+1) (aa.refl af w1).drew (lF.out.mono (fun g hg hn=>fun hh=>hh.elim hn (fun e=>by have hg':g<w1.heap.size:=hg;omega))) hm.k hm.sd DG.out.2.1 DG.out.2.2 DG.out.1 uT.out (by have:=wQ.out;omega))
 have JN:=Lib.hid (lE.out.on hm.k)
 have tD:=Lib.hid (cM.out.on hm.k)
 clear hm JM Rf tC uU wS kr
 have g0:=uV.out.cell 0 _ rfl
 have g1:=uV.out.cell 1 _ rfl
 have g2:=uV.out.cell 2 _ rfl
 have g3:=uV.out.cell 3 _ rfl
 have x3:=tD.out.cell 3 _ rfl
 have x4:=tD.out.cell 4 _ rfl
 have x5:=tD.out.cell 5 _ rfl
 have x6:=tD.out.cell 6 _ rfl
 have xl:=tD.out.lt
 have xf:=tD.out.fz
 go_upto_region 4 with fail
 have Ag:=Lib.hid (JN.out.keep (wL _ B0 (.slice p5 dO.length c5) (.int .i64 room) (.int .i64 cc) (.int .i64 fail)) JK.out)
 have JO:=Lib.hid (uV.out.keep (wL _ B0 (.slice p5 dO.length c5) (.int .i64 room) (.int .i64 cc) (.int .i64 fail)) Af.out.1)
 clear g0 g1 g2 g3 x3 x4 x5 x6 xl xf JN uV tD cM lE lD
 obtain⟨h7,k7⟩:=gm.out
 have H7:=Lib.hid h7
 have K7:=Lib.hid k7
 clear h7 k7 gm
 generalize((((_:World).setCell ⟨B0,3,none⟩ (.slice p5 dO.length c5)).setCell ⟨B0,4,none⟩ (.int .i64 room)).setCell ⟨B0,5,none⟩ (.int .i64 cc)).setCell ⟨B0,6,none⟩ (.int .i64 fail)=w7 at *
 have DI:Hid (aa (fun g=>¬B g∨g=B0) w w7):=Lib.hid (HK.out.bC.trans (K7.out.mono (fun g _ hg=>hg.elim (fun h=>.inl (fun hb=>h (.inl hb))) .inr)))
 clear lF
 by_cases hz:eO=0
 case neg =>
  have hb:(eO != 0)=true:=by simpa using hz
  obtain rfl:iO=0:=uQ.out hz
  go_wp2_with fail
  go_ret
  exact⟨dO,cc,p5,c5,by simp,(H7.out.less (fun g hg=>.inl (.inl hg)) wR.out),DI.out⟩
 case pos =>
 subst hz
 have Rg:=Lib.hid (uR.out rfl)
 clear uQ uR
 have hcm:cc<=4611686018427387000:=by have:=wQ.out;omega
 obtain⟨Ah,Ai,Aj⟩:=Rh (room:=room) H7.out.sd.inv H7.out.nh cc fail iO kk t
 have Ak:=Ri (room:=room) Rg.out cc fail iO kk t
 have wT:=Lib.hid ((H7.out.sd.on (aa.refl af w7).drew).prog fun N hN=>PO hN uT.out (by omega) iO kk t (by omega))
 have DJ:=Lib.hid (fun(S:Nat->Prop) (wx:World) (p':Option Addr) (c':Nat) (HR:R6 S wx p' c' dO cc)=>Rj (room:=room) (fail:=fail) HR iO kk t (by omega))
 obtain⟨⟨dQ,eQ⟩,hQ⟩:∃Q,mK cc fail dO room iO kk t=Q:=⟨_,rfl⟩
 rw[hQ]at wT DJ Ah Ai Aj Ak
 simp only at wT Ah Ai Aj Ak
 unfold Ab at wT
 have Al:=Lib.hid (show aG dO∧bK dO∧aH dO+8<=2147483648 from⟨H7.out.sd.inv,H7.out.sd.clean,by have:=H7.out.ms;omega⟩)
 have HW:=Lib.hid (show aH dQ<=aH dO∧NH dQ∧KK dO dQ∧oI dQ iO from⟨Ah,Ai,Aj,Ak⟩)
 clear hQ Ah Ai Aj Ak
 have kr:aa af w7 w7.drew:=(aa.refl af w7).drew
 have d0:=(H7.out.bx.on kr).cell 0 _ rfl
 have d1:=(Ag.out.on kr).cell 5 _ rfl
 have d2:=(Ag.out.on kr).cell 2 _ rfl
 go_upto_region 6 with fail
 go_region_held3 (fun wz=>wz.cell? ⟨B0,0,none⟩=some (.pointer (some ⟨F,0,none⟩))∧wz.cell? ⟨OB,5,none⟩=some (.int .i64 kk)∧wz.cell? ⟨OB,2,none⟩=some (.string t))
  (refine⟨?_,?_,?_⟩<;>with_reducible assumption)
  (first|(go_at_call 97;refine wT.out.mono ?_;rintro e w8 ⟨rfl,JP,k8⟩;have JQ:=Lib.hid JP;have K8:=Lib.hid k8;have tE:=Lib.hid ((H7.out.bx.on (aa.refl af w7).drew).keep k8 (fun hn=>hn H7.out.nb));have uW:=Lib.hid ((Ag.out.on (aa.refl af w7).drew).keep k8 (fun hn=>hn (.inl (.inr rfl))));have JR:=Lib.hid ((JO.out.on (aa.refl af w7).drew).keep k8 (fun hn=>hn (.inr rfl)));clear JP k8;have z0:=tE.out.cell 0 _ rfl;have z1:=uW.out.cell 5 _ rfl;have z2:=uW.out.cell 2 _ rfl))
 clear d0 d1 d2 z0 z1 z2 wT kr Ag JO
 go_upto_region 7 with fail
 have kr:aa af w8 w8.drew:=(aa.refl af w8).drew
 have Am:=Lib.hid (fun(wx:World) (kx:aa af w8 wx)=>(JQ.out.on kx).su (f:=98) (X:=(dQ,eQ)) (cr:=cc) (qx:=cc+1) Al.out.1 Al.out.2.1 H7.out.nh Al.out.2.2 uT.out (by omega) (fun S HR=>DJ.out S _ _ _ HR))
 unfold oH fV at Am
 simp only at Am
 clear DJ
 have d3:=(tE.out.on kr).cell 3 _ rfl
 have d4:=(tE.out.on kr).cell 4 _ rfl
 have d5:=(tE.out.on kr).cell 5 _ rfl
 have d6:=(tE.out.on kr).cell 6 _ rfl
 have d7:=(uW.out.on kr).cell 5 _ rfl
 have d8:=(uW.out.on kr).cell 2 _ rfl
 have DK:=Lib.hid (show ¬B0=GB∧¬OB=GB from⟨fun e=>Af.out.1 e.symm,Af.out.2.1⟩)
 go_region_held3 (fun wz=>wz.cell? ⟨B0,3,none⟩=some (.slice p5 dO.length c5)∧wz.cell? ⟨B0,4,none⟩=some (.int .i64 room)∧wz.cell? ⟨B0,5,none⟩=some (.int .i64 cc)∧wz.cell? ⟨B0,6,none⟩=some (.int .i64 fail)∧wz.cell? ⟨OB,5,none⟩=some (.int .i64 kk)∧wz.cell? ⟨OB,2,none⟩=some (.string t))
  (refine⟨?_,?_,?_,?_,?_,?_⟩<;>first|with_reducible assumption|(with_reducible refine JS ?_ ?_ _ _ _ _<;>first|with_reducible assumption|exact DK.out.1|exact DK.out.2))
  (first|(go_at_call 98;refine(Am.out _ kD).mono ?_;rintro e w9 ⟨p9,c9,rfl,JT,k9⟩;have JU:=Lib.hid JT;have K9:=Lib.hid (show aa af w8 w9 from aa.trans kD k9);clear JT k9;have uX:=Lib.hid (tE.out.on K9.out);have DM:=Lib.hid (uW.out.on K9.out);have sy:=Lib.hid (JR.out.on K9.out);have z3:=uX.out.cell 3 _ rfl;have z4:=uX.out.cell 4 _ rfl;have z5:=uX.out.cell 5 _ rfl;have z6:=uX.out.cell 6 _ rfl;have z7:=DM.out.cell 5 _ rfl;have z8:=DM.out.cell 2 _ rfl;have g0:=sy.out.cell 0 _ rfl;have g1:=sy.out.cell 1 _ rfl;have g2:=sy.out.cell 2 _ rfl;have g3:=sy.out.cell 3 _ rfl;have gl:=sy.out.lt;have gf:=sy.out.fz))
 clear d3 d4 d5 d6 d7 d8 z3 z4 z5 z6 z7 z8 g0 g1 g2 g3 gl gf Am kr tE uW JR JQ
 have Ao:aa (fun g=>g=GB) w9 ((((w9.setCell ⟨GB,0,none⟩ (.slice p9 dQ.length c9)).setCell ⟨GB,1,none⟩ (.int .i64 room)).setCell ⟨GB,2,none⟩ (.int .i64 (cc+1))).setCell ⟨GB,3,none⟩ (.int .i64 fail)):=gB w9 GB (.slice p9 dQ.length c9) (.int .i64 room) (.int .i64 (cc+1)) (.int .i64 fail)
 have wU:=Lib.hid ((((sy.out.put 0 (.slice p9 dQ.length c9)).put 1 (.int .i64 room)).put 2 (.int .i64 (cc+1))).put 3 (.int .i64 fail))
 have sA:=Lib.hid (uX.out.keep Ao DK.out.1)
 have JV:=Lib.hid (JU.out.turn Ao (fun g _ hg=>.inr hg))
 have Rk:w.heap.size<=GB:=by have:=Af.out.2.2;have:=HK.out.size;omega
 have JW:Hid (aa (fun g=>¬B g∨g=B0) w _):=Lib.hid ((((DI.out.trans (aa.refl af w7).drew.bC).trans (K8.out.mono (fun g _ hg=>.inl (fun hb=>hg (.inl (.inl hb)))))).trans K9.out.bC).step Ao (fun g hg=>.inr (by omega)))
 clear Ao Rk DI K8 K9 uX DM sy JU
 go_upto_region 8 with fail
 generalize(((w9.setCell ⟨GB,0,none⟩ (.slice p9 dQ.length c9)).setCell ⟨GB,1,none⟩ (.int .i64 room)).setCell ⟨GB,2,none⟩ (.int .i64 (cc+1))).setCell ⟨GB,3,none⟩ (.int .i64 fail)=DN at *
 have g0:=wU.out.cell 0 _ rfl
 have g1:=wU.out.cell 1 _ rfl
 have g2:=wU.out.cell 2 _ rfl
 have g3:=wU.out.cell 3 _ rfl
 have x3:=sA.out.cell 3 _ rfl
 have x4:=sA.out.cell 4 _ rfl
 have x5:=sA.out.cell 5 _ rfl
 have x6:=sA.out.cell 6 _ rfl
 have xl:=sA.out.lt
 have xf:=sA.out.fz
 go_upto_region 9 with fail
 have DP:=wL DN B0 (.slice p9 dQ.length c9) (.int .i64 room) (.int .i64 (cc+1)) (.int .i64 fail)
 have DQ:=Lib.hid ((((sA.out.put 3 (.slice p9 dQ.length c9)).put 4 (.int .i64 room)).put 5 (.int .i64 (cc+1))).put 6 (.int .i64 fail))
 have wV:=Lib.hid (JV.out.turn DP (fun g _ hg=>.inl (.inl (by rw[show g=B0 from hg];exact wR.out))))
 have Rl:Hid (aa (fun g=>¬B g∨g=B0) w _):=Lib.hid (JW.out.trans (DP.mono (fun g _ hg=>.inr hg)))
 clear g0 g1 g2 g3 x3 x4 x5 x6 xl xf DP JW sA wU JV
 generalize(((DN.setCell ⟨B0,3,none⟩ (.slice p9 dQ.length c9)).setCell ⟨B0,4,none⟩ (.int .i64 room)).setCell ⟨B0,5,none⟩ (.int .i64 (cc+1))).setCell ⟨B0,6,none⟩ (.int .i64 fail)=DR at *
 -- Read
 obtain⟨r1,r2,r3⟩:=Rm HW.out.2.2.2
 have gC:=Lib.hid (wV.out.asks fun N hN=>PN hN iO 0 10000)
 rw[r1,r2]at gC
 have Ap:=Lib.hid (fun(wx:World) (kx:aa af DR wx)=>(wV.out.on kx).prog fun N hN=>PM hN iO)
 rw[r3]at Ap
 unfold Ab at Ap
 obtain⟨kq,oJ,hkl⟩:=eP HW.out.2.2.2.has
 have DS:=wV.out.inv
 have JX:=wV.out.clean
 have DT:=Lib.hid (show aG dQ∧bK dQ∧aH dQ+1<=2147483648 from⟨DS,JX,by have:=HW.out.1;have:=Al.out.2.2;omega⟩)
 obtain⟨V9,Aq⟩:∃S:Nat->Prop,aI S DR p9 c9 dQ:=by obtain⟨N,_,_,h3⟩:=wV.out.ex;exact⟨_,h3⟩
 have Wa:=Aq.cap
 have Rn:=Aq.max
 unfold maxLen at Rn
 obtain⟨gr,off,q,mq,rfl,cI,hrow⟩:=Aq.rowAt hkl
 have Ro:=hrow.c3
 have Rp:iO=(kq:Int):=oJ
 subst Rp
 have dw:(kq:Int)<(dQ.length:Int):=by omega
 have JY:=Lib.hid (QW (nd dQ (kq:Int)).data (by have:=(DS.node (kq:Int)).data;omega))
 have Rq:Hid (∀(wx:World) (S':Nat->Prop),aI S' wx (some ⟨gr,off,none⟩) c9 dQ->wx.cell? ⟨gr,off+kq*5+3,none⟩=some (.string (nd dQ (kq:Int)).data)):=Lib.hid fun wx S' hr=>by
  obtain⟨g',o',q',m',he,_,hr'⟩:=hr.rowAt hkl
  cases he
  exact hr'.c3
 generalize(nd dQ (kq:Int)).data=dt at *
 clear r1 r2 r3 DS JX Aq cI hrow hkl
 have sx:((uO dt).toList==(uO dt).toList)=true:=by rw[toList_eq];simp
 have x0:=DQ.out.cell 0 _ rfl
 go_upto_region 10 with(go_at_call 99;go_loud(refine gC.out.mono ?_);rintro e wf ⟨rfl,rfl⟩)
 have d3:=DQ.out.cell 3 _ rfl
 go_upto_region 12 with(first|(go_at_call 100;go_loud(refine(JY.out _).mono ?_);rintro e wf ⟨rfl,hwf⟩;obtain rfl:_=wf:=hwf.symm)|(go_at_call 101;go_loud(refine(Ap.out _ (aa.refl _ _)).mono ?_);rintro e Rs ⟨rfl,JZ,k12⟩;have J0:=Lib.hid JZ;have DU:=Lib.hid (DQ.out.keep k12 (fun hn=>hn (.inl (.inl wR.out))));have Rt:=Lib.hid k12;clear JZ k12))
 clear d3 Ro x0 Rq JY Ap gC sx
 have jt:=Lib.hid (J0.out.ref (f:=102) (args:=#[.agg #[.slice (some ⟨gr,off,none⟩) dQ.length c9,.int .i64 room],.int .i64 (kq:Int),.int .i64 (-1)]) (d':=eZ dQ (kq:Int)) (V:=fun p' c'=>.tuple #[.agg #[.slice p' (eZ dQ (kq:Int)).length c',.int .i64 room],.int .i64 (gq dQ (kq:Int))]) (fun S hr hS=>by
  have:=tF (room:=room) hr hS DT.out.1 DT.out.2.1 DT.out.2.2 (kq:Int) (-1) (.inr rfl)
  rw[DV]at this
  exact this))
 unfold oH at jt
 have Ar:=Lib.hid (show aH (eZ dQ (kq:Int))<=2+4*(k+1)∧NH (eZ dQ (kq:Int))∧KK dO (eZ dQ (kq:Int))from⟨by have:=yp (d:=dQ) (i:=(kq:Int));have:=HW.out.1;have:=H7.out.ms;omega,Jf HW.out.2.1 _,HW.out.2.2.1.trans (Dr _)⟩)
 obtain⟨dR,J1⟩:∃dR,eZ dQ (kq:Int)=dR:=⟨_,rfl⟩
 rw[J1]at jt Ar J0
 clear J1
 generalize gq dQ (kq:Int)=re at *
 have x3:=DU.out.cell 3 _ rfl
 have x4:=DU.out.cell 4 _ rfl
 go_upto_region 13 with(go_at_call 102;go_loud(refine jt.out.mono ?_);rintro e Au ⟨DW,c13,rfl,J2,k13⟩;clear x3 x4;have wW:=Lib.hid (DU.out.on k13);have Ru:=Lib.hid J2;have Rv:=Lib.hid k13;clear J2 k13;have x3:=wW.out.cell 3 _ rfl;have x4:=wW.out.cell 4 _ rfl;have xl:=wW.out.lt;have xf:=wW.out.fz)
 have J3:=((aa.refl (fun g=>g=B0) Au).setCell (p:=⟨B0,3,none⟩) (.inl (show B0=B0 from rfl)) (.slice DW dR.length c13)).setCell (p:=⟨B0,4,none⟩) (.inl (show B0=B0 from rfl)) (.int .i64 room)
 have Rw:=Lib.hid ((wW.out.put 3 (.slice DW dR.length c13)).put 4 (.int .i64 room))
 have Rx:=Lib.hid ((Ru.out.turn J3 (fun g _ hg=>.inl (.inl (by rw[show g=B0 from hg];exact wR.out)))).less (B':=B) (fun g hg=>.inl (.inl hg)))
 have Ry:=Lib.hid (((Rl.out.trans (Rt.out.mono (fun g _ hg=>.inl (fun hb=>hg (.inl (.inl hb)))))).trans Rv.out.bC).trans (J3.mono (fun g _ hg=>.inr hg)))
 go_wp2_with fail
 go_ret
 exact⟨dR,cc+1,DW,c13,rfl,⟨Rx.out,wR.out,Rw.out,Ar.out.2.1,H7.out.usr.kk Ar.out.2.2,H7.out.m0,H7.out.m1,Ar.out.1,by have:=uT.out;omega,by have:=wQ.out;omega⟩,Ry.out⟩
end
def DX (B:Nat->Prop) (w:World) (B0 F a:Nat) (room fail mask:Int) (k:Nat):Ending->World->Prop:=fun e w'=>∃d' calls' Av,qy B w B0 F a d' room calls' fail Av mask k e w'
section
variable{B:Nat->Prop} {w:World} {B0 F a:Nat} {d:ag} {room calls fail at' mask:Int} {p:Option Addr} {c k:Nat}
theorem Sd.up (h:Sd B w B0 F a p c d room calls fail at' mask k):Sd B w B0 F a p c d room calls fail at' mask (k+1):=⟨h.sd,h.nb,h.bx,h.nh,h.usr,h.m0,h.m1,by have:=h.ms;omega,h.c0,by have:=h.c1;omega⟩
theorem Rz (h:Sd B w B0 F a p c d room calls fail at' mask k) (hk:k<=40) (kd:Int) (s t:ByteArray) (m n kk:Int) (ho:okO ⟨kd,s,t,m,n,kk⟩=true) (wX:¬(1<=kd∧kd<=7)) :
 Calls Tryz.prog 22 #[.pointer (some ⟨B0,0,none⟩),.agg #[.int .i64 kd,.string s,.string t,.int .i64 m,.int .i64 n,.int .i64 kk]] w (DX B w B0 F a room fail mask (k+1)):=by
 have k0:aa af w ((w.alloc (.cells #[.int .i64 kd,.string s,.string t,.int .i64 m,.int .i64 n,.int .i64 kk] 68)).alloc (.cells #[.int .i64 at',.int .i64 mask] 40)):=((aa.refl af w).alloc _).alloc _
 have HH:=Lib.hid (h.on k0)
 have HK:=Lib.hid k0
 have hs2:s.size<=4294967280:=by have:=(rz ho).1;simp only at this;omega
 have x0:=h.bx.cell 7 _ rfl
 have x1:=h.bx.cell 8 _ rfl
 have bl:=h.bx.lt
 clear k0
 by_cases h8:kd=8
 ·subst h8
  have HO:=Lib.hid (Rb HH.out hk 8 s t m n kk ho)
  clear h wX hs2
  go_enter Tryz.func22,Tryz.ntmps22
  go_wp2_with(go_at_call 58;go_loud(refine HO.out.mono ?_);rintro e w4 ⟨d',calls',p',c',rfl,H4,k4⟩)
  go_ret
  exact⟨d',calls',at',p',c',rfl,H4,HK.out.bC.trans k4⟩
 by_cases h9:kd=9
 ·subst h9
  have HO:=Lib.hid (Q8 HH.out (by omega) s hs2)
  clear h wX hs2 h8
  go_enter Tryz.func22,Tryz.ntmps22
  go_wp2_with(go_at_call 59;go_loud(refine HO.out.mono ?_);rintro e w4 ⟨p',c',rfl,H4,k4⟩)
  go_ret
  exact⟨d,calls,_,p',c',rfl,H4.up,HK.out.bC.trans k4⟩
 ·have b1:(kd==1)=false:=by simp;omega
  have b2:(kd==2)=false:=by simp;omega
  have b3:(kd==3)=false:=by simp;omega
  have b4:(kd==4)=false:=by simp;omega
  have b5:(kd==5)=false:=by simp;omega
  have b6:(kd==6)=false:=by simp;omega
  have b7:(kd==7)=false:=by simp;omega
  have b8:(kd==8)=false:=by simpa using h8
  have b9:(kd==9)=false:=by simpa using h9
  clear h wX hs2 h8 h9
  go_enter Tryz.func22,Tryz.ntmps22
  go_wp2_with fail
  go_ret
  exact⟨d,calls,at',p,c,rfl,HH.out.up,HK.out.bC⟩
theorem RA (h:Sd B w B0 F a p c d room calls fail at' mask k) (hk:k<=40) (o:jE) (ho:okO o=true) :
 Calls Tryz.prog 22 #[.pointer (some ⟨B0,0,none⟩),.agg #[.int .i64 o.kind,.string o.s,.string o.t,.int .i64 o.m,.int .i64 o.n,.int .i64 o.k]] w (DX B w B0 F a room fail mask (k+1)):=by
 obtain⟨kd,s,t,m,n,kk⟩:=o
 by_cases wX:1<=kd∧kd<=7
 ·have hh:kd=1∨kd=2∨kd=3∨kd=4∨kd=5∨kd=6∨kd=7:=by omega
  rcases hh with rfl|rfl|rfl|rfl|rfl|rfl|rfl
  ·exact(RB h hk s t m n kk ho).mono fun e w' h=>⟨_,_,_,h⟩
  ·exact(RC h hk s t m n kk ho).mono fun e w' h=>⟨_,_,_,h⟩
  ·exact(RE h hk s t m n kk ho).mono fun e w' h=>⟨_,_,_,h⟩
  ·exact(RF h hk s t m n kk ho).mono fun e w' h=>⟨_,_,_,h⟩
  ·exact(RG h hk s t m n kk ho).mono fun e w' h=>⟨_,_,_,h⟩
  ·exact(RH h hk s t m n kk ho).mono fun e w' h=>⟨_,_,_,h⟩
  ·exact(RI h hk s t m n kk ho).mono fun e w' h=>⟨_,_,_,h⟩
 ·exact Rz h hk kd s t m n kk ho wX
end
set_option maxHeartbeats 16000000
section
variable{B:Nat->Prop} {w:World} {B0 F a:Nat} {d:ag} {room calls fail at' mask:Int} {p q:Option Addr} {c m:Nat} {l:List jE}
theorem Sd.ops (hl:bt pE (fun g=>B g∧g≠B0) w q m l) {w':World} (k:aa (fun g=>¬B g∨g=B0) w w'):bt pE (fun g=>B g∧g≠B0) w' q m l :=
 hl.cN k (fun g hg _ hx=>hx.elim (fun h=>h hg.1) hg.2) (fun g hg _=>hg)
def D7 (B:Nat->Prop) (w:World) (B0 F a:Nat) (room fail mask:Int) (k:Nat) (wx:World):Prop:=∃d' calls' Av p' c',Sd B wx B0 F a p' c' d' room calls' fail Av mask k∧aa (fun g=>¬B g∨g=B0) w wx
theorem J6 (h:Sd B w B0 F a p c d room calls fail at' mask 0) (hl:bt pE (fun g=>B g∧g≠B0) w q m l) (ho:∀o∈l,okO o=true) (hn:l.length<=40) :
 Calls Tryz.prog 8 #[.pointer (some ⟨B0,0,none⟩),.slice q l.length m] w (DX B w B0 F a room fail mask l.length):=by
 have HL:=Lib.hid hl
 have HO:=Lib.hid ho
 have HN:=Lib.hid hn
 have hcap:=hl.cap
 have hmax:=hl.max
 unfold maxLen at hmax
 have HH:=Lib.hid (show D7 B w B0 F a room fail mask 0 w from⟨d,calls,at',p,c,h,(aa.refl af w).bC⟩)
 clear h hl ho hn
 go_enter Tryz.func8,Tryz.ntmps8
 go_wp2
 go_loopw [6,9] (fun _ iv wr=>∃j:Nat,j<=l.length∧iv=.int .i64 j∧D7 B w B0 F a room fail mask j wr) (fun _ iv _=>l.length+1-(intOf iv).toNat)
 case atStart=>exact⟨0,Nat.zero_le _,rfl,HH.out⟩
 case round =>
  obtain⟨j,hj,rfl,d1,RM,RN,p1,c1,h1,k1⟩:=hrel
  have H1:=Lib.hid h1
  have K1:=Lib.hid k1
  clear h1 k1 HH
  by_cases hlt:j<l.length
  case neg =>
   obtain rfl:j=l.length:=by omega
   have hlz:¬(l.length:Int)<(l.length:Int):=by omega
   have gM:=Lib.hid (DD H1.out.sm 60 (by decide) 1)
   go_wp2_with(go_at_call 11;go_loud(refine gM.out.mono ?_);rintro e w3 ⟨rfl,aV⟩)
   go_ret
   exact⟨d1,RM,RN,p1,c1,rfl,H1.out.on aV,K1.out.trans aV.bC⟩
  case pos =>
  have hlz:(j:Int)<(l.length:Int):=by omega
  obtain⟨x,hx⟩:∃x,l[j]?=some x:=⟨_,List.getElem?_eq_getElem hlt⟩
  obtain⟨g,off,rfl,_,hgl,c0,c2,c3,c4,c5,c6⟩:=(Sd.ops HL.out K1.out).Ju hx
  have hok:=HO.out x (List.mem_of_getElem? hx)
  have HJ:=Lib.hid (show j<=40 from by have:=HN.out;omega)
  clear hx
  obtain⟨kd,s,t,md,n,kk⟩:=x
  simp only at c0 c2 c3 c4 c5 c6
  replace hok:=Lib.hid hok
  go_upto_region 4 with fail
  have ka:aa af wr (wr.alloc (.cells #[.int .i64 kd,.string s,.string t,.int .i64 md,.int .i64 n,.int .i64 kk] 68)):=(aa.refl af wr).alloc _
  have tw:=Lib.hid (Bk.new (aa.refl af (wr.alloc (.cells #[.int .i64 kd,.string s,.string t,.int .i64 md,.int .i64 n,.int .i64 kk] 68))))
  have H2:=Lib.hid (H1.out.on ka)
  have K2:=Lib.hid (K1.out.trans ka.bC)
  clear c0 c2 c3 c4 c5 c6 ka hgl H1 K1
  generalize wr.alloc (.cells #[.int .i64 kd,.string s,.string t,.int .i64 md,.int .i64 n,.int .i64 kk] 68)=w2 at *
  generalize wr.heap.size=OB at *
  have iP:=Lib.hid (RA (H2.out.on (aa.refl af w2).drew) HJ.out ⟨kd,s,t,md,n,kk⟩ hok.out)
  simp only at iP
  go_cut [44]from 13 to 44 (fun x wx=>x=.bool false∧D7 B w B0 F a room fail mask (j+1) wx)
  case first =>
   have o0:=(tw.out.on (aa.refl af w2).drew).cell 0 _ rfl
   have o1:=(tw.out.on (aa.refl af w2).drew).cell 1 _ rfl
   have o2:=(tw.out.on (aa.refl af w2).drew).cell 2 _ rfl
   have o3:=(tw.out.on (aa.refl af w2).drew).cell 3 _ rfl
   have o4:=(tw.out.on (aa.refl af w2).drew).cell 4 _ rfl
   have o5:=(tw.out.on (aa.refl af w2).drew).cell 5 _ rfl
   -- [region
   refine wp_region_any (by kernel_rfl) ?_
   change wpAny _ _ _ _ _ _ _ (World.drew _)
   refine wpAny_take (i:=0) (v:=?_) (by simp only[List.getElem?_toArray,List.getElem?_cons_succ,List.getElem?_cons_zero];rfl) (by kernel_rfl) (by kernel_rfl) (by kernel_rfl) (by intro _ _ _ h;exact h) (Or.inl ⟨by rfl,?_⟩) ?_
   rotate_left
   ·((intro w;go_simp);(try with_reducible rfl))
   try simp only[Act.put,List.setIfInBounds_toArray,List.set_cons_zero,List.set_cons_succ]
   refine wpAny_ready (rs:=[1]) (by kernel_rfl) (by simp) (AllReady.cons rfl (fun K hK=>?_) AllReady.nil)
   have jR:=Lib.hid hK
   clear hK
   go_simp
   refine jR.out _ _ ?_
   clear jR
   clear K
   try simp only[Act.put,List.setIfInBounds_toArray,List.set_cons_zero,List.set_cons_succ]
   refine wpAny_ready (rs:=[2]) (by kernel_rfl) (by simp) (AllReady.cons rfl (fun K hK=>?_) AllReady.nil)
   have jR:=Lib.hid hK
   clear hK
   go_simp
   go_wp2_with(first|(go_at_call 22;go_loud(refine iP.out.mono ?_);rintro e w5 ⟨d5,D8,RO,p6,c6,rfl,H5,k5⟩;have lG:=Lib.hid H5;have K5:=Lib.hid ((K2.out.trans (aa.refl af w2).drew.bC).trans k5);clear H5 k5))
   refine jR.out _ _ ?_
   clear jR
   clear K
   try simp only[Act.put,List.setIfInBounds_toArray,List.set_cons_zero,List.set_cons_succ]
   clear o0 o1 o2 o3 o4 o5 iP
   have z0:=lG.out.bx.cell 0 _ rfl
   have z3:=lG.out.bx.cell 3 _ rfl
   have z4:=lG.out.bx.cell 4 _ rfl
   have z5:=lG.out.bx.cell 5 _ rfl
   have cm:=Lib.hid (fun(wx:World) (kx:aa af w5 wx)=>(lG.out.sd.on kx).asks fun N hN=>PL hN)
   have qz:=Lib.hid (fun(wx:World) (kx:aa af w5 wx)=>(lG.out.sd.on kx).asks fun N hN=>IQ hN)
   have ep:=Lib.hid (fun(wx:World) (kx:aa af w5 wx)=>(lG.out.sd.on kx).asks fun N hN=>hN.used)
   have J7:=Lib.hid (fun(wx:World) (kx:aa af w5 wx)=>(lG.out.sd.on kx).Dz fun S hr=>rD (room:=room) hr lG.out.sd.inv.zero (Nat.le_of_lt lG.out.sd.inv.two) lG.out.sd.inv lG.out.sd.small)
   unfold aE at J7
   generalize(used d5:Int)=us at *
   refine wpAny_of_held (S:=fun wz=>wz.cell? ⟨B0,0,none⟩=some (.pointer (some ⟨F,0,none⟩))∧wz.cell? ⟨B0,3,none⟩=some (.slice p6 d5.length c6)∧wz.cell? ⟨B0,4,none⟩=some (.int .i64 room)∧wz.cell? ⟨B0,5,none⟩=some (.int .i64 D8)) _ _ _ _ ?_
   have hHeld:(fun wz:World=>wz.cell? ⟨B0,0,none⟩=some (.pointer (some ⟨F,0,none⟩))∧wz.cell? ⟨B0,3,none⟩=some (.slice p6 d5.length c6)∧wz.cell? ⟨B0,4,none⟩=some (.int .i64 room)∧wz.cell? ⟨B0,5,none⟩=some (.int .i64 D8)) w5:=⟨z0,z3,z4,z5⟩
   refine wpAnyH_take (i:=3) (v:=?_) (by simp only[List.getElem?_toArray,List.getElem?_cons_succ,List.getElem?_cons_zero];rfl) (by kernel_rfl) (by kernel_rfl) (by kernel_rfl) (by intro _ _ _ h;exact h) (Or.inl ⟨by rfl,?_⟩) (by assumption) ?_
   rotate_left
   ·((intro w hSw;(try dsimp only at hSw);go_simp);(try with_reducible rfl))
   try simp only[Act.put,List.setIfInBounds_toArray,List.set_cons_zero,List.set_cons_succ]
   refine wpAnyH_take (i:=4) (v:=?_) (by simp only[List.getElem?_toArray,List.getElem?_cons_succ,List.getElem?_cons_zero];rfl) (by kernel_rfl) (by kernel_rfl) (by kernel_rfl) (by intro _ _ _ h;exact h) (Or.inl ⟨by rfl,?_⟩) (by assumption) ?_
   rotate_left
   ·((intro w hSw;(try dsimp only at hSw);go_simp);(try with_reducible rfl))
   try simp only[Act.put,List.setIfInBounds_toArray,List.set_cons_zero,List.set_cons_succ]
   refine wpAnyH_take (i:=5) (v:=?_) (by simp only[List.getElem?_toArray,List.getElem?_cons_succ,List.getElem?_cons_zero];rfl) (by kernel_rfl) (by kernel_rfl) (by kernel_rfl) (by intro _ _ _ h;exact h) (Or.inl ⟨by rfl,?_⟩) (by assumption) ?_
   rotate_left
   ·((intro w hSw;(try dsimp only at hSw);go_simp);(try with_reducible rfl))
   try simp only[Act.put,List.setIfInBounds_toArray,List.set_cons_zero,List.set_cons_succ]
   refine wpAnyH_take (i:=6) (v:=?_) (by simp only[List.getElem?_toArray,List.getElem?_cons_succ,List.getElem?_cons_zero];rfl) (by kernel_rfl) (by kernel_rfl) (by kernel_rfl) (by intro _ _ _ h;exact h) (Or.inl ⟨by rfl,?_⟩) (by assumption) ?_
   rotate_left
   ·((intro w hSw;(try dsimp only at hSw);go_simp);(try with_reducible rfl))
   try simp only[Act.put,List.setIfInBounds_toArray,List.set_cons_zero,List.set_cons_succ]
   refine wpAnyH_take (i:=7) (v:=?_) (by simp only[List.getElem?_toArray,List.getElem?_cons_succ,List.getElem?_cons_zero];rfl) (by kernel_rfl) (by kernel_rfl) (by kernel_rfl) (by intro _ _ _ h;exact h) (Or.inl ⟨by rfl,?_⟩) (by assumption) ?_
   rotate_left
   ·((intro w hSw;(try dsimp only at hSw);go_simp);(try with_reducible rfl))
   try simp only[Act.put,List.setIfInBounds_toArray,List.set_cons_zero,List.set_cons_succ]
   refine wpAnyH_take (i:=8) (v:=?_) (by simp only[List.getElem?_toArray,List.getElem?_cons_succ,List.getElem?_cons_zero];rfl) (by kernel_rfl) (by kernel_rfl) (by kernel_rfl) (by intro _ _ _ h;exact h) (Or.inl ⟨by rfl,?_⟩) (by assumption) ?_
   rotate_left
   ·((intro w hSw;(try dsimp only at hSw);go_simp);(try with_reducible rfl))
   try simp only[Act.put,List.setIfInBounds_toArray,List.set_cons_zero,List.set_cons_succ]
   refine wpAnyH_take (i:=10) (v:=?_) (by simp only[List.getElem?_toArray,List.getElem?_cons_succ,List.getElem?_cons_zero];rfl) (by kernel_rfl) (by kernel_rfl) (by kernel_rfl) (by intro _ _ _ h;exact h) (Or.inl ⟨by rfl,?_⟩) (by assumption) ?_
   rotate_left
   ·((intro w hSw;(try dsimp only at hSw);go_simp);(try with_reducible rfl))
   try simp only[Act.put,List.setIfInBounds_toArray,List.set_cons_zero,List.set_cons_succ]
   refine wpAnyH_take (i:=11) (v:=?_) (by simp only[List.getElem?_toArray,List.getElem?_cons_succ,List.getElem?_cons_zero];rfl) (by kernel_rfl) (by kernel_rfl) (by kernel_rfl) (by intro _ _ _ h;exact h) (Or.inl ⟨by rfl,?_⟩) (by assumption) ?_
   rotate_left
   ·((intro w hSw;(try dsimp only at hSw);go_simp);(try with_reducible rfl))
   try simp only[Act.put,List.setIfInBounds_toArray,List.set_cons_zero,List.set_cons_succ]
   refine wpAnyH_take (i:=12) (v:=?_) (by simp only[List.getElem?_toArray,List.getElem?_cons_succ,List.getElem?_cons_zero];rfl) (by kernel_rfl) (by kernel_rfl) (by kernel_rfl) (by intro _ _ _ h;exact h) (Or.inl ⟨by rfl,?_⟩) (by assumption) ?_
   rotate_left
   ·((intro w hSw;(try dsimp only at hSw);go_simp);(try with_reducible rfl))
   try simp only[Act.put,List.setIfInBounds_toArray,List.set_cons_zero,List.set_cons_succ]
   refine wpAnyH_take (i:=13) (v:=?_) (by simp only[List.getElem?_toArray,List.getElem?_cons_succ,List.getElem?_cons_zero];rfl) (by kernel_rfl) (by kernel_rfl) (by kernel_rfl) (by intro _ _ _ h;exact h) (Or.inl ⟨by rfl,?_⟩) (by assumption) ?_
   rotate_left
   ·((intro w hSw;(try dsimp only at hSw);go_simp);(try with_reducible rfl))
   try simp only[Act.put,List.setIfInBounds_toArray,List.set_cons_zero,List.set_cons_succ]
   refine wpAnyH_take (i:=14) (v:=?_) (by simp only[List.getElem?_toArray,List.getElem?_cons_succ,List.getElem?_cons_zero];rfl) (by kernel_rfl) (by kernel_rfl) (by kernel_rfl) (by intro _ _ _ h;exact h) (Or.inl ⟨by rfl,?_⟩) (by assumption) ?_
   rotate_left
   ·((intro w hSw;(try dsimp only at hSw);go_simp);(try with_reducible rfl))
   try simp only[Act.put,List.setIfInBounds_toArray,List.set_cons_zero,List.set_cons_succ]
   refine wpAnyH_ready (rs:=[9]) (by kernel_rfl) (by simp) (AllReadyH.cons rfl (fun K hK=>?_) AllReadyH.nil)
   have jR:=Lib.hid hK
   clear hK
   go_simp
   go_wp2_with(first|(go_at_call 23;go_loud(refine(cm.out _ kD).mono ?_);rintro e wf ⟨rfl,hwf⟩;obtain rfl:_=wf:=hwf))
   refine jR.out.out _ _ ?_ (fun hHeld=>?_)
   ·(refine⟨?_,?_,?_,?_⟩<;>with_reducible assumption)
   clear jR
   clear K
   try simp only[Act.put,List.setIfInBounds_toArray,List.set_cons_zero,List.set_cons_succ]
   refine wpAnyH_take (i:=15) (v:=?_) (by simp only[List.getElem?_toArray,List.getElem?_cons_succ,List.getElem?_cons_zero];rfl) (by kernel_rfl) (by kernel_rfl) (by kernel_rfl) (by intro _ _ _ h;exact h) (Or.inl ⟨by rfl,?_⟩) (by assumption) ?_
   rotate_left
   ·((intro w hSw;(try dsimp only at hSw);go_simp);(try with_reducible rfl))
   try simp only[Act.put,List.setIfInBounds_toArray,List.set_cons_zero,List.set_cons_succ]
   refine wpAnyH_take (i:=16) (v:=?_) (by simp only[List.getElem?_toArray,List.getElem?_cons_succ,List.getElem?_cons_zero];rfl) (by kernel_rfl) (by kernel_rfl) (by kernel_rfl) (by intro _ _ _ h;exact h) (Or.inl ⟨by rfl,?_⟩) (by assumption) ?_
   rotate_left
   ·((intro w hSw;(try dsimp only at hSw);go_simp);(try with_reducible rfl))
   try simp only[Act.put,List.setIfInBounds_toArray,List.set_cons_zero,List.set_cons_succ]
   refine wpAnyH_take (i:=17) (v:=?_) (by simp only[List.getElem?_toArray,List.getElem?_cons_succ,List.getElem?_cons_zero];rfl) (by kernel_rfl) (by kernel_rfl) (by kernel_rfl) (by intro _ _ _ h;exact h) (Or.inl ⟨by rfl,?_⟩) (by assumption) ?_
   rotate_left
   ·((intro w hSw;(try dsimp only at hSw);go_simp);(try with_reducible rfl))
   try simp only[Act.put,List.setIfInBounds_toArray,List.set_cons_zero,List.set_cons_succ]
   refine wpAnyH_take (i:=18) (v:=?_) (by simp only[List.getElem?_toArray,List.getElem?_cons_succ,List.getElem?_cons_zero];rfl) (by kernel_rfl) (by kernel_rfl) (by kernel_rfl) (by intro _ _ _ h;exact h) (Or.inl ⟨by rfl,?_⟩) (by assumption) ?_
   rotate_left
   ·((intro w hSw;(try dsimp only at hSw);go_simp);(try with_reducible rfl))
   try simp only[Act.put,List.setIfInBounds_toArray,List.set_cons_zero,List.set_cons_succ]
   refine wpAnyH_take (i:=19) (v:=?_) (by simp only[List.getElem?_toArray,List.getElem?_cons_succ,List.getElem?_cons_zero];rfl) (by kernel_rfl) (by kernel_rfl) (by kernel_rfl) (by intro _ _ _ h;exact h) (Or.inl ⟨by rfl,?_⟩) (by assumption) ?_
   rotate_left
   ·((intro w hSw;(try dsimp only at hSw);go_simp);(try with_reducible rfl))
   try simp only[Act.put,List.setIfInBounds_toArray,List.set_cons_zero,List.set_cons_succ]
   refine wpAnyH_take (i:=20) (v:=?_) (by simp only[List.getElem?_toArray,List.getElem?_cons_succ,List.getElem?_cons_zero];rfl) (by kernel_rfl) (by kernel_rfl) (by kernel_rfl) (by intro _ _ _ h;exact h) (Or.inl ⟨by rfl,?_⟩) (by assumption) ?_
   rotate_left
   ·((intro w hSw;(try dsimp only at hSw);go_simp);(try with_reducible rfl))
   try simp only[Act.put,List.setIfInBounds_toArray,List.set_cons_zero,List.set_cons_succ]
   refine wpAnyH_take (i:=21) (v:=?_) (by simp only[List.getElem?_toArray,List.getElem?_cons_succ,List.getElem?_cons_zero];rfl) (by kernel_rfl) (by kernel_rfl) (by kernel_rfl) (by intro _ _ _ h;exact h) (Or.inl ⟨by rfl,?_⟩) (by assumption) ?_
   rotate_left
   ·((intro w hSw;(try dsimp only at hSw);go_simp);(try with_reducible rfl))
   try simp only[Act.put,List.setIfInBounds_toArray,List.set_cons_zero,List.set_cons_succ]
   refine wpAnyH_take (i:=24) (v:=?_) (by simp only[List.getElem?_toArray,List.getElem?_cons_succ,List.getElem?_cons_zero];rfl) (by kernel_rfl) (by kernel_rfl) (by kernel_rfl) (by intro _ _ _ h;exact h) (Or.inl ⟨by rfl,?_⟩) (by assumption) ?_
   rotate_left
   ·((intro w hSw;(try dsimp only at hSw);go_simp);(try with_reducible rfl))
   try simp only[Act.put,List.setIfInBounds_toArray,List.set_cons_zero,List.set_cons_succ]
   refine wpAnyH_take (i:=25) (v:=?_) (by simp only[List.getElem?_toArray,List.getElem?_cons_succ,List.getElem?_cons_zero];rfl) (by kernel_rfl) (by kernel_rfl) (by kernel_rfl) (by intro _ _ _ h;exact h) (Or.inl ⟨by rfl,?_⟩) (by assumption) ?_
   rotate_left
   ·((intro w hSw;(try dsimp only at hSw);go_simp);(try with_reducible rfl))
   try simp only[Act.put,List.setIfInBounds_toArray,List.set_cons_zero,List.set_cons_succ]
   refine wpAnyH_take (i:=26) (v:=?_) (by simp only[List.getElem?_toArray,List.getElem?_cons_succ,List.getElem?_cons_zero];rfl) (by kernel_rfl) (by kernel_rfl) (by kernel_rfl) (by intro _ _ _ h;exact h) (Or.inl ⟨by rfl,?_⟩) (by assumption) ?_
   rotate_left
   ·((intro w hSw;(try dsimp only at hSw);go_simp);(try with_reducible rfl))
   try simp only[Act.put,List.setIfInBounds_toArray,List.set_cons_zero,List.set_cons_succ]
   refine wpAnyH_take (i:=27) (v:=?_) (by simp only[List.getElem?_toArray,List.getElem?_cons_succ,List.getElem?_cons_zero];rfl) (by kernel_rfl) (by kernel_rfl) (by kernel_rfl) (by intro _ _ _ h;exact h) (Or.inl ⟨by rfl,?_⟩) (by assumption) ?_
   rotate_left
   ·((intro w hSw;(try dsimp only at hSw);go_simp);(try with_reducible rfl))
   try simp only[Act.put,List.setIfInBounds_toArray,List.set_cons_zero,List.set_cons_succ]
   refine wpAnyH_take (i:=28) (v:=?_) (by simp only[List.getElem?_toArray,List.getElem?_cons_succ,List.getElem?_cons_zero];rfl) (by kernel_rfl) (by kernel_rfl) (by kernel_rfl) (by intro _ _ _ h;exact h) (Or.inl ⟨by rfl,?_⟩) (by assumption) ?_
   rotate_left
   ·((intro w hSw;(try dsimp only at hSw);go_simp);(try with_reducible rfl))
   try simp only[Act.put,List.setIfInBounds_toArray,List.set_cons_zero,List.set_cons_succ]
   refine wpAnyH_ready (rs:=[22]) (by kernel_rfl) (by simp) (AllReadyH.cons rfl (fun K hK=>?_) AllReadyH.nil)
   have jR:=Lib.hid hK
   clear hK
   go_simp
   go_wp2_with(first|(go_at_call 24;go_loud(refine(qz.out _ kD).mono ?_);rintro e wf ⟨rfl,hwf⟩;obtain rfl:_=wf:=hwf))
   refine jR.out.out _ _ ?_ (fun hHeld=>?_)
   ·(refine⟨?_,?_,?_,?_⟩<;>with_reducible assumption)
   clear jR
   clear K
   try simp only[Act.put,List.setIfInBounds_toArray,List.set_cons_zero,List.set_cons_succ]
   refine wpAnyH_ready (rs:=[23]) (by kernel_rfl) (by simp) (AllReadyH.cons rfl (fun K hK=>?_) AllReadyH.nil)
   have jR:=Lib.hid hK
   clear hK
   go_simp
   go_wp2_with(first|(go_at_call 25;go_loud(refine(ep.out _ kD).mono ?_);rintro e wf ⟨rfl,hwf⟩;obtain rfl:_=wf:=hwf))
   refine jR.out.out _ _ ?_ (fun hHeld=>?_)
   ·(refine⟨?_,?_,?_,?_⟩<;>with_reducible assumption)
   clear jR
   clear K
   try simp only[Act.put,List.setIfInBounds_toArray,List.set_cons_zero,List.set_cons_succ]
   refine wpAnyH_ready (rs:=[29]) (by kernel_rfl) (by simp) (AllReadyH.cons rfl (fun K hK=>?_) AllReadyH.nil)
   have jR:=Lib.hid hK
   clear hK
   go_simp
   go_wp2_with(first|(go_at_call 26;go_loud(refine(J7.out _ kD).mono ?_);rintro e w7 ⟨rfl,iE⟩;have zk:aa af w5 w7:=aa.trans kD iE;have y0:=(lG.out.bx.on zk).cell 0 _ rfl;have y3:=(lG.out.bx.on zk).cell 3 _ rfl;have y4:=(lG.out.bx.on zk).cell 4 _ rfl;have y5:=(lG.out.bx.on zk).cell 5 _ rfl))
   refine jR.out.out _ _ ?_ (fun hHeld=>?_)
   ·(refine⟨?_,?_,?_,?_⟩<;>with_reducible assumption)
   clear jR
   clear K
   try simp only[Act.put,List.setIfInBounds_toArray,List.set_cons_zero,List.set_cons_succ]
   refine wpAnyH_take (i:=30) (v:=?_) (by simp only[List.getElem?_toArray,List.getElem?_cons_succ,List.getElem?_cons_zero];rfl) (by kernel_rfl) (by kernel_rfl) (by kernel_rfl) (by intro _ _ _ h;exact h) (Or.inl ⟨by rfl,?_⟩) (by assumption) ?_
   rotate_left
   ·((intro w hSw;(try dsimp only at hSw);go_simp);(try with_reducible rfl))
   try simp only[Act.put,List.setIfInBounds_toArray,List.set_cons_zero,List.set_cons_succ]
   refine wpAnyH_take (i:=31) (v:=?_) (by simp only[List.getElem?_toArray,List.getElem?_cons_succ,List.getElem?_cons_zero];rfl) (by kernel_rfl) (by kernel_rfl) (by kernel_rfl) (by intro _ _ _ h;exact h) (Or.inl ⟨by rfl,?_⟩) (by assumption) ?_
   rotate_left
   ·((intro w hSw;(try dsimp only at hSw);go_simp);(try with_reducible rfl))
   try simp only[Act.put,List.setIfInBounds_toArray,List.set_cons_zero,List.set_cons_succ]
   refine wpAnyH_done (by kernel_rfl) ?_ _
   go_wp2_with fail
   go_meet
   exact⟨by simp,d5,D8,RO,p6,c6,lG.out.on zk,K5.out.trans zk.bC⟩
   -- region]
  case rest =>
   obtain⟨rfl,hm⟩:=hcut
   have HM:=Lib.hid hm
   clear hm
   go_wp2_with fail
   go_roundw
   case rel=>exact⟨j+1,by omega,by go_num,HM.out⟩
   case measure=>simp[intOf];omega
end
set_option maxHeartbeats 8000000
def DY (w:World) (room fail mask:Int):Ending->World->Prop:=fun e w' =>
 ∃(B0 F a:Nat) (p:Option Addr) (c:Nat),e=.returned (.pointer (some ⟨B0,0,none⟩))∧w.heap.size<=B0∧Sd (fun g=>g<w.heap.size∨g=B0) w' B0 F a p c bW room 0 fail 1 mask 0∧aa af w w'
theorem RJ:uM bW 1:=⟨by decide,.inr (by decide)⟩
theorem J4 (w:World) (room fail mask:Int) (h0:0<=room) (h1:room<=9223372036854775807) (hm0:0<=mask) (bU:mask<=511) :
 Calls Tryz.prog 7 #[.int .i64 room,.int .i64 fail,.int .i64 mask] w (DY w room fail mask):=by
 have HB:=Lib.hid (IP w room fail h0 h1)
 have DZ:=Lib.hid (fun wx:World=>RL (S:=fun g=>wx.heap.size<=g) wx room (fun _ h=>h))
 have HM:=Lib.hid (show 0<=mask∧mask<=511 from⟨hm0,bU⟩)
 unfold aE at DZ
 clear h0 h1 hm0 bU
 go_enter Tryz.func7,Tryz.ntmps7
 go_upto_region 4 with(go_at_call 17;go_loud(refine HB.out.mono ?_);rintro e w1 ⟨F,a,rfl,FS,k1⟩)
 go_upto_region 5 with fail
 have HX:=Lib.hid (Bk.new (aa.refl af (w1.alloc (.cells #[.pointer (some ⟨F,0,none⟩),.int .i64 1,.int .i64 mask,.slice none 0 0,.int .i64 0,.int .i64 0,.int .i64 0,.int .i64 0,.int .i64 0] 42))))
 have k2:aa af w1 (w1.alloc (.cells #[.pointer (some ⟨F,0,none⟩),.int .i64 1,.int .i64 mask,.slice none 0 0,.int .i64 0,.int .i64 0,.int .i64 0,.int .i64 0,.int .i64 0] 42)):=(aa.refl af w1).alloc _
 have aC:=Lib.hid FS
 have tG:=Lib.hid k1
 have kP:=Lib.hid k2
 have HR:=Lib.hid (DZ.out (w1.alloc (.cells #[.pointer (some ⟨F,0,none⟩),.int .i64 1,.int .i64 mask,.slice none 0 0,.int .i64 0,.int .i64 0,.int .i64 0,.int .i64 0,.int .i64 0] 42)))
 clear FS k1 k2 HB DZ
 generalize w1.alloc (.cells #[.pointer (some ⟨F,0,none⟩),.int .i64 1,.int .i64 mask,.slice none 0 0,.int .i64 0,.int .i64 0,.int .i64 0,.int .i64 0,.int .i64 0] 42)=w2 at *
 obtain⟨B0,D5⟩:∃B0,w1.heap.size=B0:=⟨_,rfl⟩
 rw[D5]at HX ⊢
 have tg:=Lib.hid D5
 clear D5
 go_upto_region 6 with(go_at_call 21;go_loud(refine HR.out.mono ?_);rintro e w3 ⟨p,c,rfl,hr,k3⟩;have rC:=Lib.hid (HX.out.on k3);have x3:=rC.out.cell 3 _ rfl;have x4:=rC.out.cell 4 _ rfl;have x5:=rC.out.cell 5 _ rfl;have x6:=rC.out.cell 6 _ rfl;have xl:=rC.out.lt;have xf:=rC.out.fz)
 have wK:Hid (SD (fun g=>g<w.heap.size∨g=B0) w3 F a bW room 0 fail p c bW):=Lib.hid (by
  obtain⟨N1,n1,n2,n3⟩:=aC.out.wider (kP.out.trans k3)
  have e0:=tg.out
  have e1:=tG.out.size
  have e2:=HX.out.lt
  have e3:=k3.size
  exact⟨N1,fun g hg=>hg.elim (n1 g) (fun e=>n2 g (by omega) (by omega)),n3,hr.cN (aa.refl af w3) (fun _ _ _ h=>h) (fun g hg hl=>⟨n2 g (by omega) hl,fun hh=>hh.elim (fun h=>by omega) (fun h=>by omega)⟩)⟩)
 have D6:=Lib.hid (tG.out.trans (kP.out.trans k3))
 have J5:=Lib.hid (show w.heap.size<=B0 by have:=tg.out;have:=tG.out.size;omega)
 have x7:=rC.out.cell 7 _ rfl
 have x8:=rC.out.cell 8 _ rfl
 clear hr k3 HR tG kP aC tg HX
 go_wp2_with fail
 go_ret
 have kp:=fun(wx:World)=>((wL wx B0 (.slice p bW.length c) (.int .i64 room) (.int .i64 0) (.int .i64 fail)).setCell (p:=⟨B0,7,none⟩) (.inl (show B0=B0 from rfl)) (.int .i64 1)).setCell (p:=⟨B0,8,none⟩) (.inl (show B0=B0 from rfl)) (.int .i64 mask)
 exact⟨B0,F,a,p,c,rfl,J5.out,⟨wK.out.turn (kp w3) (fun g _ hg=>.inr hg),.inr rfl,(((((rC.out.put 3 _).put 4 _).put 5 _).put 6 _).put 7 _).put 8 _,Qo,RJ,HM.out.1,HM.out.2,by rw[y9];decide,by decide,by decide⟩,D6.out.step (kp w3) (fun g hg=>.inr (by have:=J5.out;rw[show g=B0 from hg];exact this))⟩
end Go.Proofs.YtnanhmfpikddkaaGreatDoor
namespace Go.Proofs.YtnanhmfpikddkaaGreatDoor
theorem Ku {d:ag} {i:Int} (h:bI d i=0):aO d i=0:=by
 unfold bI at h
 exact Classical.byContradiction fun hf=>by rw[if_pos hf]at h;exact hf h
section
variable{d:ag} {up:Int->Int} {at':Int} {x:ByteArray} {n:Nat}
theorem Ec (hin:bI d at'=0) (h1:¬x=lH) (h2:¬x=lI) (h3:x.size<=255) {fl:Bool} {k:Int} (hg:bk (nd d at').ah x=some k) :
 ck d up at' x fl n=if fl=false then⟨⟨k,at',x⟩,⟨#[]⟩,0,n⟩else if (nd d k).kind≠3 then⟨⟨k,at',x⟩,⟨#[]⟩,0,n⟩else if 40<n+1 then⟨.no,⟨#[]⟩,17,n+1⟩else⟨⟨k,at',x⟩,ij d k,0,n+1⟩:=by
 have hf:=Ku hin
 have hl:bH d at' x=0:=by unfold bH;rw[if_neg (by rw[hf];simp),hg];rfl
 have ho:aN d at' x=k:=by unfold aN;rw[if_neg (by rw[hf];simp),hg];rfl
 unfold ck
 rw[if_neg (by rw[hin];simp),if_neg h1,if_neg h2,if_neg (by omega),hl,ho]
 cases fl
 ·simp
 ·rw[if_neg (by simp)]
  simp
theorem Kw (hin:bI d at'=0) (h1:¬x=lH) (h2:¬x=lI) (h3:x.size<=255) {fl:Bool} (hg:bk (nd d at').ah x=none) :
 ck d up at' x fl n=⟨⟨0,at',x⟩,⟨#[]⟩,0,n⟩:=by
 have hf:=Ku hin
 have hl:bH d at' x≠0:=by unfold bH;rw[if_neg (by rw[hf];simp),hg];simp
 have ho:aN d at' x=0:=by unfold aN;rw[if_neg (by rw[hf];simp),hg];rfl
 unfold ck
 rw[if_neg (by rw[hin];simp),if_neg h1,if_neg h2,if_neg (by omega),if_pos (.inl hl),ho]
theorem Ax {slash follow:Bool} {q:Ed} {p:aJ} (hs:ck d up at' x (slash||follow) n=q) :
 scan d up slash follow [x] at' n p=if q.e≠0 then .err q.e else if q.t≠⟨#[]⟩then .again at' (mM q.t [] slash) q.n else .fin q.p:=by
 unfold scan
 simp only[List.isEmpty_nil,Bool.not_true,Bool.false_or,hs]
 by_cases h1:q.e≠0
 ·rw[if_pos h1,if_pos h1]
 rw[if_neg h1,if_neg h1]
 by_cases h2:q.t≠⟨#[]⟩
 ·rw[if_pos h2,if_pos h2]
 rw[if_neg h2,if_neg h2,if_neg (fun h=>h.2 rfl)]
 rfl
end
-- the document's example
end Go.Proofs.YtnanhmfpikddkaaGreatDoor
