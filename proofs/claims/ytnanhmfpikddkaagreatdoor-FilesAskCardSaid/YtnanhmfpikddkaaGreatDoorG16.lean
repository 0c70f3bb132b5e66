/-
  Layer 6: contracts of files: enter,free,gone.
-/
import Derived.Test.YtnanhmfpikddkaaGreatDoorG15
import Derived.Deep.RegionHeld3
import Derived.BigQuiet
import Derived.Deep.QuietTactic
import Derived.Test.YtnanhmfpikddkaaGreatDoorG11

set_option linter.unusedSimpArgs false
set_option linter.unusedVariables false
set_option maxRecDepth 100000
set_option maxHeartbeats 4000000
namespace Go.Proofs.YtnanhmfpikddkaaGreatDoor
open Go Go.RowKit
section
variable{N:Nat->Prop} {w w':World} {F a:Nat} {d d':ag} {room calls fail:Int}
theorem l6 {a b c e:Int} (h1:a=c) (h2:b=e):Ending.returned (.tuple #[.int .i64 a,.int .i64 b])=Ending.returned (.tuple #[.int .i64 c,.int .i64 e]):=by rw[h1,h2]
theorem PJ (f n:Int):(bits BinOp.and IntKind.i64 f n==0)=!bg f n:=by unfold bg;simp[bne]
theorem uG (f n:Int):(bits BinOp.and IntKind.i64 f n != 0)=bg f n:=rfl
theorem PY (s:ByteArray):decide (cO s=0)=(!s.toList.isEmpty&&decide ((s.size:Int)<=4095)&&decide (jx s 0<0)):=by
 rw[isEmpty_eq]
 unfold cO
 by_cases h1:s=⟨#[]⟩
 ·simp[h1]
 ·by_cases h2:4095<s.size
  ·simp[h1,h2];intro;omega
  ·by_cases h3:0<=jx s 0
   ·have:¬jx s 0<0:=by omega
    simp[h1,h2,h3,this]
   ·have h4:jx s 0<0:=by omega
    have h5:(s.size:Int)<=4095:=by omega
    simp[h1,h2,h3,h4,h5]
theorem PZ (s:ByteArray) (w:World) :
 Calls Tryz.prog 85 #[.string s] w fun e w'=>e=.returned (.bool (decide (cO s=0)))∧w=w':=by
 have H:=Lib.hid (PY s)
 go_enter Tryz.func85,Tryz.ntmps85
 go_wp2_with(go_at_call 72;refine(Dk _ _ _).mono ?_;rintro e w' ⟨rfl,rfl⟩)
 all_goals
  go_ret
  refine⟨rV ?_,rfl⟩
  rw[H.out]
  first|(simp[*];done)|(simp[*];omega)|(simp[*];intros;omega)
theorem IW (h:aY N w F a d room calls fail) (p:aJ) (k:Int) (hb:aH d+1<=2147483648) (hsz:p.name.size<=4294967296) (hno:aO d p.dir=0->(nd d k).kind=2->¬cU d k p.dir) :
 Calls Tryz.prog 42 #[.pointer (some ⟨F,0,none⟩),aF p,.int .i64 k] w (lz N w F a (qu d room p k).1 room calls fail (.int .i64 (qu d room p k).2)):=by
 obtain⟨pn,pd,pm⟩:=p
 unfold aF qu
 simp only at hsz hno ⊢
 have kz:aa af w (w.alloc (.cells #[.int .i64 pn,.int .i64 pd,.string pm] 75)):=(aa.refl _ _).alloc _
 have FS:=h.on kz
 have b1:=boxed (aa.refl af (w.alloc (.cells #[.int .i64 pn,.int .i64 pd,.string pm] 75))) 1 (.int .i64 pd) rfl
 have b2:=boxed (aa.refl af (w.alloc (.cells #[.int .i64 pn,.int .i64 pd,.string pm] 75))) 2 (.string pm) rfl
 have HR:=Lib.hid (fun(w1:World) (h1:aY N w1 F a (bM d room pd pm k) room calls fail)=>h1.lA fun R hR=>CP hR k)
 have hf:Hid (∀w1:World,aY N w1 F a (bM d room pd pm k) room calls fail->w1.cell? ⟨F,0,none⟩=some (.pointer (some ⟨a,0,none⟩))):=fun w1 h=>h.c0
 clear h
 have f0:=FS.c0;have f1:=FS.c1;have f2:=FS.c2;have fz:=FS.fz;have fl:=FS.lt
 go_enter Tryz.func42,Tryz.ntmps42
 go_upto_region 1 with fail
 generalize w.alloc (.cells #[.int .i64 pn,.int .i64 pd,.string pm] 75)=w1 at *
 generalize w.heap.size=hz at *
 have HE:=Lib.hid ((FS.on (aa.refl af w1).drew).lA fun R hR=>CW hR pd pm k hsz hb hno)
 clear FS hno
 go_still_tail 9,(by kernel_rfl)
 change wpList _ _ _ _ _ w1.drew
 replace kz:aa af w w1.drew:=kz.drew
 generalize w1.drew=w2 at *
 go_wp2_with(first|(go_at_call 70;go_loud(refine HE.out.mono ?_);rintro e w3 ⟨rfl,IX,aV⟩;have f30:=hf.out _ IX;have gX:=HR.out _ IX)|(go_at_call 71;go_loud(refine gX.mono ?_);rintro e w4 ⟨rfl,P3,bB⟩))
 go_ret
 exact⟨rfl,P3,(kz.bC.trans aV).trans bB⟩
theorem Dl (h:aY N w F a d room calls fail) (at' mask:Int) (s:ByteArray) (slash:Bool) (hsz:s.size<=4294967280) :
 Calls Tryz.prog 39 #[.pointer (some ⟨F,0,none⟩),.agg #[.int .i64 at',.int .i64 mask],.string s,.bool slash] w fun e w' =>
  e=.returned (.tuple #[aF (eE d at' s slash).1,.int .i64 (eE d at' s slash).2])∧aa af w w':=by
 have ks:aa af w (w.alloc (.cells #[.int .i64 at',.int .i64 mask] 34)):=(aa.refl _ _).alloc _
 have kz:aa af w ((w.alloc (.cells #[.int .i64 at',.int .i64 mask] 34)).alloc (.cells #[.int .i64 0,.int .i64 0,.string ⟨#[]⟩] 75)):=ks.alloc _
 have FS:=h.on kz
 have b0:=boxed (w:=w) ((aa.refl af (w.alloc (.cells #[.int .i64 at',.int .i64 mask] 34))).alloc (.cells #[.int .i64 0,.int .i64 0,.string ⟨#[]⟩] 75)) 0 (.int .i64 at') rfl
 have KB:=kN (v0:=.int .i64 0) (v1:=.int .i64 0) (v2:=.string ⟨#[]⟩) (aa.refl af ((w.alloc (.cells #[.int .i64 at',.int .i64 mask] 34)).alloc (.cells #[.int .i64 0,.int .i64 0,.string ⟨#[]⟩] 75)))
 have ew:(w.alloc (.cells #[.int .i64 at',.int .i64 mask] 34)).heap.size=w.heap.size+1:=by simp
 rw[ew]at KB
 have aW:=Lib.hid (fun(w1:World) (hk:aa af ((w.alloc (.cells #[.int .i64 at',.int .i64 mask] 34)).alloc (.cells #[.int .i64 0,.int .i64 0,.string ⟨#[]⟩] 75)) w1)=>(FS.on hk).find at' s false hsz)
 have HM:=Lib.hid (fun(w1:World) (hk:aa af ((w.alloc (.cells #[.int .i64 at',.int .i64 mask] 34)).alloc (.cells #[.int .i64 0,.int .i64 0,.string ⟨#[]⟩] 75)) w1) (i:Int)=>uF (FS.on hk) i 128 (by decide))
 obtain⟨⟨⟨node,dir,name⟩,fe⟩,hF⟩:∃X,eD d (iA d) false 41 at' s 0=X:=⟨_,rfl⟩
 have HQ:=Lib.hid (show eE d at' s slash=if fe≠0 then(.no,fe)else if node≠0 then(.no,13)else if slash=false∧cg s=true then(.no,12)else(⟨node,dir,name⟩,cD d dir 128)by unfold eE aQ;rw[hF])
 rw[hF]at aW
 clear hF h ks ew
 unfold aF at aW
 simp only at aW
 have aC:=Lib.hid FS
 have f0:=FS.c0;have f1:=FS.c1;have f2:=FS.c2;have fz:=FS.fz;have fl:=FS.lt
 clear FS
 go_enter Tryz.func39,Tryz.ntmps39
 go_upto_region 1 with fail
 generalize((w.alloc (.cells #[.int .i64 at',.int .i64 mask] 34)).alloc (.cells #[.int .i64 0,.int .i64 0,.string ⟨#[]⟩] 75))=w1 at *
 go_cut [10,11]from 10 to 22 (fun x y wx=>∃G:Nat,w1.heap.size<=G∧x=.pointer (some ⟨G,0,none⟩)∧y=.int .i64 fe∧wx.cell? ⟨G,0,none⟩=some (.int .i64 node)∧wx.cell? ⟨G,1,none⟩=some (.int .i64 dir)∧wx.cell? ⟨G,2,none⟩=some (.string name)∧aa af w1 wx)
 case first =>
  have kr:=aa.refl af w1
  have bh:=kr.drew
  have d0:=(aC.out.on bh).c0
  have tg:=Lib.hid (fun(wx:World) (k:aa af w1 wx)=>(k.cell (p:=⟨w.heap.size,0,none⟩) (dm b0) (fun h=>h)).trans b0)
  have d1:=tg.out _ bh
  go_region_held3 (fun wz=>wz.cell? ⟨F,0,none⟩=some (.pointer (some ⟨a,0,none⟩))∧wz.cell? ⟨w.heap.size,0,none⟩=some (.int .i64 at')∧aa af w1 wz) (refine⟨?_,?_,?_⟩<;>first|with_reducible assumption|(with_reducible refine(aC.out.on ?_).c0;exact kA)|(with_reducible refine tg.out _ ?_;exact kA)|(exact kA))
   (first|(go_at_call 43;refine(aW.out _ kA).mono ?_;rintro e w2 ⟨rfl,hk2⟩;have bV:aa af w1 w2:=aa.trans kA hk2;have zs:=bV.size;have z0:=(aC.out.on bV).c0;have z1:=tg.out _ bV;(try(have y0:=o9 hk2 0 _ rfl;have y1:=o9 hk2 1 _ rfl;have y2:=o9 hk2 2 _ rfl;have yf:=Dm hk2))))
  all_goals(go_wp2_with fail;go_meet;refine⟨_,?_,rfl,rfl,?_,?_,?_,?_⟩)
  all_goals first
   | exact Nat.le_refl _
   | exact zs
   | (with_reducible exact boxed (aa.refl af _) 0 _ rfl)
   | (with_reducible exact boxed (aa.refl af _) 1 _ rfl)
   | (with_reducible exact boxed (aa.refl af _) 2 _ rfl)
   | (exact kA)
   | (go_simp;done)
   | skip
 case rest =>
  obtain⟨G,hG,rfl,rfl,g0,g1,g2,hk1⟩:=hcut
  have V6:¬G=w.heap.size+1:=by have:=KB.lt;omega
  have Dn:=dm g0
  have r0:=(KB.on hk1).c0
  have r1:=(KB.on hk1).c1
  have r2:=(KB.on hk1).c2
  have rf:=(KB.on hk1).fz
  have rl:=(KB.on hk1).lt
  have hms:=Lib.hid (fun(wx:World) (k:aa af w1 wx)=>HM.out wx k dir)
  have HL:Hid (s.size<=4294967296):=(Nat.le_trans hsz (by decide):s.size<=4294967296)
  clear HM aW aC KB f0 f1 f2 fz fl b0 hsz
  replace kz:=kz.trans hk1
  by_cases he:fe≠0
  ·have hne:(fe != 0)=true:=by simpa using he
   rw[if_pos he]at HQ
   clear he
   go_wp2_with fail
   (try simp only[Exit.inBlock,Exit.then])
   refine bodyPost_ret (v:=.tuple #[aF .no,.int .i64 fe]) ?_ rfl ?_
   ·rw[results_cell_tmp rfl];unfold aF aJ.no;go_simp
   ·refine⟨by rw[HQ.out],?_⟩
    repeat exact kA
  rw[if_neg he]at HQ
  have he0:fe=0:=Classical.not_not.1 he
  subst he0
  by_cases hn:node≠0
  ·have hne:(node != 0)=true:=by simpa using hn
   rw[if_pos hn]at HQ
   clear hn he
   go_wp2_with fail
   (try simp only[Exit.inBlock,Exit.then])
   refine bodyPost_ret (v:=.tuple #[aF .no,.int .i64 13]) ?_ rfl ?_
   ·rw[results_cell_tmp rfl];unfold aF aJ.no;go_simp
   ·refine⟨by rw[HQ.out],?_⟩
    repeat exact kA
  have hne:(node != 0)=false:=by simpa using hn
  rw[if_neg hn]at HQ
  clear hn he
  have iB:=Lib.hid (fun wx:World=>hs1 s wx HL.out)
  by_cases hsl:slash=false∧cg s=true
  ·rw[if_pos hsl]at HQ
   obtain⟨e1,e2⟩:=hsl
   subst e1
   rw[e2]at iB
   clear e2
   go_wp2_with(go_at_call 66;refine(iB.out _).mono ?_;rintro e w' ⟨rfl,rfl⟩)
   (try simp only[Exit.inBlock,Exit.then])
   refine bodyPost_ret (v:=.tuple #[aF .no,.int .i64 12]) ?_ rfl ?_
   ·rw[results_cell_tmp rfl];unfold aF aJ.no;go_simp
   ·refine⟨by rw[HQ.out],?_⟩
    repeat exact kA
  rw[if_neg hsl]at HQ
  have hcs:slash=true∨(slash=false∧cg s=false):=by
   cases slash
   ·right;refine⟨rfl,?_⟩;simpa using hsl
   ·exact .inl rfl
  clear hsl hG
  have hgs:=Lib.hid (fun(wx:World) (k:aa af wc wx)=>(⟨(k.cell (p:=⟨G,0,none⟩) Dn (fun h=>h)).trans g0,(k.cell (p:=⟨G,1,none⟩) Dn (fun h=>h)).trans g1,(k.cell (p:=⟨G,2,none⟩) Dn (fun h=>h)).trans g2,
   (k.cell (p:=⟨w.heap.size+1,0,none⟩) rl (fun h=>h)).trans r0,(k.cell (p:=⟨w.heap.size+1,1,none⟩) rl (fun h=>h)).trans r1,(k.cell (p:=⟨w.heap.size+1,2,none⟩) rl (fun h=>h)).trans r2,fun j=>(k.frozen (p:=⟨w.heap.size+1,j,none⟩) rl (fun h=>h)).trans (rf j)⟩ :
   wx.cell? ⟨G,0,none⟩=some (.int .i64 node)∧wx.cell? ⟨G,1,none⟩=some (.int .i64 dir)∧wx.cell? ⟨G,2,none⟩=some (.string name)∧wx.cell? ⟨w.heap.size+1,0,none⟩=some (.int .i64 0)∧wx.cell? ⟨w.heap.size+1,1,none⟩=some (.int .i64 0)∧wx.cell? ⟨w.heap.size+1,2,none⟩=some (.string ⟨#[]⟩)∧∀j,wx.frozen? ⟨w.heap.size+1,j,none⟩=false))
  have kc:=aa.refl af wc
  rcases hcs with rfl|⟨rfl,he2⟩
  ·clear iB
   go_upto_region 8 with fail
   go_region_with(go_at_call 67;refine(hms.out _ (hk1.trans kA)).mono ?_;rintro e w2 ⟨rfl,hk2⟩;obtain⟨z0,z1,z2,x0,x1,x2,xf⟩:=hgs.out w2 (aa.trans kA hk2))
   all_goals
    replace kz:=kz.trans (aa.trans kA hk2)
    go_wp2_with fail
    (try simp only[Exit.inBlock,Exit.then])
    refine bodyPost_ret (v:=.tuple #[aF ⟨node,dir,name⟩,.int .i64 (cD d dir 128)]) ?_ rfl ?_
    ·rw[results_cell_tmp rfl];unfold aF;go_simp
    ·refine⟨by rw[HQ.out],?_⟩
     repeat exact kA
  ·rw[he2]at iB
   clear he2
   go_upto_region 8 with(go_at_call 66;refine(iB.out _).mono ?_;rintro e w' ⟨rfl,rfl⟩)
   go_region_with(go_at_call 67;refine(hms.out _ (hk1.trans kA)).mono ?_;rintro e w2 ⟨rfl,hk2⟩;obtain⟨z0,z1,z2,x0,x1,x2,xf⟩:=hgs.out w2 (aa.trans kA hk2))
   all_goals
    replace kz:=kz.trans (aa.trans kA hk2)
    go_wp2_with fail
    (try simp only[Exit.inBlock,Exit.then])
    refine bodyPost_ret (v:=.tuple #[aF ⟨node,dir,name⟩,.int .i64 (cD d dir 128)]) ?_ rfl ?_
    ·rw[results_cell_tmp rfl];unfold aF;go_simp
    ·refine⟨by rw[HQ.out],?_⟩
     repeat exact kA
end
section
variable{N:Nat->Prop} {w w':World} {F a:Nat} {d d':ag} {room calls fail:Int}
theorem IP (w:World) (room fail:Int) (h0:0<=room) (h1:room<=9223372036854775807) :
 Calls Tryz.prog 17 #[.int .i64 room,.int .i64 fail] w fun e w'=>∃F a,e=.returned (.tuple #[.pointer (some ⟨F,0,none⟩),.int .i64 0])∧aY (fun g=>g<w.heap.size) w' F a bW room 0 fail∧aa af w w':=by
 have HN:=Lib.hid (Ok w room h1)
 simp only[if_neg (show ¬room<0 by omega)]at HN
 go_enter Tryz.func17,Tryz.ntmps17
 go_wp2_with(go_at_call 37;go_loud(refine HN.out.mono ?_);rintro e w1 ⟨a,rfl,hd⟩)
 go_ret2
 have hk:=hd.keeps
 have hs:=hk.size
 have ka:aa af w1 (w1.alloc (.cells #[.pointer (some ⟨a,0,none⟩),.int .i64 0,.int .i64 fail] 79)):=(aa.refl _ _).alloc _
 have kn:=aa.refl af (w1.alloc (.cells #[.pointer (some ⟨a,0,none⟩),.int .i64 0,.int .i64 fail] 79))
 refine⟨w1.heap.size,a,rfl,⟨hd.pd.grow ka (fun _ _ hx=>hx.elim) (fun x hx=>?_),by omega,boxed kn 0 _ rfl,boxed kn 1 _ rfl,boxed kn 2 _ rfl,nW kn⟩,hk.alloc _⟩
 rcases hx with hx|rfl
 ·exact .inl hx
 ·exact .inr ⟨Nat.le_refl _,by simp⟩
theorem IQ (h:aY N w F a d room calls fail):Calls Tryz.prog 24 #[.pointer (some ⟨F,0,none⟩)] w fun e w'=>e=.returned (.pointer (some ⟨a,0,none⟩))∧w=w':=by
 have f0:=h.c0
 clear h
 go_enter Tryz.func24,Tryz.ntmps24
 go_wp2
 go_ret
 exact⟨rfl,rfl⟩
theorem PL (h:aY N w F a d room calls fail):Calls Tryz.prog 23 #[.pointer (some ⟨F,0,none⟩)] w fun e w'=>e=.returned (.int .i64 calls)∧w=w':=by
 have f0:=h.c1
 clear h
 go_enter Tryz.func23,Tryz.ntmps23
 go_wp2
 go_ret
 exact⟨rfl,rfl⟩
theorem PM (h:aY N w F a d room calls fail) (i:Int) :
 Calls Tryz.prog 101 #[.pointer (some ⟨F,0,none⟩),.int .i64 i] w (lz N w F a (eZ d i) room calls fail (.int .i64 (gq d i))):=by
 have HR:=Lib.hid (h.lA fun R hR=>CP hR i)
 rw[show(if gq d i=0 then gc (gG d i)else d)=eZ d i from rfl]at HR
 have f0:=h.c0
 clear h
 go_enter Tryz.func101,Tryz.ntmps101
 go_wp2_with(go_at_call 71;go_loud(refine HR.out.mono ?_);rintro e w2 ⟨rfl,FS,k⟩)
 go_ret
 exact⟨rfl,FS,k⟩
theorem aY.reads (h:aY N w F a d room calls fail) (i x y:Int) :
 Calls Tryz.prog 138 #[.pointer (some ⟨a,0,none⟩),.int .i64 i,.int .i64 x,.int .i64 y] w fun e w'=>e=.returned (.tuple #[.string (nV d i x y),.int .i64 (mJ d i x y)])∧w=w' :=
 h.pd.tells fun R lk up hR _ _=>OX hR i x y (IU h.pd.inv i)
theorem PN (h:aY N w F a d room calls fail) (i x y:Int) :
 Calls Tryz.prog 99 #[.pointer (some ⟨F,0,none⟩),.int .i64 i,.int .i64 x,.int .i64 y] w fun e w'=>e=.returned (.tuple #[.string (nV d i x y),.int .i64 (mJ d i x y)])∧w=w':=by
 have HR:=Lib.hid (h.reads i x y)
 have f0:=h.c0
 clear h
 go_enter Tryz.func99,Tryz.ntmps99
 go_wp2_with(go_at_call 138;go_loud(refine HR.out.mono ?_);rintro e w2 ⟨rfl,rfl⟩)
 go_ret2
 exact⟨rfl,rfl⟩
def mK (calls fail:Int) (d:ag) (room id x:Int) (s:ByteArray):ag × Int:=bz calls fail d (iy d room id x s,iK d room id x s)
theorem PO (h:aY N w F a d room calls fail) (hc0:0<=calls) (hc1:calls<=4611686018427387904) (i x:Int) (s:ByteArray) (hsz:s.size<=4294967296) :
 Calls Tryz.prog 97 #[.pointer (some ⟨F,0,none⟩),.int .i64 i,.int .i64 x,.string s] w (lz N w F a (mK calls fail d room i x s).1 room (calls+1) fail (.int .i64 (mK calls fail d room i x s).2)):=by
 have HC:=Lib.hid (q9 h hc0 hc1)
 have HW:=Lib.hid (fun(w1:World) (h1:aY N w1 F a d room (calls+1) fail)=>h1.lA fun R hR=>Pa hR i x s hsz)
 obtain⟨O,hO⟩:∃O,mK calls fail d room i x s=O:=⟨_,rfl⟩
 rw[hO]
 obtain⟨ce,hce⟩:∃ce,eG calls fail=ce:=⟨_,rfl⟩
 have aj:=Lib.hid (show O=if ce≠0 then(d,ce)else(iy d room i x s,iK d room i x s)by rw[<- hO];unfold mK bz;rw[hce])
 rw[hce]at HC
 clear h hO hce hc0 hc1
 by_cases hz:ce≠0
 ·have hb:(ce != 0)=true:=by simpa using hz
  rw[if_pos hz]at aj
  clear hz
  go_enter Tryz.func97,Tryz.ntmps97
  go_wp2_with(go_at_call 38;go_loud(refine HC.out.mono ?_);rintro e w2 ⟨rfl,FS,k⟩)
  go_ret
  exact⟨cR (by rw[aj.out]),(by rw[aj.out];exact FS),k⟩
 rw[if_neg hz]at aj
 obtain rfl:ce=0:=Classical.not_not.1 hz
 clear hz
 go_enter Tryz.func97,Tryz.ntmps97
 go_wp2_with(first|(go_at_call 38;go_loud(refine HC.out.mono ?_);rintro e w2 ⟨rfl,FS,k⟩;have f2:=FS.c0;clear HC)|(go_at_call 136;go_loud(refine(HW.out _ FS).mono ?_);rintro e w3 ⟨rfl,zO,k3⟩))
 go_ret
 exact⟨cR (by rw[aj.out]),(by rw[aj.out];exact zO),k.trans k3⟩
theorem aY.used (h:aY N w F a d room calls fail):Calls Tryz.prog 25 #[.pointer (some ⟨a,0,none⟩)] w fun e w'=>e=.returned (.int .i64 (used d))∧w=w' :=
 h.pd.tells fun R lk up hR _ _=>Oc hR
end
section
variable{N:Nat->Prop} {w w':World} {F a:Nat} {d d':ag} {room calls fail:Int}
theorem IM (h:aY N w F a d room calls fail) (oF:aH d+1<=2147483648) (k flags:Int) :
 Calls Tryz.prog 45 #[.pointer (some ⟨F,0,none⟩),.int .i64 k,.int .i64 flags] w
  (lz N w F a (fM d k flags).1 room calls fail (.tuple #[.int .i64 (fM d k flags).2.1,.int .i64 (fM d k flags).2.2])):=by
 obtain⟨O,hO⟩:∃O,fM d k flags=O:=⟨_,rfl⟩
 have aj:=Lib.hid (show O=fM d k flags from hO.symm)
 rw[hO]
 unfold fM at aj
 obtain⟨ik,im,il,ih,iz,hik,jN,_,hie⟩:=h.tell k
 have hM:has d k->0<=im∧im<=4095:=fun hh=>by rw[jN hh];exact⟨(h.pd.inv.node k).mV,(h.pd.inv.node k).mW⟩
 obtain⟨ie,kL⟩:∃ie,(if has d k then 0 else 12:Int)=ie:=⟨_,rfl⟩
 have cw:=Lib.hid (h.info k)
 rw[hie,kL]at cw
 have f0:=h.c0
 obtain⟨te,hte⟩:∃te,oD d k flags=te:=⟨_,rfl⟩
 have pg:=Lib.hid (show te=if ik=2 then 15 else if ik≠1 then 17 else if (bg flags 1=true∧(bits BinOp.and IntKind.i64 im 256==0)=true)∨(bg flags 10=true∧(bits BinOp.and IntKind.i64 im 128==0)=true)then 19 else 0 by
  rw[<- hte]
  unfold oD
  rw[<- hik]
  by_cases k2:ik=2
  ·rw[if_pos k2,if_pos k2]
  rw[if_neg k2,if_neg k2]
  by_cases k1:ik≠1
  ·rw[if_pos k1,if_pos k1]
  rw[if_neg k1,if_neg k1]
  have hh:has d k:=by unfold has;rw[<- hik];have:=Classical.not_not.1 k1;omega
  have e1:=zK 256 (by decide) im (hM hh).1 (hM hh).2
  have e2:=zK 128 (by decide) im (hM hh).1 (hM hh).2
  rw[show((256:Nat):Int)=256 from rfl]at e1
  rw[show((128:Nat):Int)=128 from rfl]at e2
  rw[e1,e2,jN hh]
  simp only[decide_eq_true_eq])
 rw[hte]at aj
 clear hO hie kL hik jN hM hte
 have I6:=Lib.hid h
 clear h
 go_enter Tryz.func45,Tryz.ntmps45
 go_upto_region 2 with(go_at_call 28;go_loud(refine cw.out.mono ?_);rintro e w2 ⟨rfl,k2⟩)
 have HI:=Lib.hid (Bx.new (aa.refl af (w2.alloc (.cells #[.int .i64 ik,.int .i64 im,.int .i64 il,.int .i64 ih,.int .i64 iz] 29))))
 have hk1:aa af w (w2.alloc (.cells #[.int .i64 ik,.int .i64 im,.int .i64 il,.int .i64 ih,.int .i64 iz] 29)):=k2.alloc _
 have aC:=Lib.hid (I6.out.on hk1)
 have HK:=Lib.hid (hk1.bC (F:=fun g=>¬N g))
 have HSub:Hid (∀g,N g->N g):=fun g hg=>hg
 clear cw k2 hk1 f0 I6
 generalize w2.alloc (.cells #[.int .i64 ik,.int .i64 im,.int .i64 il,.int .i64 ih,.int .i64 iz] 29)=wc at *
 generalize w2.heap.size=IB at *
 have i0:=HI.out.cell 0 _ rfl
 have i1:=HI.out.cell 1 _ rfl
 have hb2:(ik==2)=decide (ik=2):=by rw[Bool.eq_iff_iff];simp
 have hb1:(ik != 1)=decide (ik≠1):=by rw[Bool.eq_iff_iff];simp
 by_cases k2:ik=2
 ·rw[decide_eq_true k2]at hb2
  replace aj:=Lib.hid (show O=(d,0,15)by rw[aj.out,pg.out,if_pos k2,if_pos (by decide)])
  clear k2 hb1
  go_wp2_with fail
  go_ret2
  exact⟨l6 (by rw[aj.out]) (by rw[aj.out]),(by rw[aj.out];exact aC.out.less HSub.out),HK.out⟩
 rw[decide_eq_false k2]at hb2
 by_cases k1:ik≠1
 ·rw[decide_eq_true k1]at hb1
  replace aj:=Lib.hid (show O=(d,0,17)by rw[aj.out,pg.out,if_neg k2,if_pos k1,if_pos (by decide)])
  clear k2 k1
  go_wp2_with fail
  go_ret2
  exact⟨l6 (by rw[aj.out]) (by rw[aj.out]),(by rw[aj.out];exact aC.out.less HSub.out),HK.out⟩
 rw[decide_eq_false k1]at hb1
 rw[if_neg k2,if_neg k1]at pg
 clear k1 k2
 have g1:=uG flags 1
 have g10:=uG flags 10
 have g8:=uG flags 8
 obtain⟨x1,hx1⟩:∃x1,bg flags 1=x1:=⟨_,rfl⟩
 obtain⟨x2,hx2⟩:∃x2,bg flags 10=x2:=⟨_,rfl⟩
 obtain⟨x8,I7⟩:∃x8,bg flags 8=x8:=⟨_,rfl⟩
 obtain⟨y1,hy1⟩:∃y1,(bits BinOp.and IntKind.i64 im 256==0)=y1:=⟨_,rfl⟩
 obtain⟨y2,tj⟩:∃y2,(bits BinOp.and IntKind.i64 im 128==0)=y2:=⟨_,rfl⟩
 rw[hx1]at g1 pg
 rw[hx2]at g10 pg
 rw[I7]at g8 aj
 rw[hy1,tj]at pg
 clear hx1 hx2 I7
 by_cases hz:(x1=true∧y1=true)∨(x2=true∧y2=true)
 ·replace aj:=Lib.hid (show O=(d,0,19)by rw[aj.out,pg.out,if_pos hz,if_pos (by decide)])
  clear pg
  cases x1<;>cases y1<;>cases x2<;>cases y2<;>first
   | (exfalso;revert hz;decide)
   | (clear hz;go_wp2_with fail;go_ret2;exact⟨l6 (by rw[aj.out]) (by rw[aj.out]),(by rw[aj.out];exact aC.out.less HSub.out),HK.out⟩)
 rw[if_neg hz]at pg
 have Qb:=pg.out
 subst Qb
 rw[if_neg (by simp)]at aj
 have ry:=Lib.hid (aC.out.lA fun R hR=>OW hR k)
 have f0:=aC.out.c0
 clear pg
 cases x8 with
 | false =>
   simp only[Bool.false_eq_true,if_false]at aj
   have jt:=Lib.hid (aC.out.lA fun R hR=>Ip hR k oF)
   rw[show(if has d k then kW d k else d)=(O:ag × Int × Int).1 by rw[aj.out]<;>rfl,show(if has d k then 0 else 12:Int)=(O:ag × Int × Int).2.2 by rw[aj.out]<;>rfl]at jt
   cases x1<;>cases y1<;>cases x2<;>cases y2<;>first
    | (exfalso;revert hz;decide)
    | (clear hz;go_wp2_with(go_at_call 80;go_loud(refine jt.out.mono ?_);rintro e w4 ⟨rfl,oG,k4⟩);go_ret2;exact⟨l6 (by rw[aj.out]) rfl,oG,HK.out.trans k4⟩)
 | true =>
   simp only[if_true]at aj
   have jt:=Lib.hid (fun(wx:World) (hx:aY N wx F a (dD d k) room calls fail)=>hx.lA fun R hR=>Ip hR k (by
    have:aH (dD d k)<=aH d:=by
     unfold dD
     split
     ·next hf =>
      obtain⟨hi,_⟩:=m8 hf
      have:=oh (n:=(nd d k).dN ⟨#[]⟩) hi
      have e:bJ ((nd d k).dN ⟨#[]⟩)=bJ (nd d k):=rfl
      unfold jY
      omega
     ·exact Nat.le_refl _
    omega))
   rw[show(if has (dD d k) k then kW (dD d k) k else dD d k)=(O:ag × Int × Int).1 by rw[aj.out]<;>rfl,show(if has (dD d k) k then 0 else 12:Int)=(O:ag × Int × Int).2.2 by rw[aj.out]<;>rfl]at jt
   cases x1<;>cases y1<;>cases x2<;>cases y2<;>first
    | (exfalso;revert hz;decide)
    | (clear hz;go_wp2_with(first|(go_at_call 79;go_loud(refine ry.out.mono ?_);rintro e w3 ⟨rfl,zO,k3⟩;have f3:=zO.c0;clear f0)|(go_at_call 80;go_loud(refine(jt.out _ zO).mono ?_);rintro e w4 ⟨rfl,oG,k4⟩));go_ret2;exact⟨l6 (by rw[aj.out]) rfl,oG,(HK.out.trans k3).trans k4⟩)
end
section
variable{N:Nat->Prop} {w w':World} {F a:Nat} {d d':ag} {room calls fail:Int}
theorem IG (h:aY N w F a d room calls fail) (oF:aH d+3<=2147483648) (at' mask:Int) (p:aJ) (II:p.name.size<=255) (s:ByteArray) (flags m:Int) (hsz:s.size<=4294967280) :
 Calls Tryz.prog 44 #[.pointer (some ⟨F,0,none⟩),.agg #[.int .i64 at',.int .i64 mask],aF p,.string s,.int .i64 flags,.int .i64 m] w
  (lz N w F a (fL d room mask p s flags m).1 room calls fail (.tuple #[.int .i64 (fL d room mask p s flags m).2.1,.int .i64 (fL d room mask p s flags m).2.2])):=by
 obtain⟨pn,pd,pm⟩:=p
 unfold aF
 simp only at II ⊢
 obtain⟨O,hO⟩:∃O,fL d room mask ⟨pn,pd,pm⟩ s flags m=O:=⟨_,rfl⟩
 have aj:=Lib.hid (show O=fL d room mask ⟨pn,pd,pm⟩ s flags m from hO.symm)
 rw[hO]
 unfold fL at aj
 simp only at aj
 have ks:aa af w (w.alloc (.cells #[.int .i64 at',.int .i64 mask] 34)):=(aa.refl _ _).alloc _
 have kz:aa af w ((w.alloc (.cells #[.int .i64 at',.int .i64 mask] 34)).alloc (.cells #[.int .i64 pn,.int .i64 pd,.string pm] 75)):=ks.alloc _
 obtain⟨N1,hsub,hnew,FS⟩:=h.wider kz
 have HW:=Lib.hid (Bx.new (w:=w) ((aa.refl af (w.alloc (.cells #[.int .i64 at',.int .i64 mask] 34))).alloc (.cells #[.int .i64 pn,.int .i64 pd,.string pm] 75)))
 have HP:=Lib.hid (Bx.new (aa.refl af ((w.alloc (.cells #[.int .i64 at',.int .i64 mask] 34)).alloc (.cells #[.int .i64 pn,.int .i64 pd,.string pm] 75))))
 have IJ:(w.alloc (.cells #[.int .i64 at',.int .i64 mask] 34)).heap.size=w.heap.size+1:=by simp
 rw[IJ]at HP
 have jD:=Lib.hid (hnew w.heap.size (Nat.le_refl _) (by first|(simp;done)|(simp;omega)))
 have Dg:=Lib.hid (hnew (w.heap.size+1) (by omega) (by first|(simp;done)|(simp;omega)))
 have HK:=Lib.hid (kz.bC (F:=fun g=>¬N g))
 have HSub:=Lib.hid hsub
 have aC:=Lib.hid FS
 have iB:=Lib.hid (fun wx:World=>hs1 s wx (Nat.le_trans hsz (by decide)))
 have g4:=PJ flags 4
 clear hO hsub hnew h ks kz FS hsz IJ
 go_enter Tryz.func44,Tryz.ntmps44
 go_upto_region 1 with fail
 generalize((w.alloc (.cells #[.int .i64 at',.int .i64 mask] 34)).alloc (.cells #[.int .i64 pn,.int .i64 pd,.string pm] 75))=wc at *
 generalize w.heap.size=W at *
 obtain⟨x4,gW⟩:∃x4,bg flags 4=x4:=⟨_,rfl⟩
 rw[gW]at g4 aj
 clear gW
 cases x4 with
 | false =>
   replace aj:=Lib.hid (show O=(d,0,12)by rw[aj.out,if_pos rfl])
   go_wp2_with fail
   go_ret2
   exact⟨l6 (by rw[aj.out]) (by rw[aj.out]),(by rw[aj.out];exact aC.out.less HSub.out),HK.out⟩
 | true =>
 rw[if_neg (by simp)]at aj
 obtain⟨xs,hxs⟩:∃xs,cg s=xs:=⟨_,rfl⟩
 rw[hxs]at iB aj
 clear hxs
 cases xs with
 | true =>
   replace aj:=Lib.hid (show O=(d,0,15)by rw[aj.out,if_pos rfl])
   go_wp2_with(go_at_call 66;refine(iB.out _).mono ?_;rintro e w' ⟨rfl,rfl⟩)
   go_ret2
   exact⟨l6 (by rw[aj.out]) (by rw[aj.out]),(by rw[aj.out];exact aC.out.less HSub.out),HK.out⟩
 | false =>
 rw[if_neg (by simp)]at aj
 have iC:=Lib.hid (uF aC.out pd 128 (by decide))
 rw[show((128:Nat):Int)=128 from rfl]at iC
 obtain⟨m1,bU⟩:∃m1,cD d pd 128=m1:=⟨_,rfl⟩
 rw[bU]at iC aj
 clear bU
 have p1:=HP.out.cell 1 _ rfl
 go_upto_region 6 with(first|(go_at_call 66;refine(iB.out _).mono ?_;rintro e w' ⟨rfl,rfl⟩)|(go_at_call 67;go_loud(refine iC.out.mono ?_);rintro e w2 ⟨rfl,hk1⟩))
 clear p1 iC iB
 replace aC:=Lib.hid (aC.out.on hk1)
 replace HK:=Lib.hid (HK.out.trans hk1.bC)
 replace HW:=Lib.hid (HW.out.on hk1)
 replace HP:=Lib.hid (HP.out.on hk1)
 clear hk1
 by_cases hz:m1≠0
 ·have hb:(m1 != 0)=true:=by simpa using hz
  rw[if_pos hz]at aj
  clear hz
  go_wp2_with fail
  go_ret2
  exact⟨l6 (by rw[aj.out]) (by rw[aj.out]),(by rw[aj.out];exact aC.out.less HSub.out),HK.out⟩
 rw[if_neg hz]at aj
 obtain rfl:m1=0:=Classical.not_not.1 hz
 clear hz
 have f0:=aC.out.c0
 have b1:=HW.out.cell 1 _ rfl
 go_upto_region 8 with fail
 have jd:=Lib.hid ((aC.out.on (aa.refl af w2).drew).lA fun R hR=>CT hR 1 (bO m mask) ⟨#[]⟩ (by omega) (by decide))
 go_cut [15,16]from 15 to 43 (fun x y wx=>x=.int .i64 (lu d room 1 (bO m mask) ⟨#[]⟩)∧y=.int .i64 (cP d room 1 (bO m mask) ⟨#[]⟩)∧aY N1 wx F a (iq d room 1 (bO m mask) ⟨#[]⟩) room calls fail∧aa (fun g=>¬N1 g) w2 wx)
 case first =>
  generalize lu d room 1 (bO m mask) ⟨#[]⟩=mi at *
  generalize cP d room 1 (bO m mask) ⟨#[]⟩=me at *
  generalize iq d room 1 (bO m mask) ⟨#[]⟩=mt at *
  have d0:=(aC.out.on (aa.refl af w2).drew).c0
  have d1:=(HW.out.on (aa.refl af w2).drew).cell 1 _ rfl
  go_region_held3 (fun wz=>wz.cell? ⟨F,0,none⟩=some (.pointer (some ⟨a,0,none⟩))∧wz.cell? ⟨W,1,none⟩=some (.int .i64 mask)) (refine⟨?_,?_⟩<;>with_reducible assumption)
   (first|(go_at_call 41;refine(IE _ _ _).mono ?_;rintro e wq ⟨rfl,rfl⟩)|(go_at_call 40;refine jd.out.mono ?_;rintro e w4 ⟨rfl,oG,k4⟩;have z0:=oG.c0;have z1:=((HW.out.on (aa.refl af w2).drew).keep k4 (fun hh=>hh jD.out)).cell 1 _ rfl))
  all_goals(go_wp2_with fail;go_meet;exact⟨rfl,rfl,oG,(aa.refl _ _).drew.trans k4⟩)
 case rest =>
  obtain⟨rfl,rfl,FS,k4⟩:=hcut
  replace HK:=Lib.hid (HK.out.trans (k4.mono (fun g _ hg hN=>hg (HSub.out g hN))))
  replace HP:=Lib.hid (HP.out.keep k4 (fun hh=>hh Dg.out))
  clear f0 b1 HW aC jd k4
  obtain⟨me,hme⟩:∃me,cP d room 1 (bO m mask) ⟨#[]⟩=me:=⟨_,rfl⟩
  obtain⟨mi,rm⟩:∃mi,lu d room 1 (bO m mask) ⟨#[]⟩=mi:=⟨_,rfl⟩
  obtain⟨mt,o7⟩:∃mt,iq d room 1 (bO m mask) ⟨#[]⟩=mt:=⟨_,rfl⟩
  rw[o7]at FS
  rw[hme]at aj ⊢
  rw[rm]
  have aC:=Lib.hid FS
  clear FS
  by_cases hz:me≠0
  ·have ht:mt=d:=by rw[<- o7];unfold iq;rw[if_neg (by rw[hme];exact hz)]
   subst ht
   rw[if_pos hz]at aj
   have hb:(me != 0)=true:=by simpa using hz
   clear hz hme rm o7
   go_wp2_with fail
   go_ret2
   exact⟨l6 (by rw[aj.out]) (by rw[aj.out]),(by rw[aj.out];exact aC.out.less HSub.out),HK.out⟩
  rw[if_neg hz]at aj
  obtain rfl:me=0:=Classical.not_not.1 hz
  obtain⟨e1,e2⟩:=Dd hme
  rw[<- o7,e1]at aC
  rw[<- rm,e2]
  have gm:=Lib.hid ((aC.out.on (aa.refl af wc).drew).lA fun R hR=>CW hR pd pm d.length (Nat.le_trans II (by decide)) (by rw[uE];omega) (fun _ h2=>by rw[show nd (d++[aU 1 (bO m mask) ⟨#[]⟩]) d.length=aU 1 (bO m mask) ⟨#[]⟩by rw[iI,if_pos rfl]]at h2;cases h2))
  obtain⟨ee,hee⟩:∃ee,cH (d++[aU 1 (bO m mask) ⟨#[]⟩]) room pd pm d.length=ee:=⟨_,rfl⟩
  obtain⟨ed,IK⟩:∃ed,bM (d++[aU 1 (bO m mask) ⟨#[]⟩]) room pd pm d.length=ed:=⟨_,rfl⟩
  rw[hee,IK]at gm aj
  have wD:=Lib.hid (fun(wx:World) (hx:aY N1 wx F a ed room calls fail)=>hx.lA fun R hR=>CP hR d.length)
  rw[show(if gq ed d.length=0 then gc (gG ed d.length)else ed)=eZ ed d.length from rfl]at wD
  have f0:=aC.out.c0
  have p1:=HP.out.cell 1 _ rfl
  have p2:=HP.out.cell 2 _ rfl
  generalize(d.length:Int)=id at *
  clear hz hme rm o7 hee IK e1 e2 HP
  go_upto_region 11 with fail
  go_still_tail 9,(by kernel_rfl)
  change wpList _ _ _ _ _ wc.drew
  replace HK:Hid (aa (fun g=>¬N g) w wc.drew):=HK.out.drew
  clear f0 p1 p2 aC
  generalize wc.drew=wd at *
  by_cases hz:ee≠0
  ·have hb:(ee != 0)=true:=by simpa using hz
   rw[if_pos hz]at aj
   clear hz
   go_wp2_with(first|(go_at_call 70;go_loud(refine gm.out.mono ?_);rintro e w5 ⟨rfl,fO,k5⟩;have f5:=fO.c0)|(go_at_call 71;go_loud(refine(wD.out _ fO).mono ?_);rintro e w6 ⟨rfl,PK,k6⟩))
   go_ret2
   exact⟨l6 (by rw[aj.out]) (by rw[aj.out]),(by rw[aj.out];exact PK.less HSub.out),HK.out.trans ((k5.trans k6).mono (fun g _ hg hN=>hg (HSub.out g hN)))⟩
  rw[if_neg hz]at aj
  obtain rfl:ee=0:=Classical.not_not.1 hz
  clear hz
  go_wp2_with(go_at_call 70;go_loud(refine gm.out.mono ?_);rintro e w5 ⟨rfl,fO,k5⟩)
  go_ret2
  exact⟨l6 (by rw[aj.out]) (by rw[aj.out]),(by rw[aj.out];exact fO.less HSub.out),HK.out.trans (k5.mono (fun g _ hg hN=>hg (HSub.out g hN)))⟩
end
section
variable{N:Nat->Prop} {w w':World} {F a:Nat} {d d':ag} {room calls fail:Int}
theorem IL (h:aY N w F a d room calls fail) (hc0:0<=calls) (hc1:calls<=4611686018427387904) (oF:aH d+3<=2147483648) (at' mask:Int) (s:ByteArray) (flags m:Int) (hsz:s.size<=4294967280) :
 Calls Tryz.prog 19 #[.pointer (some ⟨F,0,none⟩),.agg #[.int .i64 at',.int .i64 mask],.string s,.int .i64 flags,.int .i64 m] w
  (lz N w F a (fF calls fail d room at' mask s flags m).1 room (kJ calls flags) fail (.tuple #[.int .i64 (fF calls fail d room at' mask s flags m).2.1,.int .i64 (fF calls fail d room at' mask s flags m).2.2])):=by
 obtain⟨O,hO⟩:∃O,fF calls fail d room at' mask s flags m=O:=⟨_,rfl⟩
 obtain⟨ce,hce⟩:∃ce,eG calls fail=ce:=⟨_,rfl⟩
 have aj:=Lib.hid (show O=if tf flags=true∧ce≠0 then(d,0,ce)else jc d room at' mask s flags m by rw[<- hO,<- hce];rfl)
 rw[hO]
 have fG:aa af w (w.alloc (.cells #[.int .i64 at',.int .i64 mask] 34)):=(aa.refl _ _).alloc _
 obtain⟨N1,hsub,hnew,FS⟩:=h.wider fG
 have HW:=Lib.hid (Bx.new (aa.refl af (w.alloc (.cells #[.int .i64 at',.int .i64 mask] 34))))
 have jD:=Lib.hid (hnew w.heap.size (Nat.le_refl _) (by simp))
 have HK:=Lib.hid (fG.bC (F:=fun g=>¬N g))
 have HSub:=Lib.hid hsub
 have HC:=Lib.hid (q9 FS hc0 hc1)
 rw[hce]at HC
 have aC:=Lib.hid FS
 have g12:=uG flags 12
 have g4:=uG flags 4
 have g16:=uG flags 16
 have hal:ni flags=(bg flags 4&&bg flags 16):=rfl
 obtain⟨al,o8⟩:∃al,ni flags=al:=⟨_,rfl⟩
 obtain⟨wE,Dh⟩:∃wE,bg flags 12=wE:=⟨_,rfl⟩
 obtain⟨x4,gW⟩:∃x4,bg flags 4=x4:=⟨_,rfl⟩
 obtain⟨zL,Di⟩:∃zL,bg flags 16=zL:=⟨_,rfl⟩
 have hoc:tf flags=wE:=Dh
 unfold kJ
 rw[hoc]at aj ⊢
 rw[Dh]at g12
 rw[gW]at g4
 rw[Di]at g16
 rw[gW,Di,o8]at hal
 have zM:=Lib.hid (show jc d room at' mask s flags m=if (aQ d at' s (!al)).2≠0 then(d,0,(aQ d at' s (!al)).2)else if (aQ d at' s (!al)).1.node=0 then fL d room mask (aQ d at' s (!al)).1 s flags m else if al=true then(d,0,13)else fM d (aQ d at' s (!al)).1.node flags by unfold jc;rw[o8])
 have uH:=Lib.hid (si d at' s (!al))
 obtain⟨cc,hcc⟩:∃cc,(if wE=true then calls+1 else calls:Int)=cc:=⟨_,rfl⟩
 rw[hcc]
 clear hsub hnew h fG FS hce hO Dh gW Di hoc o8 hc0 hc1
 go_enter Tryz.func19,Tryz.ntmps19
 go_upto_region 1 with fail
 generalize w.alloc (.cells #[.int .i64 at',.int .i64 mask] 34)=wc at *
 generalize w.heap.size=W at *
 cases wE with
 | true =>
   rw[if_pos rfl]at hcc
   subst hcc
   go_upto_region 3 with(go_at_call 38;go_loud(refine HC.out.mono ?_);rintro e wc ⟨rfl,FS,k1⟩;replace HW:=Lib.hid (HW.out.keep k1 (fun hh=>hh jD.out));replace HK:=Lib.hid (HK.out.trans (k1.mono (fun g _ hg hN=>hg (HSub.out g hN)))))
   replace aC:=Lib.hid FS
   clear HC k1 FS
   by_cases hz:ce≠0
   ·have hb:(ce != 0)=true:=by simpa using hz
    rw[if_pos ⟨by simp,hz⟩]at aj
    clear hz
    go_wp2_with fail
    go_ret2
    exact⟨l6 (by rw[aj.out]) (by rw[aj.out]),(by rw[aj.out];exact aC.out.less HSub.out),HK.out⟩
   rw[if_neg (fun x=>hz x.2)]at aj
   obtain rfl:ce=0:=Classical.not_not.1 hz
   clear hz
   rw[zM.out]at aj
   go_upto_region 5 with fail
   go_cut [13]from 13 to 31 (fun x wx=>x=.bool al∧wx=wc)
   case first =>
    cases x4<;>cases zL<;>(obtain rfl:=hal;go_wp2_with fail;go_meet;exact⟨rfl,rfl⟩)
   case rest =>
    obtain⟨rfl,rfl⟩:=hcut
    clear g4 g16 g12 hal zM
    obtain⟨X,hX⟩:∃X,aQ d at' s (!al)=X:=⟨_,rfl⟩
    have aW:=Lib.hid (fun(w1:World) (hk:aa af wc w1)=>(aC.out.on hk).Df at' s (!al) hsz)
    rw[hX]at aW aj uH
    obtain⟨⟨pn,pd,pm⟩,pe⟩:=X
    unfold aF at aW
    simp only at aW aj
    have rq:=Lib.hid hX
    clear hX
    have f0:=aC.out.c0
    have b0:=HW.out.cell 0 _ rfl
    go_upto_region 6 with fail
    go_cut [14,15]from 14 to 44 (fun x y wx=>∃G:Nat,wc.heap.size<=G∧x=.pointer (some ⟨G,0,none⟩)∧y=.int .i64 pe∧Bx wx G [.int .i64 pn,.int .i64 pd,.string pm]∧aa af wc wx)
    case first =>
     have kr:=aa.refl af wc
     have bh:=kr.drew
     have d0:=(aC.out.on bh).c0
     have d1:=(HW.out.on bh).cell 0 _ rfl
     go_region_held3 (fun wz=>wz.cell? ⟨F,0,none⟩=some (.pointer (some ⟨a,0,none⟩))∧wz.cell? ⟨W,0,none⟩=some (.int .i64 at')∧aa af wc wz) (refine⟨?_,?_,?_⟩<;>first|with_reducible assumption|(with_reducible refine(aC.out.on ?_).c0;exact kA)|(with_reducible refine(HW.out.on ?_).cell 0 _ rfl;exact kA)|(exact kA))
      (first|(go_at_call 43;refine(aW.out _ kA).mono ?_;rintro e w2 ⟨rfl,hk2⟩;have bV:aa af wc w2:=aa.trans kA hk2;have zs:=bV.size;have z0:=(aC.out.on bV).c0;have z1:=(HW.out.on bV).cell 0 _ rfl;(try(have yb:=Bx.bW hk2;have y0:=yb.cell 0 _ rfl;have y1:=yb.cell 1 _ rfl;have y2:=yb.cell 2 _ rfl;have yf:=yb.fz))))
     all_goals(go_wp2_with fail;go_meet;refine⟨_,?_,rfl,rfl,?_,?_⟩)
     all_goals first
      | exact Nat.le_refl _
      | exact zs
      | (with_reducible exact Bx.new (aa.refl af _))
      | (exact((yb.put 0 _).put 1 _).put 2 _)
      | (exact kA)
      | skip
    case rest =>
     obtain⟨bn,hG,rfl,rfl,HP,hk1⟩:=hcut
     replace HP:=Lib.hid HP
     clear f0 b0 aW hG
     replace aC:=Lib.hid (aC.out.on hk1)
     replace HK:=Lib.hid (HK.out.trans hk1.bC)
     replace HW:=Lib.hid (HW.out.on hk1)
     by_cases hz:pe≠0
     ·have hb:(pe != 0)=true:=by simpa using hz
      rw[if_pos hz]at aj
      clear hz
      go_wp2_with fail
      go_ret2
      exact⟨l6 (by rw[aj.out]) (by rw[aj.out]),(by rw[aj.out];exact aC.out.less HSub.out),HK.out⟩
     rw[if_neg hz]at aj
     obtain rfl:pe=0:=Classical.not_not.1 hz
     clear hz
     have p0:=HP.out.cell 0 _ rfl
     have p1:=HP.out.cell 1 _ rfl
     have p2:=HP.out.cell 2 _ rfl
     have wF:(pn==0)=decide (pn=0):=by rw[Bool.eq_iff_iff];simp
     by_cases hz:pn=0
     ·rw[decide_eq_true hz]at wF
      rw[if_pos hz]at aj
      have b0:=HW.out.cell 0 _ rfl
      have b1:=HW.out.cell 1 _ rfl
      have bP:=Lib.hid (IG aC.out oF at' mask ⟨pn,pd,pm⟩ uH.out s flags m hsz)
      rw[<- aj.out]at bP
      unfold aF at bP
      simp only at bP
      clear hz
      go_wp2_with(go_at_call 44;go_loud(refine bP.out.mono ?_);rintro e w5 ⟨rfl,fO,k5⟩)
      go_ret2
      exact⟨rfl,fO.less HSub.out,HK.out.trans (k5.mono (fun g _ hg hN=>hg (HSub.out g hN)))⟩
     rw[decide_eq_false hz]at wF
     rw[if_neg hz]at aj
     clear hz
     cases al with
     | true =>
       replace aj:=Lib.hid (show O=(d,0,13)by rw[aj.out,if_pos rfl])
       go_wp2_with fail
       go_ret2
       exact⟨l6 (by rw[aj.out]) (by rw[aj.out]),(by rw[aj.out];exact aC.out.less HSub.out),HK.out⟩
     | false =>
     rw[if_neg (by simp)]at aj
     have fc:=Lib.hid (IM aC.out (by omega) pn flags)
     rw[<- aj.out]at fc
     go_wp2_with(go_at_call 45;go_loud(refine fc.out.mono ?_);rintro e w5 ⟨rfl,fO,k5⟩)
     go_ret2
     exact⟨rfl,fO.less HSub.out,HK.out.trans (k5.mono (fun g _ hg hN=>hg (HSub.out g hN)))⟩
 | false =>
   rw[if_neg (by simp)]at hcc
   subst hcc
   rw[if_neg (fun x=>by simp at x)]at aj
   clear HC
   rw[zM.out]at aj
   go_upto_region 5 with fail
   go_cut [13]from 13 to 31 (fun x wx=>x=.bool al∧wx=wc)
   case first =>
    cases x4<;>cases zL<;>(obtain rfl:=hal;go_wp2_with fail;go_meet;exact⟨rfl,rfl⟩)
   case rest =>
    obtain⟨rfl,rfl⟩:=hcut
    clear g4 g16 g12 hal zM
    obtain⟨X,hX⟩:∃X,aQ d at' s (!al)=X:=⟨_,rfl⟩
    have aW:=Lib.hid (fun(w1:World) (hk:aa af wc w1)=>(aC.out.on hk).Df at' s (!al) hsz)
    rw[hX]at aW aj uH
    obtain⟨⟨pn,pd,pm⟩,pe⟩:=X
    unfold aF at aW
    simp only at aW aj
    have rq:=Lib.hid hX
    clear hX
    have f0:=aC.out.c0
    have b0:=HW.out.cell 0 _ rfl
    go_upto_region 6 with fail
    go_cut [14,15]from 14 to 44 (fun x y wx=>∃G:Nat,wc.heap.size<=G∧x=.pointer (some ⟨G,0,none⟩)∧y=.int .i64 pe∧Bx wx G [.int .i64 pn,.int .i64 pd,.string pm]∧aa af wc wx)
    case first =>
     have kr:=aa.refl af wc
     have bh:=kr.drew
     have d0:=(aC.out.on bh).c0
     have d1:=(HW.out.on bh).cell 0 _ rfl
     go_region_held3 (fun wz=>wz.cell? ⟨F,0,none⟩=some (.pointer (some ⟨a,0,none⟩))∧wz.cell? ⟨W,0,none⟩=some (.int .i64 at')∧aa af wc wz) (refine⟨?_,?_,?_⟩<;>first|with_reducible assumption|(with_reducible refine(aC.out.on ?_).c0;exact kA)|(with_reducible refine(HW.out.on ?_).cell 0 _ rfl;exact kA)|(exact kA))
      (first|(go_at_call 43;refine(aW.out _ kA).mono ?_;rintro e w2 ⟨rfl,hk2⟩;have bV:aa af wc w2:=aa.trans kA hk2;have zs:=bV.size;have z0:=(aC.out.on bV).c0;have z1:=(HW.out.on bV).cell 0 _ rfl;(try(have yb:=Bx.bW hk2;have y0:=yb.cell 0 _ rfl;have y1:=yb.cell 1 _ rfl;have y2:=yb.cell 2 _ rfl;have yf:=yb.fz))))
     all_goals(go_wp2_with fail;go_meet;refine⟨_,?_,rfl,rfl,?_,?_⟩)
     all_goals first
      | exact Nat.le_refl _
      | exact zs
      | (with_reducible exact Bx.new (aa.refl af _))
      | (exact((yb.put 0 _).put 1 _).put 2 _)
      | (exact kA)
      | skip
    case rest =>
     obtain⟨bn,hG,rfl,rfl,HP,hk1⟩:=hcut
     replace HP:=Lib.hid HP
     clear f0 b0 aW hG
     replace aC:=Lib.hid (aC.out.on hk1)
     replace HK:=Lib.hid (HK.out.trans hk1.bC)
     replace HW:=Lib.hid (HW.out.on hk1)
     by_cases hz:pe≠0
     ·have hb:(pe != 0)=true:=by simpa using hz
      rw[if_pos hz]at aj
      clear hz
      go_wp2_with fail
      go_ret2
      exact⟨l6 (by rw[aj.out]) (by rw[aj.out]),(by rw[aj.out];exact aC.out.less HSub.out),HK.out⟩
     rw[if_neg hz]at aj
     obtain rfl:pe=0:=Classical.not_not.1 hz
     clear hz
     have p0:=HP.out.cell 0 _ rfl
     have p1:=HP.out.cell 1 _ rfl
     have p2:=HP.out.cell 2 _ rfl
     have wF:(pn==0)=decide (pn=0):=by rw[Bool.eq_iff_iff];simp
     by_cases hz:pn=0
     ·rw[decide_eq_true hz]at wF
      rw[if_pos hz]at aj
      have b0:=HW.out.cell 0 _ rfl
      have b1:=HW.out.cell 1 _ rfl
      have bP:=Lib.hid (IG aC.out oF at' mask ⟨pn,pd,pm⟩ uH.out s flags m hsz)
      rw[<- aj.out]at bP
      unfold aF at bP
      simp only at bP
      clear hz
      go_wp2_with(go_at_call 44;go_loud(refine bP.out.mono ?_);rintro e w5 ⟨rfl,fO,k5⟩)
      go_ret2
      exact⟨rfl,fO.less HSub.out,HK.out.trans (k5.mono (fun g _ hg hN=>hg (HSub.out g hN)))⟩
     rw[decide_eq_false hz]at wF
     rw[if_neg hz]at aj
     clear hz
     cases al with
     | true =>
       replace aj:=Lib.hid (show O=(d,0,13)by rw[aj.out,if_pos rfl])
       go_wp2_with fail
       go_ret2
       exact⟨l6 (by rw[aj.out]) (by rw[aj.out]),(by rw[aj.out];exact aC.out.less HSub.out),HK.out⟩
     | false =>
     rw[if_neg (by simp)]at aj
     have fc:=Lib.hid (IM aC.out (by omega) pn flags)
     rw[<- aj.out]at fc
     go_wp2_with(go_at_call 45;go_loud(refine fc.out.mono ?_);rintro e w5 ⟨rfl,fO,k5⟩)
     go_ret2
     exact⟨rfl,fO.less HSub.out,HK.out.trans (k5.mono (fun g _ hg hN=>hg (HSub.out g hN)))⟩
end
end Go.Proofs.YtnanhmfpikddkaaGreatDoor
