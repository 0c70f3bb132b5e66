/-
  Layer 6: contracts of files: gone. (Printed by genfiles.py.)
-/
import Derived.Test.YtnanhmfpikddkaaGreatDoorG16
import Derived.Test.YtnanhmfpikddkaaGreatDoorG11
import Derived.Deep.RegionHeld3

set_option linter.unusedSimpArgs false
set_option linter.unusedVariables false
set_option maxRecDepth 100000
set_option maxHeartbeats 4000000
namespace Go.Proofs.YtnanhmfpikddkaaGreatDoor
open Go Go.RowKit
section
variable{N:Nat->Prop} {w w':World} {F a:Nat} {d d':ag} {room calls fail:Int}
theorem IZ (h:aY N w F a d room calls fail) (at' mask:Int) (s:ByteArray) (folder:Bool) (hsz:s.size<=4294967280) :
 Calls Tryz.prog 87 #[.pointer (some ⟨F,0,none⟩),.agg #[.int .i64 at',.int .i64 mask],.string s,.bool folder] w fun e w' =>
  e=.returned (.tuple #[aF (jk d at' s folder).1,.int .i64 (jk d at' s folder).2])∧aa af w w':=by
 have ks:aa af w (w.alloc (.cells #[.int .i64 at',.int .i64 mask] 34)):=(aa.refl _ _).alloc _
 have kz:aa af w ((w.alloc (.cells #[.int .i64 at',.int .i64 mask] 34)).alloc (.cells #[.int .i64 0,.int .i64 0,.string ⟨#[]⟩] 75)):=ks.alloc _
 have aC:=Lib.hid (h.on kz)
 have HW:=Lib.hid (Bx.new (w:=w) ((aa.refl af (w.alloc (.cells #[.int .i64 at',.int .i64 mask] 34))).alloc (.cells #[.int .i64 0,.int .i64 0,.string ⟨#[]⟩] 75)))
 have HR:=Lib.hid (Bx.new (aa.refl af ((w.alloc (.cells #[.int .i64 at',.int .i64 mask] 34)).alloc (.cells #[.int .i64 0,.int .i64 0,.string ⟨#[]⟩] 75))))
 rw[show(w.alloc (.cells #[.int .i64 at',.int .i64 mask] 34)).heap.size=w.heap.size+1 by simp]at HR
 have HK:=Lib.hid kz
 obtain⟨O,hO⟩:∃O,jk d at' s folder=O:=⟨_,rfl⟩
 have aj:=Lib.hid (show O=jk d at' s folder from hO.symm)
 rw[hO]
 unfold jk at aj
 clear hO h ks kz
 go_enter Tryz.func87,Tryz.ntmps87
 go_upto_region 1 with fail
 generalize((w.alloc (.cells #[.int .i64 at',.int .i64 mask] 34)).alloc (.cells #[.int .i64 0,.int .i64 0,.string ⟨#[]⟩] 75))=wc at *
 obtain⟨X,hX⟩:∃X,aL d at' s false=X:=⟨_,rfl⟩
 have aW:=Lib.hid (fun(w1:World) (hk:aa af wc w1)=>(aC.out.on hk).wC at' s false hsz)
 rw[hX]at aW aj
 obtain⟨⟨pn,pd,pm⟩,pe⟩:=X
 unfold aF at aW
 simp only at aW aj
 have rq:=Lib.hid hX
 clear hX
 have f0:=aC.out.c0
 have b0:=HW.out.cell 0 _ rfl
 go_upto_region 1 with fail
 go_cut [10,11]from 10 to 24 (fun x y wx=>∃G:Nat,wc.heap.size<=G∧x=.pointer (some ⟨G,0,none⟩)∧y=.int .i64 pe∧Bx wx G [.int .i64 pn,.int .i64 pd,.string pm]∧aa af wc wx)
 case first =>
  have kr:=aa.refl af wc
  have bh:=kr.drew
  have d0:=(aC.out.on bh).c0
  have d1:=(HW.out.on bh).cell 0 _ rfl
  go_region_held3 (fun wz=>wz.cell? ⟨F,0,none⟩=some (.pointer (some ⟨a,0,none⟩))∧wz.cell? ⟨w.heap.size,0,none⟩=some (.int .i64 at')∧aa af wc wz) (refine⟨?_,?_,?_⟩<;>first|with_reducible assumption|(with_reducible refine(aC.out.on ?_).c0;exact kA)|(with_reducible refine(HW.out.on ?_).cell 0 _ rfl;exact kA)|(exact kA))
   (first|(go_at_call 27;refine(aW.out _ kA).mono ?_;rintro e w2 ⟨rfl,hk2⟩;have bV:aa af wc w2:=aa.trans kA hk2;have zs:=bV.size;have z0:=(aC.out.on bV).c0;have z1:=(HW.out.on bV).cell 0 _ rfl;(try(have yb:=Bx.bW hk2;have y0:=yb.cell 0 _ rfl;have y1:=yb.cell 1 _ rfl;have y2:=yb.cell 2 _ rfl;have yf:=yb.fz))))
  all_goals(go_wp2_with fail;go_meet;refine⟨_,?_,rfl,rfl,?_,?_⟩)
  all_goals first
   | exact Nat.le_refl _
   | exact zs
   | (with_reducible exact Bx.new (aa.refl af _))
   | (exact((yb.put 0 _).put 1 _).put 2 _)
   | (exact kA)
   | skip
 case rest =>
  obtain⟨bn,hG,rfl,rfl,HP,hk1⟩:=hcut
  replace HP:=Lib.hid HP
  have PS:¬bn=w.heap.size+1:=by have:=HR.out.lt;omega
  clear f0 b0 aW hG
  replace aC:=Lib.hid (aC.out.on hk1)
  replace HK:=Lib.hid (HK.out.trans hk1.bC)
  replace HW:=Lib.hid (HW.out.on hk1)
  replace HR:=Lib.hid (HR.out.on hk1)
  by_cases hz:pe≠0
  ·have hb:(pe != 0)=true:=by simpa using hz
   rw[if_pos hz]at aj
   clear hz
   have r0:=HR.out.cell 0 _ rfl
   have r1:=HR.out.cell 1 _ rfl
   have r2:=HR.out.cell 2 _ rfl
   have rf:=HR.out.fz
   have rl:=HR.out.lt
   have kk:=HK.out
   go_wp2_with fail
   (try simp only[Exit.inBlock,Exit.then])
   refine bodyPost_ret (v:=.tuple #[aF .no,.int .i64 pe]) ?_ rfl ?_
   ·rw[results_cell_tmp rfl];unfold aF aJ.no;go_simp
   ·refine⟨by rw[aj.out],?_⟩
    repeat exact kA
  rw[if_neg hz]at aj
  obtain rfl:pe=0:=Classical.not_not.1 hz
  clear hz
  obtain⟨ik,im,il,ih,iz,hik,jN,_,hie⟩:=aC.out.tell pn
  obtain⟨ie,kL⟩:∃ie,(if has d pn then 0 else 12:Int)=ie:=⟨_,rfl⟩
  have cw:=Lib.hid (fun(w1:World) (hk:aa af wc w1)=>(aC.out.on hk).info pn)
  rw[hie,kL]at cw
  rw[<- hik]at aj
  have wG:=Lib.hid hik
  have zP:=Lib.hid jN
  have zQ:=Lib.hid hie
  have zR:=Lib.hid kL
  clear hie kL hik jN
  have f0:=aC.out.c0
  have b0:=HP.out.cell 0 _ rfl
  go_upto_region 4 with fail
  go_cut [12,13]from 12 to 38 (fun x y wx=>∃G:Nat,wc.heap.size<=G∧x=.pointer (some ⟨G,0,none⟩)∧y=.int .i64 ie∧Bx wx G [.int .i64 ik,.int .i64 im,.int .i64 il,.int .i64 ih,.int .i64 iz]∧aa af wc wx)
  case first =>
   have kr:=aa.refl af wc
   have bh:=kr.drew
   have d0:=(aC.out.on bh).c0
   have d1:=(HP.out.on bh).cell 0 _ rfl
   go_region_held3 (fun wz=>wz.cell? ⟨F,0,none⟩=some (.pointer (some ⟨a,0,none⟩))∧wz.cell? ⟨bn,0,none⟩=some (.int .i64 pn)∧aa af wc wz) (refine⟨?_,?_,?_⟩<;>first|with_reducible assumption|(with_reducible refine(aC.out.on ?_).c0;exact kA)|(with_reducible refine(HP.out.on ?_).cell 0 _ rfl;exact kA)|(exact kA))
    (first|(go_at_call 28;refine(cw.out _ kA).mono ?_;rintro e w2 ⟨rfl,hk2⟩;have bV:aa af wc w2:=aa.trans kA hk2;have zs:=bV.size;have z0:=(aC.out.on bV).c0;have z1:=(HP.out.on bV).cell 0 _ rfl;(try(have yb:=Bx.bW hk2;have y0:=yb.cell 0 _ rfl;have y1:=yb.cell 1 _ rfl;have y2:=yb.cell 2 _ rfl;have y3:=yb.cell 3 _ rfl;have y4:=yb.cell 4 _ rfl;have yf:=yb.fz))))
   all_goals(go_wp2_with fail;go_meet;refine⟨_,?_,rfl,rfl,?_,?_⟩)
   all_goals first
    | exact Nat.le_refl _
    | exact zs
    | (with_reducible exact Bx.new (aa.refl af _))
    | (exact((((yb.put 0 _).put 1 _).put 2 _).put 3 _).put 4 _)
    | (exact kA)
    | skip
  case rest =>
   obtain⟨Dj,hG,rfl,rfl,HI,hk1⟩:=hcut
   replace HI:=Lib.hid HI
   clear f0 b0 cw hG
   replace aC:=Lib.hid (aC.out.on hk1)
   replace HK:=Lib.hid (HK.out.trans hk1.bC)
   replace HW:=Lib.hid (HW.out.on hk1)
   replace HR:=Lib.hid (HR.out.on hk1)
   replace HP:=Lib.hid (HP.out.on hk1)
   clear hk1
   have i0:=HI.out.cell 0 _ rfl
   have p0:=HP.out.cell 0 _ rfl
   have p1:=HP.out.cell 1 _ rfl
   have p2:=HP.out.cell 2 _ rfl
   cases folder
   ·-- folder false,kind 2: 
    by_cases hk:ik=2
    ·have hb:(ik==2)=true:=by simpa using hk
     replace aj:=Lib.hid (show O=(.no,15)by rw[aj.out,if_neg (by simp),if_pos ⟨rfl,hk⟩])
     clear hk
     have r0:=HR.out.cell 0 _ rfl
     have r1:=HR.out.cell 1 _ rfl
     have r2:=HR.out.cell 2 _ rfl
     have rf:=HR.out.fz
     have rl:=HR.out.lt
     have kk:=HK.out
     go_wp2_with fail
     (try simp only[Exit.inBlock,Exit.then])
     refine bodyPost_ret (v:=.tuple #[aF .no,.int .i64 15]) ?_ rfl ?_
     ·rw[results_cell_tmp rfl];unfold aF aJ.no;go_simp
     ·refine⟨by rw[aj.out],?_⟩
      repeat exact kA
    have hb:(ik==2)=false:=by simpa using hk
    have hb2:(ik != 2)=true:=by simpa using hk
    replace aj:=Lib.hid (show O=if pm=⟨#[]⟩then(.no,23)else(⟨pn,pd,pm⟩,cD d pd 128)by rw[aj.out,if_neg (by simp),if_neg (fun h=>hk h.2)])
    clear hk
    by_cases hm:pm=⟨#[]⟩
    ·have he:=isEmpty_eq pm
     rw[decide_eq_true hm]at he
     replace aj:=Lib.hid (show O=(.no,23)by rw[aj.out,if_pos hm])
     clear hm
     have r0:=HR.out.cell 0 _ rfl
     have r1:=HR.out.cell 1 _ rfl
     have r2:=HR.out.cell 2 _ rfl
     have rf:=HR.out.fz
     have rl:=HR.out.lt
     have kk:=HK.out
     go_wp2_with fail
     (try simp only[Exit.inBlock,Exit.then])
     refine bodyPost_ret (v:=.tuple #[aF .no,.int .i64 23]) ?_ rfl ?_
     ·rw[results_cell_tmp rfl];unfold aF aJ.no;go_simp
     ·refine⟨by rw[aj.out],?_⟩
      repeat exact kA
    have he:=isEmpty_eq pm
    rw[decide_eq_false hm]at he
    replace aj:=Lib.hid (show O=(⟨pn,pd,pm⟩,cD d pd 128)by rw[aj.out,if_neg hm])
    clear hm
    have th:=Lib.hid (fun(wx:World) (k:aa af wc wx)=>uF (aC.out.on k) pd 128 (by decide))
    have hgs:=Lib.hid (fun(wx:World) (k:aa af wc wx)=>(⟨(HP.out.on k).cell 0 _ rfl,(HP.out.on k).cell 1 _ rfl,(HP.out.on k).cell 2 _ rfl,(HR.out.on k).cell 0 _ rfl,(HR.out.on k).cell 1 _ rfl,(HR.out.on k).cell 2 _ rfl,(HR.out.on k).fz⟩ :
     wx.cell? ⟨bn,0,none⟩=some (.int .i64 pn)∧wx.cell? ⟨bn,1,none⟩=some (.int .i64 pd)∧wx.cell? ⟨bn,2,none⟩=some (.string pm)∧wx.cell? ⟨w.heap.size+1,0,none⟩=some (.int .i64 0)∧wx.cell? ⟨w.heap.size+1,1,none⟩=some (.int .i64 0)∧wx.cell? ⟨w.heap.size+1,2,none⟩=some (.string ⟨#[]⟩)∧∀j,wx.frozen? ⟨w.heap.size+1,j,none⟩=false))
    have kc:=aa.refl af wc
    have r0:=HR.out.cell 0 _ rfl
    have r1:=HR.out.cell 1 _ rfl
    have r2:=HR.out.cell 2 _ rfl
    have rf:=HR.out.fz
    have rl:=HR.out.lt
    have pl:=HP.out.lt
    have kz:=HK.out
    go_upto_region 11 with fail
    go_region_with(go_at_call 67;refine(th.out _ kA).mono ?_;rintro e w2 ⟨rfl,hk2⟩;obtain⟨z0,z1,z2,x0,x1,x2,xf⟩:=hgs.out w2 (aa.trans kA hk2))
    all_goals
     replace kz:=kz.trans (aa.trans kA hk2)
     go_wp2_with fail
     (try simp only[Exit.inBlock,Exit.then])
     refine bodyPost_ret (v:=.tuple #[aF ⟨pn,pd,pm⟩,.int .i64 (cD d pd 128)]) ?_ rfl ?_
     ·rw[results_cell_tmp rfl];unfold aF;go_simp
     ·refine⟨by rw[aj.out],?_⟩
      repeat exact kA
   ·-- folder true,kind 2: 
    by_cases hk:ik=2
    ·have hb:(ik==2)=true:=by simpa using hk
     have hb2:(ik != 2)=false:=by simpa using hk
     replace aj:=Lib.hid (show O=if pm=⟨#[]⟩then(.no,23)else(⟨pn,pd,pm⟩,cD d pd 128)by rw[aj.out,if_neg (fun h=>h.2 hk),if_neg (by simp)])
     clear hk
     by_cases hm:pm=⟨#[]⟩
     ·have he:=isEmpty_eq pm
      rw[decide_eq_true hm]at he
      replace aj:=Lib.hid (show O=(.no,23)by rw[aj.out,if_pos hm])
      clear hm
      have r0:=HR.out.cell 0 _ rfl
      have r1:=HR.out.cell 1 _ rfl
      have r2:=HR.out.cell 2 _ rfl
      have rf:=HR.out.fz
      have rl:=HR.out.lt
      have kk:=HK.out
      go_wp2_with fail
      (try simp only[Exit.inBlock,Exit.then])
      refine bodyPost_ret (v:=.tuple #[aF .no,.int .i64 23]) ?_ rfl ?_
      ·rw[results_cell_tmp rfl];unfold aF aJ.no;go_simp
      ·refine⟨by rw[aj.out],?_⟩
       repeat exact kA
     have he:=isEmpty_eq pm
     rw[decide_eq_false hm]at he
     replace aj:=Lib.hid (show O=(⟨pn,pd,pm⟩,cD d pd 128)by rw[aj.out,if_neg hm])
     clear hm
     have th:=Lib.hid (fun(wx:World) (k:aa af wc wx)=>uF (aC.out.on k) pd 128 (by decide))
     have hgs:=Lib.hid (fun(wx:World) (k:aa af wc wx)=>(⟨(HP.out.on k).cell 0 _ rfl,(HP.out.on k).cell 1 _ rfl,(HP.out.on k).cell 2 _ rfl,(HR.out.on k).cell 0 _ rfl,(HR.out.on k).cell 1 _ rfl,(HR.out.on k).cell 2 _ rfl,(HR.out.on k).fz⟩ :
      wx.cell? ⟨bn,0,none⟩=some (.int .i64 pn)∧wx.cell? ⟨bn,1,none⟩=some (.int .i64 pd)∧wx.cell? ⟨bn,2,none⟩=some (.string pm)∧wx.cell? ⟨w.heap.size+1,0,none⟩=some (.int .i64 0)∧wx.cell? ⟨w.heap.size+1,1,none⟩=some (.int .i64 0)∧wx.cell? ⟨w.heap.size+1,2,none⟩=some (.string ⟨#[]⟩)∧∀j,wx.frozen? ⟨w.heap.size+1,j,none⟩=false))
     have kc:=aa.refl af wc
     have r0:=HR.out.cell 0 _ rfl
     have r1:=HR.out.cell 1 _ rfl
     have r2:=HR.out.cell 2 _ rfl
     have rf:=HR.out.fz
     have rl:=HR.out.lt
     have pl:=HP.out.lt
     have kz:=HK.out
     go_upto_region 11 with fail
     go_region_with(go_at_call 67;refine(th.out _ kA).mono ?_;rintro e w2 ⟨rfl,hk2⟩;obtain⟨z0,z1,z2,x0,x1,x2,xf⟩:=hgs.out w2 (aa.trans kA hk2))
     all_goals
      replace kz:=kz.trans (aa.trans kA hk2)
      go_wp2_with fail
      (try simp only[Exit.inBlock,Exit.then])
      refine bodyPost_ret (v:=.tuple #[aF ⟨pn,pd,pm⟩,.int .i64 (cD d pd 128)]) ?_ rfl ?_
      ·rw[results_cell_tmp rfl];unfold aF;go_simp
      ·refine⟨by rw[aj.out],?_⟩
       repeat exact kA
    have hb:(ik != 2)=true:=by simpa using hk
    replace aj:=Lib.hid (show O=(.no,14)by rw[aj.out,if_pos ⟨rfl,hk⟩])
    clear hk
    have r0:=HR.out.cell 0 _ rfl
    have r1:=HR.out.cell 1 _ rfl
    have r2:=HR.out.cell 2 _ rfl
    have rf:=HR.out.fz
    have rl:=HR.out.lt
    have kk:=HK.out
    go_wp2_with fail
    (try simp only[Exit.inBlock,Exit.then])
    refine bodyPost_ret (v:=.tuple #[aF .no,.int .i64 14]) ?_ rfl ?_
    ·rw[results_cell_tmp rfl];unfold aF aJ.no;go_simp
    ·refine⟨by rw[aj.out],?_⟩
     repeat exact kA
end
end Go.Proofs.YtnanhmfpikddkaaGreatDoor
