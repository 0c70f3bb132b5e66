/-
  Contracts of the reference for layer 3: lists of entries.
-/
import Derived.Test.YtnanhmfpikddkaaGreatDoorG01
import Derived.BigQuiet
import Derived.Deep.QuietTactic
import Derived.StillTailTactics

set_option linter.unusedSimpArgs false
set_option linter.unusedVariables false
set_option maxRecDepth 100000
namespace Go.Proofs.YtnanhmfpikddkaaGreatDoor
open Go.RowKit
theorem xg:pT Tryz.prog aK 55 60 (ByteArray.empty,0) 24 :=
 .of (.agg #[.string ByteArray.empty,.int .i64 0]) Tryz.underlying55 (by kernel_rfl) rfl
set_option maxHeartbeats 400000 in
theorem xh (S:Nat->Prop) (w:World) (p:Option Addr) (c:Nat) (es:List aD) (name:ByteArray) (h:bt aK S w p c es) (hr:cq es) :
 Calls Tryz.prog 155 #[.slice p es.length c,.string name] w fun e w'=>e=.returned (.int .i64 (mB es name))∧w=w':=by
 have hcap:=h.cap
 have hmax:=h.max
 unfold maxLen at hmax
 go_enter Tryz.func155,Tryz.ntmps155
 go_wp2
 go_loop [5] (fun i=>∃k:Nat,k<=es.length∧i=.int .i64 k∧∀j x,j<k->es[j]?=some x->¬x.1=name) (fun i=>es.length-(intOf i).toNat)
 case atStart=>exact⟨0,Nat.zero_le _,rfl,fun j _ hj=>by omega⟩
 case round =>
  obtain⟨k,hk,rfl,hno⟩:=hrel
  have Hno:=Lib.hid hno
  clear hno
  by_cases hlt:k<es.length
  ·obtain⟨x,hx⟩:∃x,es[k]?=some x:=⟨_,List.getElem?_eq_getElem hlt⟩
   obtain⟨g,off,rfl,hS,hg,c0,c1⟩:=h.iW hx
   have Hx:=Lib.hid hx
   have Hq:=Lib.hid (toList_eq x.1 name)
   clear hx
   by_cases he:x.1=name
   ·have hb:(x.1.toList==name.toList)=true:=by rw[toList_eq];simpa using he
    have He:=Lib.hid he
    clear he
    go_wp2
    go_ret
    obtain⟨e1,e2⟩:=MY hr Hx.out He.out
    refine⟨cR ?_,rfl⟩
    rw[mB,e2,e1];rfl
   ·have hb:(x.1.toList==name.toList)=false:=by rw[toList_eq];simpa using he
    go_wp2
    go_round
    case rel =>
     refine⟨k+1,by omega,by go_num,fun j y hj hy=>?_⟩
     by_cases e:j=k
     ·subst e;rw[Hx.out]at hy;cases hy;exact he
     ·exact Hno.out j y (by omega) hy
    case measure=>simp[intOf];omega
  ·go_wp2
   go_ret
   refine⟨cR ?_,rfl⟩
   rw[mB,MZ (fun j x hx=>Hno.out j x (by have:=(List.getElem?_eq_some_iff.1 hx).1;omega) hx)];rfl
set_option maxHeartbeats 1000000 in
theorem Ex (S:Nat->Prop) (w:World) (p:Option Addr) (c:Nat) (es:List aD) (name:ByteArray) (h:bt aK S w p c es) (hr:cq es) (hn:es.length<4294967295) (hSw:∀g,w.heap.size<=g->S g) :
 Calls Tryz.prog 124 #[.slice p es.length c,.string name] w fun e w' =>
  ∃v',e=.returned (.tuple #[v',.int .i64 (dI es name)])∧Sl aK S w' v' (bQ es name)∧aa af w w':=by
 have hcap:=h.cap
 have hmax:=h.max
 unfold maxLen at hmax
 have hneg:=MX (l:=es) (name:=name)
 cases hh:bu es name with
 | false =>
   have He:Hid (dI es name=12):=by rw[dI,hh];rfl
   have hse:bQ es name=es:=by
    unfold bQ
    refine List.filter_eq_self.2 fun x hx=>?_
    cases hc:decide (x.1=name)with
    | false=>rfl
    | true =>
      have:bu es name=true:=List.any_eq_true.2 ⟨x,hx,hc⟩
      rw[this]at hh;cases hh
   have sR:=Lib.hid hse
   rw[hh]at hneg
   have SY:mB es name<0:=by simpa using hneg
   clear hh hse hneg
   go_enter Tryz.func124,Tryz.ntmps124
   go_wp2_with(go_at_call 155;refine(xh _ _ _ _ _ _ h hr).mono ?_;rintro e w1 ⟨rfl,rfl⟩)
   go_ret2
   exact⟨_,by rw[He.out];rfl,by rw[sR.out];exact⟨p,c,rfl,h⟩,aa.refl _ _⟩
 | true =>
   have He:Hid (dI es name=0):=by rw[dI,hh];rfl
   rw[hh]at hneg
   have SY:0<=mB es name:=by simpa using hneg
   clear hh hneg
   go_enter Tryz.func124,Tryz.ntmps124
   go_wp2_with(go_at_call 155;refine(xh _ _ _ _ _ _ h hr).mono ?_;rintro e w1 ⟨rfl,rfl⟩)
   go_loopw [6,7] (fun o i wr=>∃k:Nat,k<=es.length∧i=.int .i64 k∧Own aK 60 (fun g=>w.heap.size<=g) wr o (bQ (es.take k) name)∧aa af w wr) (fun _ i _=>es.length-(intOf i).toNat)
   case atStart=>exact⟨0,Nat.zero_le _,rfl,Own.nil _ _ _ _,aa.refl _ _⟩
   case round =>
    rename_i wr
    obtain⟨k,hk,rfl,ho,hkp⟩:=hrel
    have cV:=Lib.hid hkp
    have hsz:=hkp.size
    clear hkp
    by_cases hlt:k<es.length
    ·obtain⟨x,hx⟩:∃x,es[k]?=some x:=⟨_,List.getElem?_eq_getElem hlt⟩
     obtain⟨g,off,rfl,hS,hg,c0,c1⟩:=(h.ai cV.out).iW hx
     have nu:=Lib.hid (Bv es (fun e=>!decide (e.1=name)) k x hx)
     have hfl:(bQ (es.take k) name).length<=k:=Nat.le_trans (List.length_filter_le _ _) (by simp;omega)
     clear hx
     by_cases he:x.1=name
     ·have hb:(x.1.toList==name.toList)=true:=by rw[toList_eq];simpa using he
      have sZ:=Lib.hid he
      clear he
      go_wp2
      go_roundw
      case rel=>exact⟨k+1,by omega,by go_num,by unfold bQ at ho ⊢;rw[nu.out];simpa[sZ.out]using ho,cV.out⟩
      case measure=>simp[intOf];omega
     ·have hb:(x.1.toList==name.toList)=false:=by rw[toList_eq];simpa using he
      have sZ:=Lib.hid he
      clear he
      go_wp2_with(at_builtin;refine mw rfl (.tmp 26) (.tmp 31) rfl xg (ho.keep ((aa.refl af _).alloc _) (fun _ _ h=>h)) (nM (S:=fun _=>True) [x] #[.string x.1,.int .i64 x.2] rfl 1 rfl trivial (by decide)).sl rfl rfl (by simp;omega) (by simp[maxLen];omega) (by simp;omega) ?_;intro v' w' ho' hk' hf')
      go_roundw
      case rel =>
       refine⟨k+1,by omega,by go_num,?_,cV.out.alloc _ |>.step hk' (fun g hg=>Or.inr (ho.2 g hg))⟩
       unfold bQ at ho' ⊢
       rw[nu.out]
       have:(if (!decide (x.1=name))=true then[x]else[])=[x]:=by rw[if_pos];simpa using sZ.out
       rw[this]
       exact ho'
      case measure=>simp[intOf];omega
    ·go_wp2
     go_ret2
     refine⟨_,by rw[He.out];rfl,?_,cV.out⟩
     rw[List.take_of_length_le (by omega)]at ho
     exact ho.sl.mono (fun g hg _=>hSw g hg)
set_option maxHeartbeats 1000000 in
theorem SZ (S:Nat->Prop) (w:World) (p:Option Addr) (c:Nat) (es:List aD) (name:ByteArray) (n:Int) (h:bt aK S w p c es) (hr:cq es) (hn:es.length<4294967295) (hSw:∀g,w.heap.size<=g->S g) :
 Calls Tryz.prog 132 #[.slice p es.length c,.string name,.int .i64 n] w fun e w' =>
  ∃v',e=.returned (.tuple #[v',.int .i64 (dI es name)])∧Sl aK S w' v' (eW es name n)∧aa af w w':=by
 have hcap:=h.cap
 have hmax:=h.max
 have hm2:=hmax
 unfold maxLen at hmax
 have aT:=rQ hr name
 have hfind:=fun wx hx=>xh S wx p c es name hx hr
 cases hh:bu es name with
 | false =>
   have He:Hid (dI es name=12):=by rw[dI,hh];rfl
   have hse:eW es name n=es:=by
    unfold eW
    conv=>rhs;rw[<- List.map_id es]
    refine List.map_congr_left fun x hx=>?_
    rw[if_neg,id]
    intro e
    have:bu es name=true:=List.any_eq_true.2 ⟨x,hx,by simp[e]⟩
    rw[this]at hh;cases hh
   have sR:=Lib.hid hse
   simp only[mB,hh,Bool.false_eq_true,if_false]at hfind
   have kV:=Lib.hid hfind
   clear hh hse aT hfind
   go_enter Tryz.func132,Tryz.ntmps132
   go_wp2_with(go_at_call 155;refine(kV.out _ h).mono ?_;rintro e w1 ⟨rfl,rfl⟩)
   go_ret2
   exact⟨_,by rw[He.out];rfl,by rw[sR.out];exact⟨p,c,rfl,h⟩,aa.refl _ _⟩
 | true =>
   have He:Hid (dI es name=0):=by rw[dI,hh];rfl
   simp only[mB,hh,if_true]at hfind
   rw[hh]at aT
   cases hl:es[lb es name]? with
   | none=>rw[hl]at aT;cases aT
   | some x =>
     rw[hl]at aT
     have hx:x.1=name:=by simpa using aT.symm
     have BL:=Lib.hid (Bu hr name n hl hx)
     have jy:=(List.getElem?_eq_some_iff.1 hl).1
     have Hl:=Lib.hid hl
     have kV:=Lib.hid hfind
     clear hh aT hl hx hfind
     go_enter Tryz.func132,Tryz.ntmps132
     go_wp2_with(first|(go_at_call 155;refine(kV.out _ h).mono ?_;rintro e w1 ⟨rfl,rfl⟩)|(at_builtin;refine mw rfl (.tmp 16) (.tmp 17) rfl xg (Own.nil aK 60 (fun g=>w.heap.size<=g) _) ⟨_,_,rfl,h⟩ rfl rfl (Nat.le_refl _) (by simp;omega) (by simp;omega) ?_;intro v' w' ho' hk' hf';obtain⟨g,cp,cur,hv,cI,hg,hcap,hmax,hsz,fZ⟩:=ho'.row (by simp;omega);subst hv;have hfz:∀j,w'.frozen? ⟨g,j,none⟩=false:=fun j=>frozen_of_row w' g j cur _ hg;obtain⟨_,_,hgo,_,_,c0,c1⟩:=ho'.at.iW (by rw[List.nil_append];exact Hl.out);cases hgo;rw[Nat.zero_add]at c0 c1;rw[List.nil_append]at ho'))
     go_ret2
     refine⟨_,by rw[He.out];rfl,?_,?_⟩
     ·have:=ho'.stored (lb es name) 1 x (x.1,n) (.int .i64 n) Hl.out (by decide) rfl
      rw[BL.out]at this
      exact this.sl.mono (fun g hg _=>hSw g hg)
     ·exact(hk'.mono (fun k _ hk=>by cases hk)).setCell (Or.inr cI) _
set_option maxHeartbeats 1000000 in
theorem xj (S:Nat->Prop) (w:World) (p:Option Addr) (c:Nat) (es:List aD) (name:ByteArray) (n:Int) (h:bt aK S w p c es) (hr:cq es) (hn:es.length<4294967295) (hSw:∀g,w.heap.size<=g->S g)
 (hm:name.size<=maxLen) :
 Calls Tryz.prog 120 #[.slice p es.length c,.string name,.int .i64 n] w fun e w' =>
  ∃v',e=.returned (.tuple #[v',.int .i64 (bw es name)])∧Sl aK S w' v' (gh es name n)∧aa af w w':=by
 have hcap:=h.cap
 have hmax:=h.max
 unfold maxLen at hmax
 have hfind:=fun wx hx=>xh S wx p c es name hx hr
 by_cases qP:255<name.size
 ·have he:bw es name=18:=by simp[bw,qP]
  have He:=Lib.hid he
  clear he hfind
  go_enter Tryz.func120,Tryz.ntmps120
  go_wp2
  go_ret2
  exact⟨_,by rw[He.out];rfl,by rw[gh,if_neg (by rw[He.out];decide)];exact⟨p,c,rfl,h⟩,aa.refl _ _⟩
 ·cases hok:fJ name with
  | false =>
    have he:bw es name=11:=by simp[bw,qP,hok]
    have hname:=KY name w hm
    rw[hok]at hname
    have He:=Lib.hid he
    clear he hfind hok
    go_enter Tryz.func120,Tryz.ntmps120
    go_wp2_with(go_at_call 154;refine hname.mono ?_;rintro e w1 ⟨rfl,rfl⟩)
    go_ret2
    exact⟨_,by rw[He.out];rfl,by rw[gh,if_neg (by rw[He.out];decide)];exact⟨p,c,rfl,h⟩,aa.refl _ _⟩
  | true =>
    have hname:=KY name w hm
    rw[hok]at hname
    cases hh:bu es name with
    | true =>
      have he:bw es name=13:=by simp[bw,qP,hok,hh]
      simp only[mB,hh,if_true]at hfind
      have He:=Lib.hid he
      have kV:=Lib.hid hfind
      clear he hfind hok hh
      go_enter Tryz.func120,Tryz.ntmps120
      go_wp2_with(first|(go_at_call 154;refine hname.mono ?_;rintro e w1 ⟨rfl,rfl⟩)|(go_at_call 155;refine(kV.out _ h).mono ?_;rintro e w1 ⟨rfl,rfl⟩))
      go_ret2
      exact⟨_,by rw[He.out];rfl,by rw[gh,if_neg (by rw[He.out];decide)];exact⟨p,c,rfl,h⟩,aa.refl _ _⟩
    | false =>
      have he:bw es name=0:=by simp[bw,qP,hok,hh]
      simp only[mB,hh,Bool.false_eq_true,if_false]at hfind
      have He:=Lib.hid he
      have kV:=Lib.hid hfind
      clear he hfind hok hh
      go_enter Tryz.func120,Tryz.ntmps120
      go_wp2_with(first|(go_at_call 154;refine hname.mono ?_;rintro e w1 ⟨rfl,rfl⟩)|(go_at_call 155;refine(kV.out _ h).mono ?_;rintro e w1 ⟨rfl,rfl⟩))
      go_loopw [8,9] (fun o i wr=>∃k:Nat,k<=es.length∧i=.int .i64 k∧Own aK 60 (fun g=>w.heap.size<=g) wr o ((es.take k).filter (fun e=>bD e.1 name))∧aa af w wr) (fun _ i _=>es.length-(intOf i).toNat)
      case atStart=>exact⟨0,Nat.zero_le _,rfl,Own.nil _ _ _ _,aa.refl _ _⟩
      case round =>
       rename_i wr
       obtain⟨k,hk,rfl,ho,hkp⟩:=hrel
       have cV:=Lib.hid hkp
       have hsz:=hkp.size
       clear hkp
       have hfl:((es.take k).filter (fun e=>bD e.1 name)).length<=k:=Nat.le_trans (List.length_filter_le _ _) (by simp;omega)
       by_cases hlt:k<es.length
       ·obtain⟨x,hx⟩:∃x,es[k]?=some x:=⟨_,List.getElem?_eq_getElem hlt⟩
        obtain⟨g,off,rfl,hS,hg,c0,c1⟩:=(h.ai cV.out).iW hx
        have nu:=Lib.hid (Bv es (fun e=>bD e.1 name) k x hx)
        have qi:=FW x.1 name
        clear hx
        cases hp:bD x.1 name with
        | false =>
          rw[hp]at qi
          have Hp:=Lib.hid hp
          clear hp
          go_wp2
          go_roundw
          case rel=>exact⟨k+1,by omega,by go_num,by rw[nu.out,Hp.out];simpa using ho,cV.out⟩
          case measure=>simp[intOf];omega
        | true =>
          rw[hp]at qi
          have Hp:=Lib.hid hp
          clear hp
          go_wp2_with(at_builtin;refine mw rfl (.tmp 37) (.tmp 42) rfl xg (ho.keep ((aa.refl af _).alloc _) (fun _ _ h=>h)) (nM (S:=fun _=>True) [x] #[.string x.1,.int .i64 x.2] rfl 1 rfl trivial (by decide)).sl rfl rfl (by simp;omega) (by simp[maxLen];omega) (by simp;omega) ?_;intro v' w' ho' hk' hf')
          go_roundw
          case rel =>
           refine⟨k+1,by omega,by go_num,?_,cV.out.alloc _ |>.step hk' (fun g hg=>Or.inr (ho.2 g hg))⟩
           rw[nu.out,Hp.out]
           exact ho'
          case measure=>simp[intOf];omega
       ·rw[List.take_of_length_le (by omega)]at ho hfl
        go_wp2_with(at_builtin;refine mw rfl (.tmp 44) (.tmp 48) rfl xg (ho.keep ((aa.refl af _).alloc _) (fun _ _ h=>h)) (nM (S:=fun _=>True) [(name,n)] #[.string name,.int .i64 n] rfl 1 rfl trivial (by decide)).sl rfl rfl (by simp;omega) (by simp[maxLen];omega) (by simp;omega) ?_;intro v1 w1 mQ hk1 dK)
        have KZ:Hid (aa af w w1):=(cV.out.alloc _).step hk1 (fun g hg=>Or.inr (ho.2 g hg))
        have S0:=KZ.out.size
        have bU:(List.filter (fun e=>bD e.1 name) es++[(name,n)]).length<=es.length+1:=by
         have:=List.length_filter_le (fun e:aD=>bD e.1 name) es
         rw[List.length_append,List.length_singleton];omega
        have K3:Own aK 60 (fun g=>w.heap.size<=g) w1 v1 (List.filter (fun e=>bD e.1 name) es++[(name,n)]++(es.take 0).filter (fun e=>bD name e.1)):=by simpa using mQ
        clear ho mQ hk1 dK cV
        go_loopw [8,10] (fun o i wr=>∃k:Nat,k<=es.length∧i=.int .i64 k∧Own aK 60 (fun g=>w.heap.size<=g) wr o (List.filter (fun e=>bD e.1 name) es++[(name,n)]++(es.take k).filter (fun e=>bD name e.1))∧aa af w wr) (fun _ i _=>es.length-(intOf i).toNat)
        case atStart=>exact⟨0,Nat.zero_le _,rfl,K3,KZ.out⟩
        case round =>
         clear K3
         obtain⟨k2,hk2,rfl,mR,hkp⟩:=hrel
         have cV:=Lib.hid hkp
         have s7:=hkp.size
         clear hkp
         have Wh:(List.filter (fun e=>bD e.1 name) es++[(name,n)]++(es.take k2).filter (fun e=>bD name e.1)).length<=es.length+1+k2:=by
          have:=List.length_filter_le (fun e:aD=>bD name e.1) (es.take k2)
          rw[List.length_take]at this
          rw[List.length_append];omega
         have S1:Hid (∀l:List aD,List.filter (fun e=>bD e.1 name) es++[(name,n)]++((es.take k2).filter (fun e=>bD name e.1)++l)=List.filter (fun e=>bD e.1 name) es++[(name,n)]++(es.take k2).filter (fun e=>bD name e.1)++l):=fun l=>(List.append_assoc ..).symm
         by_cases pU:k2<es.length
         ·obtain⟨x,hx⟩:∃x,es[k2]?=some x:=⟨_,List.getElem?_eq_getElem pU⟩
          obtain⟨g,off,rfl,hS,hg,c0,c1⟩:=(h.ai cV.out).iW hx
          have nu:=Lib.hid (Bv es (fun e=>bD name e.1) k2 x hx)
          have hgt:(!(Op.bytesLess x.1.toList name.toList||x.1.toList==name.toList))=bD name x.1:=by
           rw[FW,toList_eq]
           cases h1:bD name x.1 with
           | true=>simp[yw h1,(ne_of_lt h1).symm]
           | false =>
             cases h2:bD x.1 name with
             | true=>rfl
             | false=>simp[yx h2 h1]
          clear hx
          cases hp:bD name x.1 with
          | false =>
            rw[hp]at hgt
            have Hp:=Lib.hid hp
            clear hp
            go_wp2
            go_roundw
            case rel=>exact⟨k2+1,by omega,by go_num,by rw[nu.out,Hp.out];simpa using mR,cV.out⟩
            case measure=>simp[intOf];omega
          | true =>
            rw[hp]at hgt
            have Hp:=Lib.hid hp
            clear hp
            go_wp2_with(at_builtin;refine mw rfl (.tmp 63) (.tmp 68) rfl xg (mR.keep ((aa.refl af _).alloc _) (fun _ _ h=>h)) (nM (S:=fun _=>True) [x] #[.string x.1,.int .i64 x.2] rfl 1 rfl trivial (by decide)).sl rfl rfl (by simp;omega) (by simp only[maxLen,List.length_singleton];omega) (by simp only[List.length_singleton];omega) ?_;intro v' w' ho' hk' hf')
            go_roundw
            case rel =>
             refine⟨k2+1,by omega,by go_num,?_,cV.out.alloc _ |>.step hk' (fun g hg=>Or.inr (mR.2 g hg))⟩
             rw[nu.out,Hp.out,if_pos rfl,S1.out]
             exact ho'
            case measure=>simp[intOf];omega
         ·rw[List.take_of_length_le (by omega)]at mR
          go_wp2
          go_ret2
          refine⟨_,by rw[He.out];rfl,?_,cV.out⟩
          rw[gh,if_pos He.out]
          exact mR.sl.mono (fun g hg _=>hSw g hg)
def kU (w:World) (a:Addr) (v:Value) (es:List aD):Prop:=mz (fun g=>v.ownBlock=some g) w a v es
theorem mz.d {G:Nat->Prop} {w:World} {a:Addr} {v:Value} {es:List aD} (h:mz G w a v es):kU w a v es :=
 ⟨h.cell,h.free,h.spot,h.own.mono (fun _ hg _=>hg),h.rising,h.names,h.apart⟩
theorem kU.any {G:Nat->Prop} {w:World} {a:Addr} {v:Value} {es:List aD} (h:kU w a v es) (hG:∀g,v.ownBlock=some g->G g):mz G w a v es :=
 ⟨h.cell,h.free,h.spot,h.own.mono (fun g hg _=>hG g hg),h.rising,h.names,h.apart⟩
theorem kU.lt {w:World} {a:Addr} {v:Value} {es:List aD} (h:kU w a v es):a.block<w.heap.size:=dm h.cell
theorem kU.sP {w:World} {a:Addr} {v:Value} {es:List aD} (h:kU w a v es):∀g,v.ownBlock=some g->g<w.heap.size:=h.own.lt
theorem kU.keep {F:Nat->Prop} {w w':World} {a:Addr} {v:Value} {es:List aD} (h:kU w a v es) (hk:aa F w w') (ha:¬F a.block) (ho:∀g,v.ownBlock=some g->¬F g):kU w' a v es :=
 ⟨(hk.cell h.lt ha).trans h.cell,(hk.frozen h.lt ha).trans h.free,h.spot,h.own.keep hk ho,h.rising,h.names,h.apart⟩
def lU (w w':World) (a:Addr) (v:Value) (es':List aD):Prop :=
 ∃v',kU w' a v' es'∧aa (fun g=>v.ownBlock=some g) (w.setCell a v') w'∧∀g,v'.ownBlock=some g->v.ownBlock=some g∨w.heap.size<=g
theorem lV.d {w w':World} {a:Addr} {v:Value} {es':List aD} (h:lV (fun g=>v.ownBlock=some g∨w.heap.size<=g) w w' a es'):lU w w' a v es':=by
 obtain⟨v',h1,h2⟩:=h
 refine⟨v',h1.d,h2.mono (fun g hg h=>h.elim id (fun h=>?_)),h1.own.2⟩
 have:(w.setCell a v').heap.size=w.heap.size:=by simp[World.setCell]
 omega
theorem FU (w:World) (a:Addr) (v:Value) (es:List aD) (name:ByteArray) (n:Int) (h:kU w a v es) (hn:es.length<4294967295) :
 Calls Tryz.prog 108 #[.pointer (some a),.string name,.int .i64 n] w fun e w'=>e=.returned (.int .i64 (bw es name))∧lU w w' a v (gh es name n) :=
 (MI _ w a v es name n (h.any (G:=fun g=>v.ownBlock=some g∨w.heap.size<=g) (fun g hg=>.inl hg)) hn (fun g hg=>.inr hg)).mono fun _ _ ⟨h1,h2⟩=>⟨h1,h2.d⟩
theorem MJ (w:World) (a:Addr) (v:Value) (es:List aD) (name:ByteArray) (n:Int) (h:kU w a v es) (hn:es.length<4294967295) :
 Calls Tryz.prog 156 #[.pointer (some a),.string name,.int .i64 n] w fun e w'=>e=.returned (.int .i64 (dI es name))∧lU w w' a v (eW es name n) :=
 (MK _ w a v es name n (h.any (G:=fun g=>v.ownBlock=some g∨w.heap.size<=g) (fun g hg=>.inl hg)) hn).mono fun _ _ ⟨h1,h2⟩=>⟨h1,h2.d⟩
theorem yu (w:World) (a:Addr) (v:Value) (es:List aD) (name:ByteArray) (h:kU w a v es) (hn:es.length<4294967295) :
 Calls Tryz.prog 109 #[.pointer (some a),.string name] w fun e w'=>e=.returned (.int .i64 (dI es name))∧lU w w' a v (bQ es name) :=
 (ML _ w a v es name (h.any (G:=fun g=>v.ownBlock=some g∨w.heap.size<=g) (fun g hg=>.inl hg)) hn).mono fun _ _ ⟨h1,h2⟩=>⟨h1,h2.d⟩
theorem lU.keeps {F:Nat->Prop} {W w w':World} {a:Addr} {v:Value} {es':List aD} (h:lU w w' a v es') (hk:aa F W w) (ha:F a.block∨W.heap.size<=a.block) (hv:∀g,v.ownBlock=some g->F g∨W.heap.size<=g):aa F W w':=by
 obtain⟨v',_,h2,_⟩:=h
 exact(hk.setCell ha v').step h2 hv
theorem lU.size {w w':World} {a:Addr} {v:Value} {es':List aD} (h:lU w w' a v es'):w.heap.size<=w'.heap.size:=by
 obtain⟨v',_,h2,_⟩:=h
 have:=h2.size
 simpa[World.setCell]using this
theorem MM {s:ByteArray} (h:fJ s=true):¬255<s.size:=by simp[fJ]at h;omega
theorem mA {l:List aD} {name:ByteArray}:bw l name=0↔fJ name=true∧bu l name=false:=by
 unfold bw
 constructor
 ·intro h
  split at h;· cases h
  split at h;· cases h
  split at h;· cases h
  ·next h2 h3=>exact⟨by simpa using h2,by simpa using h3⟩
 ·rintro⟨h1,h2⟩
  rw[if_neg (MM h1),if_neg (by simp[h1]),if_neg (by simp[h2])]
theorem kU.new (w:World) (t:TypeId):kU (w.alloc (.cells #[.slice none 0 0] t)) ⟨w.heap.size,0,none⟩ (.slice none 0 0) [] :=
 ⟨cell_of_row _ _ _ _ _ _ (heap_alloc_new w _),frozen_of_row _ _ _ _ _ (heap_alloc_new w _),rfl,Own.nil _ _ _ _,List.Pairwise.nil,(fun _ h=>by cases h),(fun h=>by simp[Value.ownBlock]at h)⟩
end Go.Proofs.YtnanhmfpikddkaaGreatDoor
namespace Go.Proofs.YtnanhmfpikddkaaGreatDoor
structure Nd where
 kind:Int
 mode:Int
 holds:Int
 data:ByteArray
 ah:List aD
def Nd.gone:Nd:=⟨0,0,0,⟨#[]⟩,[]⟩
def Nd.gS (n:Nd) (m:Int):Nd:=⟨n.kind,m,n.holds,n.data,n.ah⟩
def Nd.bT (n:Nd) (h:Int):Nd:=⟨n.kind,n.mode,h,n.data,n.ah⟩
def Nd.dN (n:Nd) (s:ByteArray):Nd:=⟨n.kind,n.mode,n.holds,s,n.ah⟩
def Nd.dZ (n:Nd) (l:List aD):Nd:=⟨n.kind,n.mode,n.holds,n.data,l⟩
abbrev ag:=List Nd
def nd (d:ag) (i:Int):Nd:=if 0<=i then(d[i.toNat]?).getD Nd.gone else Nd.gone
def has (d:ag) (i:Int):Prop:=(nd d i).kind≠0
instance (d:ag) (i:Int):Decidable (has d i):=inferInstanceAs (Decidable (_≠_))
def aX (d:ag) (i:Int) (n:Nd):ag:=if 0<=i then d.set i.toNat n else d
def cu (f:Nd->Nat) (d:ag):Nat:=(d.map f).sum
def eY (i:Int) (n:Nd):Nat:=n.ah.countP fun e=>decide (e.2=i)
def cnt (d:ag) (i:Int):Nat:=cu (eY i) d
def links (d:ag) (i:Int):Nat:=(if i=1 then 1 else 0)+cnt d i
def dU (n:Nd):Nat:=n.data.size+cQ n.ah
def used (d:ag):Nat:=cu dU d
def iX (n:Nd):Nat:=if n.kind=0 then 0 else 1
def count (d:ag):Nat:=cu iX d
def bJ (n:Nd):Nat:=1+n.holds.toNat+n.ah.length
def aH (d:ag):Nat:=cu bJ d
theorem pV {d:ag} {i:Int} (h:¬(0<=i∧i.toNat<d.length)):nd d i=Nd.gone:=by
 unfold nd
 split
 ·rw[List.getElem?_eq_none (by omega)];rfl
 ·rfl
theorem bF {d:ag} {i:Int} (h:has d i):0<=i∧i.toNat<d.length:=by
 by_cases hh:0<=i∧i.toNat<d.length
 ·exact hh
 ·unfold has at h;rw[pV hh]at h;exact absurd rfl h
theorem sU {d:ag} {i:Int} (h0:0<=i) (h:i.toNat<d.length):d[i.toNat]?=some (nd d i):=by
 unfold nd
 rw[if_pos h0,List.getElem?_eq_getElem h];rfl
theorem Gl {d:ag} {i:Nat} {n:Nd} (h:d[i]?=some n):nd d i=n:=by
 simp[nd,h]
theorem jl (d:ag) (i:Int) (n:Nd):(aX d i n).length=d.length:=by
 unfold aX;split<;>simp
theorem gu {d:ag} {i:Int} (h0:0<=i) (h:i.toNat<d.length) (n:Nd) (j:Int):nd (aX d i n) j=if j=i then n else nd d j:=by
 unfold nd aX
 rw[if_pos h0]
 by_cases hj:0<=j
 ·rw[if_pos hj,if_pos hj]
  by_cases e:j=i
  ·subst e;simp[h]
  ·have:i.toNat≠j.toNat:=by omega
   simp[e,this]
 ·rw[if_neg hj,if_neg hj,if_neg (by omega)]
theorem Nv (f:Nd->Nat) (d:ag) (i:Nat) (n o:Nd) (h:d[i]?=some o):cu f (d.set i n)+f o=cu f d+f n:=by
 induction d generalizing i with
 | nil=>simp at h
 | cons a d ih =>
   cases i with
   | zero=>simp at h;subst h;simp[cu];omega
   | succ i =>
     simp at h
     have:=ih i h
     simp[cu]at this ⊢
     omega
theorem pY (f:Nd->Nat) {d:ag} {i:Int} (h0:0<=i) (h:i.toNat<d.length) (n:Nd):cu f (aX d i n)+f (nd d i)=cu f d+f n:=by
 unfold aX
 rw[if_pos h0]
 exact Nv f d _ n _ (sU h0 h)
theorem uk (f:Nd->Nat) (d:ag) (n:Nd):cu f (d++[n])=cu f d+f n:=by
 simp[cu]
theorem sS (f:Nd->Nat) {d:ag} {i:Int} (h0:0<=i) (h:i.toNat<d.length):f (nd d i)<=cu f d:=by
 have:=pY f h0 h Nd.gone
 have hg:=pY (fun n=>f n) h0 h (nd d i)
 have h2:∀(l:ag) (k:Nat) (o:Nd),l[k]?=some o->f o<=cu f l:=by
  intro l
  induction l with
  | nil=>intro k o h;simp at h
  | cons a l ih =>
    intro k o h
    cases k with
    | zero=>simp at h;subst h;simp[cu]
    | succ k =>
      simp at h
      have:=ih k o h
      simp[cu]at this ⊢
      omega
 exact h2 d _ _ (sU h0 h)
theorem Nw {f:Nd->Nat} {d:ag}:cu f d=0↔∀n∈d,f n=0:=by
 induction d with
 | nil=>simp[cu]
 | cons a d ih =>
   simp only[cu,List.map_cons,List.sum_cons,List.mem_cons,forall_eq_or_imp]at ih ⊢
   rw[Nat.add_eq_zero_iff,ih]
theorem vQ {i:Int} {n:Nd}:0<eY i n↔∃e∈n.ah,e.2=i:=by
 simp[eY,List.countP_pos_iff]
theorem mD {d:ag} {i:Int}:0<cnt d i↔∃j e,e∈(nd d j).ah∧e.2=i:=by
 rw[Nat.pos_iff_ne_zero,Ne,cnt,Nw]
 constructor
 ·intro h
  simp only[Classical.not_forall]at h
  obtain⟨n,hn,hz⟩:=h
  obtain⟨e,he,hi⟩:=vQ.1 (Nat.pos_of_ne_zero hz)
  obtain⟨j,hj⟩:=List.mem_iff_getElem?.1 hn
  exact⟨j,e,by rw[Gl hj];exact he,hi⟩
 ·rintro⟨j,e,he,hi⟩ h
  have hr:0<=j∧j.toNat<d.length:=by
   by_cases hh:0<=j∧j.toNat<d.length
   ·exact hh
   ·rw[pV hh]at he;cases he
  have:=h (nd d j) (List.mem_of_getElem? (sU hr.1 hr.2))
  have h2:=vQ.2 ⟨e,he,hi⟩
  omega
def fS (d:ag) (i:Int):Prop:=has d i∧links d i=0∧(nd d i).holds=0
def bK (d:ag):Prop:=∀i,¬fS d i
def kill (d:ag) (i:Int):ag:=aX d i Nd.gone
inductive cJ:ag->ag->Prop
 | refl (d:ag):cJ d d
 | step {d d':ag} (i:Int):fS d i->cJ (kill d i) d'->cJ d d'
theorem cJ.trans {a b c:ag} (h:cJ a b) (k:cJ b c):cJ a c:=by
 induction h with
 | refl=>exact k
 | step i hi _ ih=>exact .step i hi (ih k)
theorem cJ.one {d:ag} {i:Int} (h:fS d i):cJ d (kill d i):=.step i h (.refl _)
theorem kT {d:ag} {i:Int} (h:has d i) (j:Int):nd (kill d i) j=if j=i then Nd.gone else nd d j:=gu (bF h).1 (bF h).2 _ _
theorem sV (d:ag) (i:Int):(kill d i).length=d.length:=jl _ _ _
theorem jZ {d:ag} {i j:Int} (h:has d i):has (kill d i) j↔j≠i∧has d j:=by
 unfold has
 rw[kT h]
 by_cases e:j=i
 ·simp[e,Nd.gone]
 ·simp[e]
theorem Gm {d:ag} {i:Int} (h:has d i) (j:Int):cnt (kill d i) j+eY j (nd d i)=cnt d j:=by
 have:=pY (eY j) (bF h).1 (bF h).2 Nd.gone
 simpa[cnt,kill,eY,Nd.gone]using this
theorem vP {d:ag} {i:Int} (h:has d i) (j:Int):links (kill d i) j+eY j (nd d i)=links d j:=by
 have:=Gm h j
 unfold links
 omega
theorem rT {d:ag} {i:Int} (h:has d i):count (kill d i)+1=count d:=by
 have:=pY iX (bF h).1 (bF h).2 Nd.gone
 have h1:iX (nd d i)=1:=by unfold iX;rw[if_neg h]
 rw[h1]at this
 simpa[count,kill,iX,Nd.gone]using this
theorem Gn {d:ag} {i:Int} (h:has d i):used (kill d i)+dU (nd d i)=used d:=by
 have:=pY dU (bF h).1 (bF h).2 Nd.gone
 have h1:dU Nd.gone=0:=rfl
 rw[h1]at this
 simpa[used,kill]using this
theorem Gi {d:ag} {i:Int} (h:has d i):aH (kill d i)<=aH d:=by
 have:=pY bJ (bF h).1 (bF h).2 Nd.gone
 have h1:bJ Nd.gone=1:=rfl
 have h2:1<=bJ (nd d i):=by unfold bJ;omega
 unfold aH kill at *
 omega
theorem fS.other {d:ag} {i j:Int} (hi:fS d i) (hj:has d j) (hne:i≠j):fS (kill d j) i:=by
 obtain⟨h1,h2,h3⟩:=hi
 refine⟨(jZ hj).2 ⟨hne,h1⟩,?_,?_⟩
 ·have:=vP hj i;omega
 ·rw[kT hj,if_neg hne];exact h3
theorem Nx {d:ag} {i j:Int} (hi:has d i) (hj:has d j) (hne:i≠j):kill (kill d i) j=kill (kill d j) i:=by
 have:=bF hi
 have:=bF hj
 unfold kill aX
 rw[if_pos (by omega),if_pos (by omega),if_pos (by omega),if_pos (by omega)]
 exact List.set_comm _ _ (by omega)
theorem cJ.normal (d:ag):∃d',cJ d d'∧bK d':=by
 generalize hn:count d=n
 induction n generalizing d with
 | zero =>
   refine⟨d,.refl d,fun i hi=>?_⟩
   have:=rT hi.1
   omega
 | succ n ih =>
   by_cases h:bK d
   ·exact⟨d,.refl d,h⟩
   ·simp only[bK,Classical.not_forall,Classical.not_not]at h
    obtain⟨i,hi⟩:=h
    have:=rT hi.1
    obtain⟨d',h1,h2⟩:=ih (kill d i) (by omega)
    exact⟨d',.step i hi h1,h2⟩
theorem cJ.unique {d a b:ag} (ha:cJ d a) (hb:cJ d b) (na:bK a) (nb:bK b):a=b:=by
 generalize hn:count d=n
 induction n using Nat.strongRecOn generalizing d a b with
 | ind n ih =>
   cases ha with
   | refl =>
     cases hb with
     | refl=>rfl
     | step j hj _=>exact absurd hj (na j)
   | step i hi ha' =>
     cases hb with
     | refl=>exact absurd hi (nb i)
     | step j hj hb' =>
       have ci:=rT hi.1
       have cj:=rT hj.1
       by_cases e:i=j
       ·subst e;exact ih _ (by omega) ha' hb' na nb rfl
       ·obtain⟨c,hc,nc⟩:=cJ.normal (kill (kill d i) j)
        have h1:=ih _ (by omega) ha' (.step j (hj.other hi.1 (fun h=>e h.symm)) hc) na nc rfl
        rw[Nx hi.1 hj.1 e]at hc
        have h2:=ih _ (by omega) hb' (.step i (hi.other hj.1 e) hc) nb nc rfl
        exact h1.trans h2.symm
noncomputable def gc (d:ag):ag:=Classical.choose (cJ.normal d)
theorem rN (d:ag):cJ d (gc d):=(Classical.choose_spec (cJ.normal d)).1
theorem Ny (d:ag):bK (gc d):=(Classical.choose_spec (cJ.normal d)).2
theorem BQ {d d':ag} (h:cJ d d') (hn:bK d'):gc d=d':=(rN d).unique h (Ny d) hn
theorem BM {d:ag} (h:bK d):gc d=d:=BQ (.refl d) h
structure iV (n:Nd):Prop where
 um:0<=n.kind
 pZ:n.kind<=3
 gone:n.kind=0->n=Nd.gone
 mV:0<=n.mode
 mW:n.mode<=4095
 holds:0<=n.holds
 data:n.data.size<=4194304
 BR:n.kind=2->n.data=⟨#[]⟩
 flat:n.kind≠2->n.ah=[]
 rising:cq n.ah
 names:∀e∈n.ah,fJ e.1=true
theorem iV.none:iV Nd.gone:=⟨by decide,by decide,fun _=>rfl,by decide,by decide,by decide,by decide,(fun h=>by cases h),fun _=>rfl,List.Pairwise.nil,(fun _ h=>by cases h)⟩
def cY (d:ag) (j i:Int):Prop:=(nd d i).kind=2∧∃e∈(nd d j).ah,e.2=i
structure aG (d:ag):Prop where
 two:2<=d.length
 zero:nd d 0=Nd.gone
 root:(nd d 1).kind=2
 node:∀i,iV (nd d i)
 tgt:∀i e,e∈(nd d i).ah->has d e.2∧e.2≠1
 single:∀i,(nd d i).kind=2->links d i<=1
 oT:∀i,Acc (cY d) i
theorem aG.pos {d:ag} (h:aG d) {i:Int} (hi:has d i):1<=i:=by
 have:=bF hi
 by_cases e:i=0
 ·subst e;rw[has,h.zero]at hi;exact absurd rfl hi
 ·omega
theorem aG.Gp {d:ag}:¬fS d 1:=fun h=>by have:=h.2.1;unfold links at this;simp at this
theorem aG.kill {d:ag} (h:aG d) {i:Int} (hi:fS d i):aG (kill d i):=by
 have hg:=hi.1
 have hne:i≠1:=fun e=>by subst e;exact aG.Gp hi
 have hpos:=h.pos hg
 refine⟨by rw[sV];exact h.two,?_,?_,fun j=>?_,fun j e he=>?_,fun j hj=>?_,fun j=>?_⟩
 ·rw[kT hg,if_neg (by omega)];exact h.zero
 ·rw[kT hg,if_neg (fun e=>hne e.symm)];exact h.root
 ·rw[kT hg];split
  ·exact iV.none
  ·exact h.node j
 ·rw[kT hg]at he
  split at he
  ·cases he
  ·obtain⟨h1,h2⟩:=h.tgt j e he
   refine⟨(jZ hg).2 ⟨fun e1=>?_,h1⟩,h2⟩
   have:0<cnt d i:=mD.2 ⟨j,e,he,e1⟩
   have:=hi.2.1
   unfold links at this
   omega
 ·rw[kT hg]at hj
  split at hj
  ·cases hj
  ·have:=h.single j hj
   have:=vP hg j
   omega
 ·have:=h.oT j
  induction this with
  | intro j _ ih =>
    refine⟨j,fun k hk=>ih k ?_⟩
    obtain⟨h1,e,he,h2⟩:=hk
    rw[kT hg]at h1 he
    split at h1
    ·cases h1
    ·split at he
     ·cases he
     ·exact⟨h1,e,he,h2⟩
theorem aG.kills {d d':ag} (h:aG d) (k:cJ d d'):aG d':=by
 induction k with
 | refl=>exact h
 | step i hi _ ih=>exact ih (h.kill hi)
theorem cJ.length {d d':ag} (k:cJ d d'):d'.length=d.length:=by
 induction k with
 | refl=>rfl
 | step i _ _ ih=>rw[ih,sV]
theorem cJ.aH {d d':ag} (k:cJ d d'):aH d'<=aH d:=by
 induction k with
 | refl=>exact Nat.le_refl _
 | step i hi _ ih=>exact Nat.le_trans ih (Gi hi.1)
theorem cJ.was {d d':ag} (k:cJ d d') {i:Int} (h:has d' i):has d i∧nd d' i=nd d i:=by
 induction k with
 | refl=>exact⟨h,rfl⟩
 | step j hj _ ih =>
   obtain⟨h1,h2⟩:=ih h
   obtain⟨h3,h4⟩:=(jZ hj.1).1 h1
   exact⟨h4,by rw[h2,kT hj.1,if_neg h3]⟩
theorem jm (d:ag):d.length<=aH d:=by
 induction d with
 | nil=>simp
 | cons a d ih =>
   simp[aH,cu]at ih ⊢
   have:1<=bJ a:=by unfold bJ;omega
   omega
theorem BS {d:ag} (h:aG d):used d<=4194304*aH d:=by
 have hn:∀n∈d,iV n:=fun n hn=>by
  obtain⟨j,hj⟩:=List.mem_iff_getElem?.1 hn
  have:=h.node j
  rwa [Gl hj]at this
 clear h
 induction d with
 | nil=>simp[used,cu]
 | cons a d ih =>
   have ih:=ih (fun n h=>hn n (List.mem_cons_of_mem _ h))
   have ha:=hn a List.mem_cons_self
   have h2:cQ a.ah<=255*a.ah.length:=by
    have:∀l:List aD,(∀e∈l,fJ e.1=true)->cQ l<=255*l.length:=by
     intro l hl
     induction l with
     | nil=>simp[cQ]
     | cons x l ih =>
       have h1:=ih (fun e h=>hl e (List.mem_cons_of_mem _ h))
       have h2:=hl x List.mem_cons_self
       simp[fJ]at h2
       simp[cQ]at h1 ⊢
       omega
    exact this _ ha.names
   have h3:=ha.data
   simp only[used,aH,cu,List.map_cons,List.sum_cons]at ih ⊢
   have h4:dU a<=4194304*bJ a:=by unfold dU bJ;omega
   rw[Nat.mul_add]
   omega
end Go.Proofs.YtnanhmfpikddkaaGreatDoor
namespace Go.Proofs.YtnanhmfpikddkaaGreatDoor
open Go.RowKit
inductive Tag where
 | none|disk|map|node (i:Int)|data (i:Int)|dir (i:Int)
structure RD where
 b:Nat
 kv:Kv
 g:Int->Nat
 dv:Int->Value
 ev:Int->Value
 tag:Nat->Tag
def RD.F (R:RD):Nat->Prop:=fun x=>R.tag x≠.none
def RD.N (R:RD) (i:Int):Nat->Prop:=fun x=>R.tag x=.node i∨R.tag x=.data i∨R.tag x=.dir i
structure kZ (w:World) (g:Nat) (dv ev:Value) (n:Nd) (lk up:Int):Prop where
 kind:w.cell? ⟨g,0,none⟩=some (.int .i64 n.kind)
 mode:w.cell? ⟨g,1,none⟩=some (.int .i64 n.mode)
 links:w.cell? ⟨g,2,none⟩=some (.int .i64 lk)
 holds:w.cell? ⟨g,3,none⟩=some (.int .i64 n.holds)
 data:w.cell? ⟨g,4,none⟩=some dv
 own:eu (fun _=>True) w dv n.data
 dir:kU w ⟨g,5,none⟩ ev n.ah
 up:w.cell? ⟨g,6,none⟩=some (.int .i64 up)
 fz:∀j,w.frozen? ⟨g,j,none⟩=false
theorem kZ.lt {w:World} {g:Nat} {dv ev:Value} {n:Nd} {lk up:Int} (h:kZ w g dv ev n lk up):g<w.heap.size:=dm h.kind
theorem kZ.keep {F:Nat->Prop} {w w':World} {g:Nat} {dv ev:Value} {n:Nd} {lk up:Int} (h:kZ w g dv ev n lk up) (k:aa F w w') (hg:¬F g) (hd:∀x,dv.ownBlock=some x->¬F x) (he:∀x,ev.ownBlock=some x->¬F x) :
 kZ w' g dv ev n lk up:=by
 have hc:∀j,w'.cell? ⟨g,j,none⟩=w.cell? ⟨g,j,none⟩:=fun j=>k.cell (p:=⟨g,j,none⟩) h.lt hg
 have hf:∀j,w'.frozen? ⟨g,j,none⟩=w.frozen? ⟨g,j,none⟩:=fun j=>k.frozen (p:=⟨g,j,none⟩) h.lt hg
 exact⟨(hc 0).trans h.kind,(hc 1).trans h.mode,(hc 2).trans h.links,(hc 3).trans h.holds,(hc 4).trans h.data,h.own.keep k hd,h.dir.keep k hg he,(hc 6).trans h.up,fun j=>(hf j).trans (h.fz j)⟩
structure aS (R:RD) (w:World) (a:Nat) (d:ag) (room us:Int) (lk up:Int->Int):Prop where
 l:w.cell? ⟨a,0,none⟩=some (.map (some R.b))
 next:w.cell? ⟨a,1,none⟩=some (.int .i64 d.length)
 used:w.cell? ⟨a,2,none⟩=some (.int .i64 us)
 room:w.cell? ⟨a,3,none⟩=some (.int .i64 room)
 fz:∀j,w.frozen? ⟨a,j,none⟩=false
 jn:R.tag a=.disk
 jo:R.tag R.b=.map
 map:gj w R.b R.kv
 get:∀i,gJ R.kv i=if has d i then some (.pointer (some ⟨R.g i,0,none⟩))else none
 len:R.kv.length=count d
 lY:∀i,has d i->R.tag (R.g i)=.node i
 jq:∀i,has d i->∀x,(R.dv i).ownBlock=some x->R.tag x=.data i
 jL:∀i,has d i->∀x,(R.ev i).ownBlock=some x->R.tag x=.dir i
 node:∀i,has d i->kZ w (R.g i) (R.dv i) (R.ev i) (nd d i) (lk i) (up i)
 top:∀x,w.heap.size<=x->R.tag x=.none
section
variable{R:RD} {w w':World} {a:Nat} {d:ag} {room us:Int} {lk up:Int->Int}
theorem aS.alt (h:aS R w a d room us lk up):a<w.heap.size:=dm h.l
theorem aS.keep {F:Nat->Prop} (h:aS R w a d room us lk up) (k:aa F w w') (hF:∀x,x<w.heap.size->F x->R.tag x=.none):aS R w' a d room us lk up:=by
 have hA:¬F a:=fun hf=>by have:=hF a h.alt hf;rw[h.jn]at this;cases this
 have hB:¬F R.b:=fun hf=>by have:=hF R.b h.map.lt hf;rw[h.jo]at this;cases this
 have hc:∀j,w'.cell? ⟨a,j,none⟩=w.cell? ⟨a,j,none⟩:=fun j=>k.cell (p:=⟨a,j,none⟩) h.alt hA
 have hf:∀j,w'.frozen? ⟨a,j,none⟩=w.frozen? ⟨a,j,none⟩:=fun j=>k.frozen (p:=⟨a,j,none⟩) h.alt hA
 refine⟨(hc 0).trans h.l,(hc 1).trans h.next,(hc 2).trans h.used,(hc 3).trans h.room,fun j=>(hf j).trans (h.fz j),h.jn,h.jo,h.map.keep k hB,h.get,h.len,h.lY,h.jq,h.jL,fun i hi=>?_,fun x hx=>h.top x (Nat.le_trans k.size hx)⟩
 have hn:=h.node i hi
 refine hn.keep k (fun hf=>?_) (fun x hx hf=>?_) (fun x hx hf=>?_)
 ·have:=hF _ hn.lt hf;rw[h.lY i hi]at this;cases this
 ·have:=hF _ (hn.own.lt x hx) hf;rw[h.jq i hi x hx]at this;cases this
 ·have:=hF _ (hn.dir.sP x hx) hf;rw[h.jL i hi x hx]at this;cases this
theorem aS.ai (h:aS R w a d room us lk up) (k:aa af w w'):aS R w' a d room us lk up:=h.keep k (fun _ _ h=>h.elim)
structure cW (R:RD) (w:World) (R':RD) (w':World):Prop where
 keeps:aa R.F w w'
 same:∀x,x<w.heap.size->R'.tag x=R.tag x
theorem cW.refl (R:RD) (w:World):cW R w R w:=⟨aa.refl _ _,fun _ _=>rfl⟩
theorem cW.of (k:aa R.F w w'):cW R w R w':=⟨k,fun _ _=>rfl⟩
theorem cW.vR (k:aa af w w'):cW R w R w':=⟨k.bC,fun _ _=>rfl⟩
theorem cW.trans {R' R'':RD} {w'':World} (h:cW R w R' w') (k:cW R' w' R'' w''):cW R w R'' w'' :=
 ⟨h.keeps.trans' k.keeps (fun _ _ h=>h) (fun x hx hf=>by unfold RD.F at *;rwa [<- h.same x hx]),fun x hx=>(k.same x (Nat.lt_of_lt_of_le hx h.keeps.size)).trans (h.same x hx)⟩
theorem cZ {w:World} {g j k:Nat} {v u:Value} (h:w.cell? ⟨g,j,none⟩=some v):(w.setCell ⟨g,k,none⟩ u).cell? ⟨g,j,none⟩=some (if j=k then u else v):=by
 by_cases e:j=k
 ·subst e;rw[if_pos rfl];exact World.cell?_setCell_same _ _ _ h
 ·rw[if_neg e,World.cell?_setCell_other _ _ _ _ (by simp[e])];exact h
theorem cB (w:World) (p:Addr) (u:Value):aa (fun x=>x=p.block) w (w.setCell p u):=aa.setCell (p:=p) (aa.refl (fun x=>x=p.block) w) (Or.inl rfl) u
theorem j6 (w:World) (p q:Addr) (u:Value):(w.setCell p u).frozen? q=w.frozen? q:=by simp
theorem aS.uu (h:aS R w a d room us lk up) (us':Int):aS R (w.setCell ⟨a,2,none⟩ (.int .i64 us')) a d room us' lk up:=by
 have k:=cB w ⟨a,2,none⟩ (.int .i64 us')
 have hB:¬R.b=a:=fun e=>by have:=h.jo;rw[e,h.jn]at this;cases this
 refine⟨cZ h.l,cZ h.next,cZ h.used,cZ h.room,fun j=>(j6 _ _ _ _).trans (h.fz j),h.jn,h.jo,h.map.keep k hB,h.get,h.len,h.lY,h.jq,h.jL,fun i hi=>?_,fun x hx=>h.top x (Nat.le_trans k.size hx)⟩
 have hn:=h.node i hi
 refine hn.keep k (fun hf=>?_) (fun x hx hf=>?_) (fun x hx hf=>?_)
 ·have:=h.lY i hi;simp only at hf;rw[hf,h.jn]at this;cases this
 ·have:=h.jq i hi x hx;simp only at hf;rw[hf,h.jn]at this;cases this
 ·have:=h.jL i hi x hx;simp only at hf;rw[hf,h.jn]at this;cases this
theorem aS.fA (h:aS R w a d room us lk up):R.F a:=by unfold RD.F;rw[h.jn];exact fun h=>by cases h
theorem aS.fB (h:aS R w a d room us lk up):R.F R.b:=by unfold RD.F;rw[h.jo];exact fun h=>by cases h
theorem aS.fN (h:aS R w a d room us lk up) {i:Int} (hi:has d i):R.F (R.g i):=by unfold RD.F;rw[h.lY i hi];exact fun h=>by cases h
theorem RD.N.F {i:Int} {x:Nat} (h:R.N i x):R.F x:=by
 unfold RD.F
 rcases h with h|h|h<;>rw[h]<;>exact fun h=>by cases h
theorem aS.nN (h:aS R w a d room us lk up) {i:Int} (hi:has d i):R.N i (R.g i):=.inl (h.lY i hi)
def setAt {α:Type} (f:Int->α) (i:Int) (v:α):Int->α:=fun j=>if j=i then v else f j
theorem mE {α:Type} (f:Int->α) (i:Int) (v:α):setAt f i v i=v:=if_pos rfl
theorem mU {α:Type} {f:Int->α} {i j:Int} {v:α} (h:j≠i):setAt f i v j=f j:=if_neg h
theorem aS.turn (h:aS R w a d room us lk up) {i:Int} (hi:has d i) (k:aa (R.N i) w w') (dv ev:Value) (T:Nat->Tag) (hT:∀x,x<w.heap.size->T x=R.tag x) (vW:∀x,w'.heap.size<=x->T x=.none)
 (hD:∀x,dv.ownBlock=some x->T x=.data i) (hE:∀x,ev.ownBlock=some x->T x=.dir i) {n:Nd} (hn:n.kind≠0) {fT up':Int} (hN:kZ w' (R.g i) dv ev n fT up') :
 aS { R with dv:=setAt R.dv i dv,ev:=setAt R.ev i ev,tag:=T } w' a (aX d i n) room us (setAt lk i fT) (setAt up i up'):=by
 have hr:=bF hi
 have mX:∀{x t},R.tag x=t->(t≠.node i∧t≠.data i∧t≠.dir i)->¬R.N i x:=by
  rintro x t rfl ⟨h1,h2,h3⟩ (h|h|h)
  ·exact h1 h
  ·exact h2 h
  ·exact h3 h
 have hA:¬R.N i a:=mX h.jn ⟨by simp,by simp,by simp⟩
 have hB:¬R.N i R.b:=mX h.jo ⟨by simp,by simp,by simp⟩
 have hc:∀j,w'.cell? ⟨a,j,none⟩=w.cell? ⟨a,j,none⟩:=fun j=>k.cell (p:=⟨a,j,none⟩) h.alt hA
 have hf:∀j,w'.frozen? ⟨a,j,none⟩=w.frozen? ⟨a,j,none⟩:=fun j=>k.frozen (p:=⟨a,j,none⟩) h.alt hA
 have hh:∀j,has (aX d i n) j↔has d j:=fun j=>by
  unfold has
  rw[gu hr.1 hr.2]
  split
  ·next e=>subst e;exact⟨fun _=>hi,fun _=>hn⟩
  ·rfl
 have Cm:count (aX d i n)=count d:=by
  have:=pY iX hr.1 hr.2 n
  have h1:iX n=1:=by unfold iX;rw[if_neg hn]
  have h2:iX (nd d i)=1:=by unfold iX;rw[if_neg hi]
  unfold count
  omega
 refine⟨(hc 0).trans h.l,?_,(hc 2).trans h.used,(hc 3).trans h.room,fun j=>(hf j).trans (h.fz j),?_,?_,h.map.keep k hB,fun j=>?_,h.len.trans Cm.symm,fun j hj=>?_,fun j hj x hx=>?_,fun j hj x hx=>?_,fun j hj=>?_,vW⟩
 ·rw[jl];exact(hc 1).trans h.next
 ·exact(hT a h.alt).trans h.jn
 ·exact(hT R.b h.map.lt).trans h.jo
 ·rw[h.get j];simp only[hh]
 ·have hj:=(hh j).1 hj
  exact(hT _ (h.node j hj).lt).trans (h.lY j hj)
 ·have hj':=(hh j).1 hj
  simp only[setAt]at hx
  split at hx
  ·next e=>subst e;exact hD x hx
  ·exact(hT _ ((h.node j hj').own.lt x hx)).trans (h.jq j hj' x hx)
 ·have hj':=(hh j).1 hj
  simp only[setAt]at hx
  split at hx
  ·next e=>subst e;exact hE x hx
  ·exact(hT _ ((h.node j hj').dir.sP x hx)).trans (h.jL j hj' x hx)
 ·have hj':=(hh j).1 hj
  rw[gu hr.1 hr.2]
  simp only[setAt]
  by_cases e:j=i
  ·subst e;simp only[if_true];exact hN
  ·simp only[e,if_false]
   refine(h.node j hj').keep k ?_ (fun x hx=>?_) (fun x hx=>?_)
   ·exact mX (h.lY j hj') ⟨by simp[e],by simp,by simp⟩
   ·exact mX (h.jq j hj' x hx) ⟨by simp,by simp[e],by simp⟩
   ·exact mX (h.jL j hj' x hx) ⟨by simp,by simp,by simp[e]⟩
theorem mY {α:Type} {f:Int->α} {i:Int}:setAt f i (f i)=f:=by
 funext j
 unfold setAt
 split
 ·next e=>rw[e]
 ·rfl
theorem GX {d:ag} {i:Int} (h:has d i):aX d i (nd d i)=d:=by
 have hr:=bF h
 unfold aX
 rw[if_pos hr.1]
 have:=sU hr.1 hr.2
 apply List.ext_getElem?
 intro j
 rw[List.getElem?_set]
 split
 ·next e=>subst e;rw[if_pos hr.2,this]
 ·rfl
theorem kZ.set {g:Nat} {dv ev:Value} {n:Nd} {lk up:Int} (h:kZ w g dv ev n lk up) (hd:¬dv.ownBlock=some g) (j:Nat) (v:Int) (hj:j<4∨j=6) (n':Nd) (fT up':Int)
 (h0:n'.kind=if 0=j then v else n.kind) (h1:n'.mode=if 1=j then v else n.mode) (h2:fT=if 2=j then v else lk) (h3:n'.holds=if 3=j then v else n.holds) (h4:n'.data=n.data) (h5:n'.ah=n.ah) (h6:up'=if 6=j then v else up) :
 kZ (w.setCell ⟨g,j,none⟩ (.int .i64 v)) g dv ev n' fT up':=by
 have k:=cB w ⟨g,j,none⟩ (.int .i64 v)
 have hap:=h.dir.apart
 have wrap:∀(c:Nat) (x:Int),(if c=j then Value.int .i64 v else .int .i64 x)=.int .i64 (if c=j then v else x):=fun c x=>by split<;>rfl
 refine⟨?_,?_,?_,?_,?_,?_,?_,?_,fun i=>(j6 _ _ _ _).trans (h.fz i)⟩
 ·rw[cZ h.kind,h0,wrap]
 ·rw[cZ h.mode,h1,wrap]
 ·rw[cZ h.links,h2,wrap]
 ·rw[cZ h.holds,h3,wrap]
 ·rw[cZ h.data,if_neg (by omega)]
 ·rw[h4];exact h.own.keep k (fun x hx e=>by simp only at e;subst e;exact hd hx)
 ·rw[h5]
  refine⟨?_,(j6 _ _ _ _).trans h.dir.free,h.dir.spot,h.dir.own.keep k (fun x hx e=>by simp only at e;subst e;exact hap hx),h.dir.rising,h.dir.names,hap⟩
  have:=h.dir.cell
  rw[cZ this,if_neg (by omega)]
 ·rw[cZ h.up,h6,wrap]
theorem aS.vX (h:aS R w a d room us lk up) {i:Int} (hi:has d i):¬(R.dv i).ownBlock=some (R.g i):=fun e=>by
 have:=h.jq i hi _ e
 rw[h.lY i hi]at this
 cases this
theorem aS.setNode (h:aS R w a d room us lk up) {i:Int} (hi:has d i) (j:Nat) (v:Int) (hj:j<4∨j=6) (n':Nd) (fT up':Int) (hk:n'.kind≠0)
 (h0:n'.kind=if 0=j then v else(nd d i).kind) (h1:n'.mode=if 1=j then v else(nd d i).mode) (h2:fT=if 2=j then v else lk i) (h3:n'.holds=if 3=j then v else(nd d i).holds) (h4:n'.data=(nd d i).data) (h5:n'.ah=(nd d i).ah) (h6:up'=if 6=j then v else up i) :
 aS R (w.setCell ⟨R.g i,j,none⟩ (.int .i64 v)) a (aX d i n') room us (setAt lk i fT) (setAt up i up'):=by
 have hn:=(h.node i hi).set (h.vX hi) j v hj n' fT up' h0 h1 h2 h3 h4 h5 h6
 have k:=cB w ⟨R.g i,j,none⟩ (.int .i64 v)
 have:=h.turn hi (k.mono (fun x _ hx=>by simp only at hx;subst hx;exact h.nN hi)) (R.dv i) (R.ev i) R.tag (fun _ _=>rfl) (fun x hx=>h.top x (Nat.le_trans k.size hx)) (h.jq i hi) (h.jL i hi) hk hn
 rwa [mY,mY]at this
theorem aS.Cn (h:aS R w a d room us lk up) {i:Int} (hi:has d i) (v:Int):aS R (w.setCell ⟨R.g i,2,none⟩ (.int .i64 v)) a d room us (setAt lk i v) up:=by
 have:=h.setNode hi 2 v (by omega) (nd d i) v (up i) hi rfl rfl rfl rfl rfl rfl rfl
 rwa [GX hi,mY]at this
theorem aS.Co (h:aS R w a d room us lk up) {i:Int} (hi:has d i) (v:Int):aS R (w.setCell ⟨R.g i,6,none⟩ (.int .i64 v)) a d room us lk (setAt up i v):=by
 have:=h.setNode hi 6 v (by omega) (nd d i) (lk i) v hi rfl rfl rfl rfl rfl rfl rfl
 rwa [GX hi,mY]at this
theorem aS.bT (h:aS R w a d room us lk up) {i:Int} (hi:has d i) (v:Int):aS R (w.setCell ⟨R.g i,3,none⟩ (.int .i64 v)) a (aX d i ((nd d i).bT v)) room us lk up:=by
 have:=h.setNode hi 3 v (by omega) ((nd d i).bT v) (lk i) (up i) hi rfl rfl rfl rfl rfl rfl rfl
 rwa [mY,mY]at this
theorem aS.gS (h:aS R w a d room us lk up) {i:Int} (hi:has d i) (v:Int):aS R (w.setCell ⟨R.g i,1,none⟩ (.int .i64 v)) a (aX d i ((nd d i).gS v)) room us lk up:=by
 have:=h.setNode hi 1 v (by omega) ((nd d i).gS v) (lk i) (up i) hi rfl rfl rfl rfl rfl rfl rfl
 rwa [mY,mY]at this
end
section
variable{R:RD} {w w':World} {a:Nat} {d:ag} {room us:Int} {lk up:Int->Int}
theorem NZ (l:Kv) (k j:Int):gJ (ig l k) j=if j=k then none else gJ l j:=by
 unfold gJ ig
 induction l with
 | nil=>simp
 | cons x l ih =>
   rw[List.filter_cons,List.find?_cons]
   by_cases e:x.1=k
   ·simp only[e,decide_true,Bool.not_true,Bool.false_eq_true,if_false]
    rw[ih]
    by_cases e2:j=k
    ·simp[e2]
    ·simp[e2,Ne.symm e2]
   ·simp only[e,decide_false,Bool.not_false,if_true,List.find?_cons]
    by_cases e3:x.1=j
    ·subst e3;simp[e]
    ·simp only[e3,decide_false];exact ih
theorem Oa {l:Kv} (hn:(l.map (·.1)).Nodup) {k:Int} {v:Value} (h:gJ l k=some v):(ig l k).length+1=l.length:=by
 induction l with
 | nil=>simp[gJ]at h
 | cons x l ih =>
   rw[List.map_cons,List.nodup_cons]at hn
   by_cases e:x.1=k
   ·have:ig (x::l) k=l:=by
     unfold ig
     rw[List.filter_cons]
     simp only[e,decide_true,Bool.not_true,Bool.false_eq_true,if_false]
     exact Cp fun y hy e2=>hn.1 (List.mem_map.2 ⟨y,hy,e2.trans e.symm⟩)
    rw[this];rfl
   ·have h1:ig (x::l) k=x::ig l k:=by simp[ig,List.filter_cons,e]
    have h2:gJ l k=some v:=by simpa[gJ,List.find?_cons,e]using h
    rw[h1,List.length_cons,List.length_cons,ih hn.2 h2]
theorem aS.kill (h:aS R w a d room us lk up) {i:Int} (hi:has d i) (k:aa (fun x=>x=R.b) w w') (hm:gj w' R.b (ig R.kv i)) :
 aS { R with kv:=ig R.kv i } w' a (kill d i) room us lk up:=by
 have hA:¬a=R.b:=fun e=>by have:=h.jo;rw[<- e,h.jn]at this;cases this
 have hc:∀j,w'.cell? ⟨a,j,none⟩=w.cell? ⟨a,j,none⟩:=fun j=>k.cell (p:=⟨a,j,none⟩) h.alt hA
 have hf:∀j,w'.frozen? ⟨a,j,none⟩=w.frozen? ⟨a,j,none⟩:=fun j=>k.frozen (p:=⟨a,j,none⟩) h.alt hA
 have hg:gJ R.kv i=some (.pointer (some ⟨R.g i,0,none⟩)):=by rw[h.get i,if_pos hi]
 have hl:=Oa h.map.nodup hg
 have ld:=rT hi
 refine⟨(hc 0).trans h.l,?_,(hc 2).trans h.used,(hc 3).trans h.room,fun j=>(hf j).trans (h.fz j),h.jn,h.jo,hm,fun j=>?_,?_,fun j hj=>h.lY j ((jZ hi).1 hj).2,fun j hj=>h.jq j ((jZ hi).1 hj).2,
  fun j hj=>h.jL j ((jZ hi).1 hj).2,fun j hj=>?_,fun x hx=>h.top x (Nat.le_trans k.size hx)⟩
 ·rw[sV];exact(hc 1).trans h.next
 ·show gJ (ig R.kv i) j=_
  rw[NZ]
  by_cases e:j=i
  ·subst e
   rw[if_pos rfl,if_neg (fun hh=>((jZ hi).1 hh).1 rfl)]
  ·rw[if_neg e,h.get j]
   simp only[jZ hi,e,ne_eq,not_false_eq_true,true_and]
 ·show(ig R.kv i).length=_
  have:=h.len
  omega
 ·obtain⟨h1,h2⟩:=(jZ hi).1 hj
  rw[kT hi,if_neg h1]
  refine(h.node j h2).keep k (fun e=>?_) (fun x hx e=>?_) (fun x hx e=>?_)
  ·have:=h.lY j h2;rw[e,h.jo]at this;cases this
  ·have:=h.jq j h2 x hx;rw[e,h.jo]at this;cases this
  ·have:=h.jL j h2 x hx;rw[e,h.jo]at this;cases this
theorem iI (d:ag) (n:Nd) (j:Int):nd (d++[n]) j=if j=d.length then n else nd d j:=by
 unfold nd
 by_cases h0:0<=j
 ·rw[if_pos h0,if_pos h0]
  by_cases e:j=d.length
  ·subst e;simp
  ·rw[if_neg e]
   by_cases hl:j.toNat<d.length
   ·rw[List.getElem?_append_left hl]
   ·rw[List.getElem?_append_right (by omega),List.getElem?_eq_none (l:=d) (by omega),List.getElem?_eq_none (by simp;omega)]
 ·rw[if_neg h0,if_neg h0,if_neg (by omega)]
theorem aS.add (h:aS R w a d room us lk up) (k:aa (fun x=>x=a∨x=R.b) w w') {n:Nd} (hn:n.kind≠0) {us':Int} (g:Nat) (dv:Value) {fT up':Int}
 (h0:w'.cell? ⟨a,0,none⟩=some (.map (some R.b))) (h1:w'.cell? ⟨a,1,none⟩=some (.int .i64 ((d.length:Int)+1))) (h2:w'.cell? ⟨a,2,none⟩=some (.int .i64 us')) (h3:w'.cell? ⟨a,3,none⟩=some (.int .i64 room))
 (hfz:∀j,w'.frozen? ⟨a,j,none⟩=false) (hm:gj w' R.b (R.kv++[((d.length:Int),.pointer (some ⟨g,0,none⟩))])) (hg:w.heap.size<=g) (hd:∀x,dv.ownBlock=some x->w.heap.size<=x∧x≠g)
 (hN:kZ w' g dv (.slice none 0 0) n fT up') :
 ∃R',aS R' w' a (d++[n]) room us' (setAt lk d.length fT) (setAt up d.length up')∧cW R w R' w':=by
 have hab:¬a=R.b:=fun e=>by have:=h.jo;rw[<- e,h.jn]at this;cases this
 have hno:¬has d d.length:=fun hh=>by have:=bF hh;omega
 have hh:∀j,has (d++[n]) j↔j=d.length∨has d j:=fun j=>by
  unfold has
  rw[iI]
  split
  ·next e=>subst e;exact⟨fun _=>.inl rfl,fun _=>hn⟩
  ·next e=>exact⟨.inr,fun h=>h.resolve_left e⟩
 have Cm:count (d++[n])=count d+1:=by
  unfold count
  rw[uk]
  have:iX n=1:=by unfold iX;rw[if_neg hn]
  rw[this]
 have hgl:=hN.lt
 let T:Nat->Tag:=fun x=>if x=g then .node d.length else if dv.ownBlock=some x then .data d.length else R.tag x
 have hT:∀x,x<w.heap.size->T x=R.tag x:=fun x hx=>by
  show(if x=g then _ else _)=_
  rw[if_neg (by omega),if_neg (fun e=>by have:=(hd x e).1;omega)]
 have hdl:∀x,dv.ownBlock=some x->x<w'.heap.size:=hN.own.lt
 refine⟨⟨R.b,R.kv++[((d.length:Int),.pointer (some ⟨g,0,none⟩))],setAt R.g d.length g,setAt R.dv d.length dv,setAt R.ev d.length (.slice none 0 0),T⟩,
  ⟨h0,?_,h2,h3,hfz,(hT a h.alt).trans h.jn,(hT _ h.map.lt).trans h.jo,hm,fun j=>?_,?_,fun j hj=>?_,fun j hj x hx=>?_,fun j hj x hx=>?_,fun j hj=>?_,fun x hx=>?_⟩,⟨k.mono (fun x _ hx=>?_),hT⟩⟩
 ·rw[List.length_append];exact h1
 ·show gJ (R.kv++_) j=_
  simp only[hh,gJ,List.find?_append]
  have yY:=h.get j
  unfold gJ at yY
  by_cases e:j=d.length
  ·subst e
   rw[if_neg hno]at yY
   rw[if_pos (.inl rfl),Option.map_eq_none_iff]at *
   rw[yY]
   simp[setAt]
  ·have e':¬(d.length:Int)=j:=fun h=>e h.symm
   simp only[e,false_or,List.find?_cons,e',decide_false,List.find?_nil,Option.or_none,yY,setAt,if_false]
 ·show(R.kv++_).length=_
  rw[Cm,List.length_append,h.len];rfl
 ·show T (setAt R.g d.length g j)=_
  by_cases e:j=d.length
  ·subst e;rw[mE];exact if_pos rfl
  ·rw[mU e]
   have hj:=((hh j).1 hj).resolve_left e
   exact(hT _ (h.node j hj).lt).trans (h.lY j hj)
 ·show T x=_
  by_cases e:j=d.length
  ·subst e
   have hx:dv.ownBlock=some x:=by simpa only[mE]using hx
   show(if x=g then _ else if dv.ownBlock=some x then _ else _)=_
   rw[if_neg (hd x hx).2,if_pos hx]
  ·have hx:(R.dv j).ownBlock=some x:=by simpa only[mU e]using hx
   have hj:=((hh j).1 hj).resolve_left e
   exact(hT _ ((h.node j hj).own.lt x hx)).trans (h.jq j hj x hx)
 ·show T x=_
  by_cases e:j=d.length
  ·subst e
   have hx:(Value.slice none 0 0).ownBlock=some x:=by simpa only[mE]using hx
   simp[Value.ownBlock]at hx
  ·have hx:(R.ev j).ownBlock=some x:=by simpa only[mU e]using hx
   have hj:=((hh j).1 hj).resolve_left e
   exact(hT _ ((h.node j hj).dir.sP x hx)).trans (h.jL j hj x hx)
 ·rw[iI]
  by_cases e:j=d.length
  ·subst e;simp only[mE,if_true];exact hN
  ·simp only[mU e,e,if_false]
   have hj:=((hh j).1 hj).resolve_left e
   refine(h.node j hj).keep k (fun hx=>?_) (fun x hx hx'=>?_) (fun x hx hx'=>?_)
   ·have:=h.lY j hj;rcases hx with e|e<;>rw[e]at this
    ·rw[h.jn]at this;cases this
    ·rw[h.jo]at this;cases this
   ·have:=h.jq j hj x hx;rcases hx' with e|e<;>rw[e]at this
    ·rw[h.jn]at this;cases this
    ·rw[h.jo]at this;cases this
   ·have:=h.jL j hj x hx;rcases hx' with e|e<;>rw[e]at this
    ·rw[h.jn]at this;cases this
    ·rw[h.jo]at this;cases this
 ·show(if x=g then _ else if dv.ownBlock=some x then _ else _)=_
  have hx:w'.heap.size<=x:=hx
  have:=k.size
  rw[if_neg (by omega),if_neg (fun e=>by have:=hdl x e;omega)]
  exact h.top x (by omega)
 ·rcases hx with rfl|rfl
  ·exact h.fA
  ·exact h.fB
theorem aS.tags (h:aS R w a d room us lk up) (k:w.heap.size<=w'.heap.size) (t:Tag):∃T:Nat->Tag,(∀x,x<w.heap.size->T x=R.tag x)∧(∀x,w'.heap.size<=x->T x=.none)∧∀x,w.heap.size<=x->x<w'.heap.size->T x=t:=by
 refine⟨fun x=>if w.heap.size<=x∧x<w'.heap.size then t else R.tag x,fun x hx=>if_neg (by omega),fun x hx=>?_,fun x h1 h2=>if_pos ⟨h1,h2⟩⟩
 show(if _ then _ else _)=_
 rw[if_neg (by omega)]
 exact h.top x (by omega)
theorem aS.dN (h:aS R w a d room us lk up) {i:Int} (hi:has d i) {w1:World} {v:Value} {s:ByteArray} (k:aa (fun x=>(R.dv i).ownBlock=some x) w w1) (ho:eu (fun _=>True) w1 v s)
 (hv:∀x,v.ownBlock=some x->(R.dv i).ownBlock=some x∨w.heap.size<=x) :
 ∃R',aS R' (w1.setCell ⟨R.g i,4,none⟩ v) a (aX d i ((nd d i).dN s)) room us lk up∧cW R w R' (w1.setCell ⟨R.g i,4,none⟩ v)∧R'.g=R.g∧R'.b=R.b∧R'.dv i=v:=by
 have hn:=h.node i hi
 have hgd:=h.vX hi
 have hsz:(w1.setCell ⟨R.g i,4,none⟩ v).heap.size=w1.heap.size:=by simp[World.setCell]
 have hge:∀x,(R.ev i).ownBlock=some x->¬(R.dv i).ownBlock=some x:=fun x h1 h2=>by
  have:=h.jq i hi x h2;rw[h.jL i hi x h1]at this;cases this
 have Cq:¬v.ownBlock=some (R.g i):=fun e=>by
  rcases hv _ e with h1|h1
  ·exact hgd h1
  ·have:=hn.lt;omega
 have VU:∀x,(R.ev i).ownBlock=some x->¬v.ownBlock=some x:=fun x h1 h2=>by
  rcases hv x h2 with h3|h3
  ·exact hge x h1 h3
  ·have:=hn.dir.sP x h1;omega
 have k2:=cB w1 ⟨R.g i,4,none⟩ v
 have kk:aa (R.N i) w (w1.setCell ⟨R.g i,4,none⟩ v):=aa.setCell (k.mono (fun x _ hx=>.inr (.inl (h.jq i hi x hx)))) (.inl (h.nN hi)) v
 have hc:∀j,w1.cell? ⟨R.g i,j,none⟩=w.cell? ⟨R.g i,j,none⟩:=fun j=>k.cell (p:=⟨R.g i,j,none⟩) hn.lt hgd
 have hf:∀j,w1.frozen? ⟨R.g i,j,none⟩=w.frozen? ⟨R.g i,j,none⟩:=fun j=>k.frozen (p:=⟨R.g i,j,none⟩) hn.lt hgd
 have hset:∀(j:Nat) (u:Value),j≠4->w.cell? ⟨R.g i,j,none⟩=some u->(w1.setCell ⟨R.g i,4,none⟩ v).cell? ⟨R.g i,j,none⟩=some u:=fun j u hj hu=>by
  rw[cZ ((hc j).trans hu),if_neg hj]
 have hap:=hn.dir.apart
 have hN:kZ (w1.setCell ⟨R.g i,4,none⟩ v) (R.g i) v (R.ev i) ((nd d i).dN s) (lk i) (up i):=by
  refine⟨hset 0 _ (by decide) hn.kind,hset 1 _ (by decide) hn.mode,hset 2 _ (by decide) hn.links,hset 3 _ (by decide) hn.holds,?_,?_,⟨hset 5 _ (by decide) hn.dir.cell,?_,rfl,?_,hn.dir.rising,hn.dir.names,hap⟩,hset 6 _ (by decide) hn.up,fun j=>?_⟩
  ·rw[cZ ((hc 4).trans hn.data),if_pos rfl]
  ·exact ho.keep k2 (fun x hx e=>by simp only at e;subst e;exact Cq hx)
  ·exact(j6 _ _ _ _).trans ((hf 5).trans (hn.fz 5))
  ·exact(hn.dir.own.keep k hge).keep k2 (fun x hx e=>by simp only at e;subst e;exact hap hx)
  ·exact(j6 _ _ _ _).trans ((hf j).trans (hn.fz j))
 obtain⟨T,hT,vW,Cr⟩:=h.tags kk.size (.data i)
 have hR:=h.turn hi kk v (R.ev i) T hT vW (fun x hx=>?_) (fun x hx=>(hT x (hn.dir.sP x hx)).trans (h.jL i hi x hx)) (n:=(nd d i).dN s) hi hN
 ·simp only[mY]at hR
  exact⟨_,hR,⟨kk.mono (fun x _ hx=>hx.F),hT⟩,rfl,rfl,mE _ _ _⟩
 ·rcases hv x hx with h1|h1
  ·exact(hT x (hn.own.lt x h1)).trans (h.jq i hi x h1)
  ·exact Cr x h1 (by rw[hsz];exact ho.lt x hx)
theorem aS.Ob (h:aS R w a d room us lk up) {i:Int} (hi:has d i) {s:ByteArray} (k:aa (fun x=>(R.dv i).ownBlock=some x) w w') (ho:eu (fun _=>True) w' (R.dv i) s) :
 aS R w' a (aX d i ((nd d i).dN s)) room us lk up:=by
 have hn:=h.node i hi
 have hgd:=h.vX hi
 have hge:∀x,(R.ev i).ownBlock=some x->¬(R.dv i).ownBlock=some x:=fun x h1 h2=>by
  have:=h.jq i hi x h2;rw[h.jL i hi x h1]at this;cases this
 have hc:∀j,w'.cell? ⟨R.g i,j,none⟩=w.cell? ⟨R.g i,j,none⟩:=fun j=>k.cell (p:=⟨R.g i,j,none⟩) hn.lt hgd
 have hf:∀j,w'.frozen? ⟨R.g i,j,none⟩=w.frozen? ⟨R.g i,j,none⟩:=fun j=>k.frozen (p:=⟨R.g i,j,none⟩) hn.lt hgd
 have hN:kZ w' (R.g i) (R.dv i) (R.ev i) ((nd d i).dN s) (lk i) (up i) :=
  ⟨(hc 0).trans hn.kind,(hc 1).trans hn.mode,(hc 2).trans hn.links,(hc 3).trans hn.holds,(hc 4).trans hn.data,ho,hn.dir.keep k hgd hge,(hc 6).trans hn.up,fun j=>(hf j).trans (hn.fz j)⟩
 have hR:=h.turn hi (k.mono (fun x _ hx=>.inr (.inl (h.jq i hi x hx)))) (R.dv i) (R.ev i) R.tag (fun _ _=>rfl) (fun x hx=>h.top x (Nat.le_trans k.size hx)) (h.jq i hi) (h.jL i hi) (n:=(nd d i).dN s) hi hN
 rwa [mY,mY,mY,mY]at hR
theorem aS.qg (h:aS R w a d room us lk up) {i:Int} (hi:has d i) {es:List aD} (hd:lU w w' ⟨R.g i,5,none⟩ (R.ev i) es) :
 ∃R',aS R' w' a (aX d i ((nd d i).dZ es)) room us lk up∧cW R w R' w'∧R'.g=R.g∧R'.b=R.b:=by
 obtain⟨v,hI,k,hv⟩:=hd
 have hn:=h.node i hi
 have hgd:=h.vX hi
 have hap:=hn.dir.apart
 have hsz:(w.setCell ⟨R.g i,5,none⟩ v).heap.size=w.heap.size:=by simp[World.setCell]
 have Cs:∀x,(R.dv i).ownBlock=some x->¬(R.ev i).ownBlock=some x:=fun x h1 h2=>by
  have:=h.jL i hi x h2;rw[h.jq i hi x h1]at this;cases this
 have GY:¬(R.ev i).ownBlock=some (R.g i):=hap
 have k0:=cB w ⟨R.g i,5,none⟩ v
 have hlt:=hn.lt
 have hc:∀(j:Nat) (u:Value),j≠5->w.cell? ⟨R.g i,j,none⟩=some u->w'.cell? ⟨R.g i,j,none⟩=some u:=fun j u hj hu=>by
  rw[k.cell (p:=⟨R.g i,j,none⟩) (by rw[hsz];exact hlt) GY,cZ hu,if_neg hj]
 have hf:∀j,w'.frozen? ⟨R.g i,j,none⟩=w.frozen? ⟨R.g i,j,none⟩:=fun j=>(k.frozen (p:=⟨R.g i,j,none⟩) (by rw[hsz];exact hlt) GY).trans (j6 _ _ _ _)
 have kk:aa (R.N i) w w':=(aa.setCell (p:=⟨R.g i,5,none⟩) (aa.refl (R.N i) w) (.inl (h.nN hi)) v).step k (fun x hx=>.inl (.inr (.inr (h.jL i hi x hx))))
 have hN:kZ w' (R.g i) (R.dv i) v ((nd d i).dZ es) (lk i) (up i) :=
  ⟨hc 0 _ (by decide) hn.kind,hc 1 _ (by decide) hn.mode,hc 2 _ (by decide) hn.links,hc 3 _ (by decide) hn.holds,hc 4 _ (by decide) hn.data,
    (hn.own.keep k0 (fun x hx e=>by simp only at e;subst e;exact hgd hx)).keep k Cs,hI,hc 6 _ (by decide) hn.up,fun j=>(hf j).trans (hn.fz j)⟩
 obtain⟨T,hT,vW,Cr⟩:=h.tags kk.size (.dir i)
 have hR:=h.turn hi kk (R.dv i) v T hT vW (fun x hx=>(hT x (hn.own.lt x hx)).trans (h.jq i hi x hx)) (fun x hx=>?_) (n:=(nd d i).dZ es) hi hN
 ·simp only[mY]at hR
  exact⟨_,hR,⟨kk.mono (fun x _ hx=>hx.F),hT⟩,rfl,rfl⟩
 ·rcases hv x hx with h1|h1
  ·exact(hT x (hn.dir.sP x h1)).trans (h.jL i hi x h1)
  ·exact Cr x h1 (hI.sP x hx)
def j7 (R:RD) (d:ag) (i:Int):Value:=if has d i then .pointer (some ⟨R.g i,0,none⟩)else .pointer none
theorem aS.look (h:aS R w a d room us lk up) (i:Int):(Instr.lookup 109 (.map (some R.b)) (.int .i64 i) false).run Tryz.prog w=.ok (j7 R d i) w:=by
 have hz:(zeroValue 112).run Tryz.prog w=.ok (.pointer none) w:=by kernel_rfl
 have:=h.map.lookup (P:=Tryz.prog) Tryz.underlying109 Tryz.underlying3 hz i
 rw[this,h.get i]
 unfold j7
 split<;>rfl
end
def BN (d:ag) (lk up:Int->Int):Prop:=∀i,has d i->(∀j,cY d j i->up i=j)∧(i=1->up i=1)∧(lk i=0->up i=0)
def PG (d:ag) (bR:Int->Nat) (i:Int):Prop:=has d i∧links d i=0∧bR i=0∧(nd d i).holds=0
def aP (d:ag):Prop:=aH d<=2147483648
structure dF (R:RD) (w:World) (a:Nat) (d:ag) (room:Int) (lk up:Int->Int) (bR:Int->Nat):Prop where
 rep:aS R w a d room (used d) lk up
 inv:aG d
 cnt:∀i,has d i->lk i=((links d i+bR i:Nat):Int)
 qQ:∀i,0<bR i->has d i
 mT:BN d lk up
 small:aP d
 oq:∀i,has d i->lk i<=4611686018427387904
theorem gx {d:ag} (h:aP d) (i:Int):(nd d i).ah.length<4294967295:=by
 by_cases hh:0<=i∧i.toNat<d.length
 ·have h1:=sS bJ hh.1 hh.2
  unfold aP aH at h
  unfold bJ at h h1
  omega
 ·rw[pV hh];decide
theorem cY.links {d:ag} {j i:Int} (h:cY d j i):0<links d i:=by
 obtain⟨_,e,he,h2⟩:=h
 have:=mD.2 ⟨j,e,he,h2⟩
 unfold Go.Proofs.YtnanhmfpikddkaaGreatDoor.links
 omega
section
variable{R R':RD} {w w':World} {a:Nat} {d:ag} {room:Int} {lk up:Int->Int} {bR:Int->Nat} {i:Int}
theorem PG.oR (h:PG d bR i):fS d i:=⟨h.1,h.2.1,h.2.2.2⟩
theorem dF.keep {F:Nat->Prop} (h:dF R w a d room lk up bR) (k:aa F w w') (hF:∀x,x<w.heap.size->F x->R.tag x=.none):dF R w' a d room lk up bR :=
 ⟨h.rep.keep k hF,h.inv,h.cnt,h.qQ,h.mT,h.small,h.oq⟩
theorem dF.kill (h:dF R w a d room lk up bR) (hp:PG d bR i) (rep:aS R' w' a (kill d i) room (used (kill d i)) lk up) :
 dF R' w' a (Go.Proofs.YtnanhmfpikddkaaGreatDoor.kill d i) room lk up (fun j=>bR j+eY j (nd d i)):=by
 have hi:=hp.1
 refine⟨rep,h.inv.kill hp.oR,fun j hj=>?_,fun j hj=>?_,fun j hj=>?_,?_,fun j hj=>h.oq j ((jZ hi).1 hj).2⟩
 ·have:=h.cnt j ((jZ hi).1 hj).2
  have:=vP hi j
  omega
 ·refine(jZ hi).2 ?_
  by_cases h1:0<bR j
  ·exact⟨fun e=>by subst e;have:=hp.2.2.1;omega,h.qQ j h1⟩
  ·obtain⟨e,he,h2⟩:=vQ.1 (by omega:0<eY j (nd d i))
   have:=(h.inv.tgt i e he).1
   rw[h2]at this
   refine⟨fun e1=>?_,this⟩
   subst e1
   have:=mD.2 ⟨j,e,he,h2⟩
   have:=hp.2.1
   unfold links at this
   omega
 ·obtain⟨h1,h2,h3⟩:=h.mT j ((jZ hi).1 hj).2
  refine⟨fun k hk=>h1 k ?_,h2,h3⟩
  obtain⟨hk1,e,he,hk2⟩:=hk
  rw[kT hi,if_neg ((jZ hi).1 hj).1]at hk1
  rw[kT hi]at he
  split at he
  ·cases he
  ·exact⟨hk1,e,he,hk2⟩
 ·have:=Gi hi
  have:=h.small
  unfold aP at *
  omega
theorem PG.Ns (hi:has d i) {j:Int} (h:PG (kill d i) (fun j=>bR j+eY j (nd d i)) j):PG d bR j∧j≠i:=by
 obtain⟨h1,h2,h3,h4⟩:=h
 obtain⟨h5,h6⟩:=(jZ hi).1 h1
 rw[kT hi,if_neg h5]at h4
 have:=vP hi j
 refine⟨⟨h6,?_,?_,h4⟩,h5⟩<;>simp only at h3<;>omega
def pW (p:Int->Nat) (i:Int):Int->Nat:=fun j=>if j=i then p j-1 else p j
theorem dF.dec (h:dF R w a d room lk up bR) (hp:0<bR i) {up':Int->Int} (rep:aS R w' a d room (used d) (setAt lk i (lk i-1)) up') (cA:up'=if lk i-1=0 then setAt up i 0 else up) :
 dF R w' a d room (setAt lk i (lk i-1)) up' (pW bR i):=by
 have hi:=h.qQ i hp
 have hc:=h.cnt i hi
 refine⟨rep,h.inv,fun j hj=>?_,fun j hj=>?_,fun j hj=>?_,h.small,fun j hj=>?_⟩
 ·have:=h.cnt j hj
  unfold setAt pW
  split
  ·next e=>subst e;omega
  ·exact this
 ·unfold pW at hj
  split at hj
  ·next e=>subst e;exact hi
  ·exact h.qQ j hj
 ·obtain⟨h1,h2,h3⟩:=h.mT j hj
  subst cA
  by_cases e:j=i
  ·subst e
   rw[mE]
   split
   ·next hz =>
    rw[mE]
    refine⟨fun k hk=>?_,fun e1=>?_,fun _=>rfl⟩
    ·have:=hk.links;omega
    ·subst e1;unfold links at hc;simp at hc;omega
   ·next hz=>exact⟨h1,h2,fun h=>absurd h hz⟩
  ·rw[mU e]
   have:(if lk i-1=0 then setAt up i 0 else up) j=up j:=by
    split
    ·exact mU e
    ·rfl
   rw[this]
   exact⟨h1,h2,h3⟩
 ·have:=h.oq j hj
  unfold setAt
  split
  ·next e=>subst e;omega
  ·exact this
theorem PG.Gj (hn:∀j,¬PG d bR j) {j:Int} (h:PG d (pW bR i) j):j=i:=by
 by_cases e:j=i
 ·exact e
 ·obtain⟨h1,h2,h3,h4⟩:=h
  unfold pW at h3
  rw[if_neg e]at h3
  exact absurd ⟨h1,h2,h3,h4⟩ (hn j)
end
theorem cJ.count_le {d d':ag} (k:cJ d d'):count d'<=count d:=by
 induction k with
 | refl=>exact Nat.le_refl _
 | step i hi _ ih =>
   have:=rT hi.1
   omega
def pX (bR:Int->Nat) (l:List aD):Int->Nat:=fun j=>bR j+l.countP fun e=>decide (e.2=j)
theorem Nt (bR:Int->Nat):pX bR []=bR:=by funext j;simp[pX]
theorem Nu (bR:Int->Nat) (x:aD) (l:List aD):pW (pX bR (x::l)) x.2=pX bR l:=by
 funext j
 unfold pW pX
 rw[List.countP_cons]
 by_cases e:j=x.2
 ·subst e;simp
 ·rw[if_neg e]
  have:¬x.2=j:=fun h=>e h.symm
  simp[this]
def Gk (R:RD) (w:World) (a:Nat) (d:ag) (room:Int) (bR:Int->Nat):Ending->World->Prop:=fun e w' =>
 e=.returned (.tuple #[])∧∃R' d' fT up',dF R' w' a d' room fT up' bR∧(∀j,¬PG d' bR j)∧cJ d d'∧cW R w R' w'
def BO (n:Nat):Prop:=∀R w a d room lk up bR i,count d=n->dF R w a d room lk up bR->has d i->(∀j,PG d bR j->j=i) ->
 Calls Tryz.prog 110 #[.pointer (some ⟨a,0,none⟩),.int .i64 i] w (Gk R w a d room bR)
def BP (n:Nat):Prop:=∀R w a d room lk up bR i,count d=n->dF R w a d room lk up bR->0<bR i->(∀j,¬PG d bR j) ->
 Calls Tryz.prog 122 #[.pointer (some ⟨a,0,none⟩),.int .i64 i] w (Gk R w a d room (pW bR i))
section
variable{d:ag} {i:Int} {n:Nd}
theorem mC (hi:has d i) (hn:n.kind≠0) (j:Int):has (aX d i n) j↔has d j:=by
 have hr:=bF hi
 unfold has
 rw[gu hr.1 hr.2]
 split
 ·next e=>subst e;exact⟨fun _=>hi,fun _=>hn⟩
 ·rfl
theorem Gq (hi:has d i) (j:Int):links (aX d i n) j+eY j (nd d i)=links d j+eY j n:=by
 have hr:=bF hi
 have:=pY (eY j) hr.1 hr.2 n
 unfold links cnt
 omega
theorem uj (hi:has d i) (he:n.ah=(nd d i).ah) (j:Int):links (aX d i n) j=links d j:=by
 have:=Gq (n:=n) hi j
 have:eY j n=eY j (nd d i):=by unfold eY;rw[he]
 omega
theorem uo (hi:has d i):used (aX d i n)+dU (nd d i)=used d+dU n:=by
 have hr:=bF hi
 exact pY dU hr.1 hr.2 n
theorem oh (hi:has d i):aH (aX d i n)+bJ (nd d i)=aH d+bJ n:=by
 have hr:=bF hi
 exact pY bJ hr.1 hr.2 n
theorem Nz (d:ag) (i:Int):links d i<=1+aH d:=by
 have h:cnt d i<=aH d:=by
  induction d with
  | nil=>simp[cnt,cu]
  | cons a d ih =>
    simp only[cnt,aH,cu,List.map_cons,List.sum_cons]at ih ⊢
    have:eY i a<=bJ a:=by
     unfold eY bJ
     have:=List.countP_le_length (p:=fun e:aD=>decide (e.2=i)) (l:=a.ah)
     omega
    omega
 unfold links
 split<;>omega
theorem Gr (hi:has d i) (hk:n.kind=(nd d i).kind) (he:n.ah=(nd d i).ah) (j k:Int):cY (aX d i n) j k↔cY d j k:=by
 have hr:=bF hi
 unfold cY
 rw[gu hr.1 hr.2,gu hr.1 hr.2]
 by_cases e1:k=i<;>by_cases e2:j=i
 ·subst e1;subst e2;simp[hk,he]
 ·subst e1;simp[hk,e2]
 ·subst e2;simp[he,e1]
 ·simp[e1,e2]
theorem aG.aX (h:aG d) (hi:has d i) (hok:iV n) (hk:n.kind=(nd d i).kind) (he:n.ah=(nd d i).ah):aG (aX d i n):=by
 have hr:=bF hi
 have hpos:=h.pos hi
 have bS:n.kind≠0:=by rw[hk];exact hi
 have rU:∀j,(nd (Go.Proofs.YtnanhmfpikddkaaGreatDoor.aX d i n) j).kind=(nd d j).kind:=fun j=>by
  rw[gu hr.1 hr.2]
  split
  ·next e=>subst e;exact hk
  ·rfl
 have qR:∀j,(nd (Go.Proofs.YtnanhmfpikddkaaGreatDoor.aX d i n) j).ah=(nd d j).ah:=fun j=>by
  rw[gu hr.1 hr.2]
  split
  ·next e=>subst e;exact he
  ·rfl
 refine⟨by rw[jl];exact h.two,?_,?_,fun j=>?_,fun j e hj=>?_,fun j hj=>?_,fun j=>?_⟩
 ·rw[gu hr.1 hr.2,if_neg (by omega)];exact h.zero
 ·rw[rU];exact h.root
 ·rw[gu hr.1 hr.2]
  split
  ·exact hok
  ·exact h.node j
 ·rw[qR]at hj
  exact⟨(mC hi bS _).2 (h.tgt j e hj).1,(h.tgt j e hj).2⟩
 ·rw[rU]at hj
  rw[uj hi he]
  exact h.single j hj
 ·have:=h.oT j
  induction this with
  | intro j _ ih=>exact⟨j,fun k hk'=>ih k ((Gr hi hk he k j).1 hk')⟩
end
def zp:Int->Nat:=fun _=>0
theorem NA {d:ag}:(∀j,¬PG d zp j)↔bK d :=
 ⟨fun h j hj=>h j ⟨hj.1,hj.2.1,rfl,hj.2.2⟩,fun h j hj=>h j hj.oR⟩
structure cK (R:RD) (w:World) (a:Nat) (d:ag) (room:Int):Prop where
 yE:∃lk up,dF R w a d room lk up zp
 clean:bK d
 fits:(used d:Int)<=room
 max:room<=9223372036854775807
section
variable{R R':RD} {w w':World} {a:Nat} {d d':ag} {room:Int}
theorem cK.inv (h:cK R w a d room):aG d:=by obtain⟨lk,up,hc⟩:=h.yE;exact hc.inv
theorem cK.small (h:cK R w a d room):aP d:=by obtain⟨lk,up,hc⟩:=h.yE;exact hc.small
theorem cK.keep {F:Nat->Prop} (h:cK R w a d room) (k:aa F w w') (hF:∀x,x<w.heap.size->F x->R.tag x=.none):cK R w' a d room:=by
 obtain⟨⟨lk,up,hc⟩,h1,h2,h3⟩:=h
 exact⟨⟨lk,up,hc.keep k hF⟩,h1,h2,h3⟩
theorem cK.ai (h:cK R w a d room) (k:aa af w w'):cK R w' a d room:=h.keep k (fun _ _ h=>h.elim)
theorem cJ.used {d d':ag} (k:cJ d d'):used d'<=used d:=by
 induction k with
 | refl=>exact Nat.le_refl _
 | step i hi _ ih=>have:=Gn hi.1;omega
theorem cJ.aP {d d':ag} (k:cJ d d') (h:aP d):aP d':=by
 have:=k.aH
 unfold Go.Proofs.YtnanhmfpikddkaaGreatDoor.aP at *
 omega
def dn (R:RD) (w:World) (a:Nat) (d':ag) (room:Int) (w':World):Prop:=∃R',cK R' w' a d' room∧cW R w R' w'
theorem cK.same (h:cK R w a d room) (k:aa af w w'):dn R w a d room w':=⟨R,h.ai k,cW.vR k⟩
theorem dn.on (h:dn R w a d room w') {w'':World} (k:aa af w' w''):dn R w a d room w'':=by
 obtain⟨R',h1,h2⟩:=h
 exact⟨R',h1.ai k,h2.trans (cW.vR k)⟩
theorem dn.drew (h:dn R w a d room w'):dn R w a d room w'.drew:=h.on ((aa.refl _ _).drew)
theorem dn.after {w0:World} (k:aa af w0 w) (h:dn R w a d room w'):dn R w0 a d room w':=by
 obtain⟨R',h1,h2⟩:=h
 exact⟨R',h1,(cW.vR k).trans h2⟩
theorem yF {fT up':Int->Int} (h:dF R' w' a d' room fT up' zp) (hn:∀j,¬PG d' zp j) (hk:cJ d d') (hf:(used d:Int)<=room) (hm:room<=9223372036854775807):cK R' w' a (gc d) room:=by
 have hn':=NA.1 hn
 rw[BQ hk hn']
 have:=hk.used
 exact⟨⟨fT,up',h⟩,hn',by omega,hm⟩
theorem dF.aX {lk up:Int->Int} {bR:Int->Nat} {i:Int} {n:Nd} (h:dF R w a d room lk up bR) (hi:has d i) (hok:iV n) (hk:n.kind=(nd d i).kind) (he:n.ah=(nd d i).ah)
 (rep:aS R' w' a (Go.Proofs.YtnanhmfpikddkaaGreatDoor.aX d i n) room (used (Go.Proofs.YtnanhmfpikddkaaGreatDoor.aX d i n)) lk up) (hs:Go.Proofs.YtnanhmfpikddkaaGreatDoor.aP (Go.Proofs.YtnanhmfpikddkaaGreatDoor.aX d i n)):dF R' w' a (Go.Proofs.YtnanhmfpikddkaaGreatDoor.aX d i n) room lk up bR:=by
 have bS:n.kind≠0:=by rw[hk];exact hi
 refine⟨rep,h.inv.aX hi hok hk he,fun j hj=>?_,fun j hj=>(mC hi bS j).2 (h.qQ j hj),fun j hj=>?_,hs,fun j hj=>h.oq j ((mC hi bS j).1 hj)⟩
 ·rw[uj hi he];exact h.cnt j ((mC hi bS j).1 hj)
 ·obtain⟨h1,h2,h3⟩:=h.mT j ((mC hi bS j).1 hj)
  exact⟨fun k hk'=>h1 k ((Gr hi hk he k j).1 hk'),h2,h3⟩
end
set_option maxRecDepth 100000
set_option maxHeartbeats 1000000
section
variable{R:RD} {w:World} {a:Nat} {d:ag} {room us:Int} {lk up:Int->Int}
def aO (d:ag) (i:Int):Int:=if (nd d i).kind=0 then 12 else if (nd d i).kind=2 then 0 else 14
def dM (d:ag) (i:Int):Int:=if (nd d i).kind=0 then 12 else if (nd d i).kind=2 then 15 else if (nd d i).kind=1 then 0 else 43
def mH (d:ag) (i:Int):Int:=if (nd d i).kind=0 then 12 else if (nd d i).kind=2 then 15 else 0
def ij (d:ag) (i:Int):ByteArray:=if (nd d i).kind=0 then⟨#[]⟩else if (nd d i).kind=2 then⟨#[]⟩else(nd d i).data
def lf (R:RD) (e i:Int):Value:=if e=0 then .pointer (some ⟨R.g i,0,none⟩)else .pointer none
def ia (m:Int):Bool:=decide (0<=m)&&decide (m<=4095)
theorem j8 {d:ag} {i:Int} (h:¬has d i):(nd d i).kind=0:=by simpa[has]using h
theorem vY (h:aS R w a d room us lk up) (i:Int) :
 Calls Tryz.prog 62 #[.pointer (some ⟨a,0,none⟩),.int .i64 i] w fun e w'=>e=.returned (.tuple #[lf R (aO d i) i,.int .i64 (aO d i)])∧w=w':=by
 have hl:=h.l
 have dW:=h.look i
 unfold j7 at dW
 unfold aO
 by_cases hi:has d i
 ·rw[if_pos hi]at dW
  have hk:=(h.node i hi).kind
  have hi0:¬(nd d i).kind=0:=hi
  rw[if_neg hi0]
  generalize(nd d i).kind=kd at hk
  by_cases h2:kd=2
  ·rw[if_pos h2]
   subst h2
   go_enter Tryz.func62,Tryz.ntmps62
   go_wp2
   go_ret2
   exact⟨rfl,rfl⟩
  ·rw[if_neg h2]
   go_enter Tryz.func62,Tryz.ntmps62
   go_wp2
   go_ret2
   exact⟨rfl,rfl⟩
 ·rw[if_neg hi]at dW
  rw[if_pos (j8 hi)]
  go_enter Tryz.func62,Tryz.ntmps62
  go_wp2
  go_ret2
  exact⟨rfl,rfl⟩
theorem Ct (h:aS R w a d room us lk up) (i:Int) :
 Calls Tryz.prog 116 #[.pointer (some ⟨a,0,none⟩),.int .i64 i] w fun e w'=>e=.returned (.tuple #[lf R (dM d i) i,.int .i64 (dM d i)])∧w=w':=by
 have hl:=h.l
 have dW:=h.look i
 unfold j7 at dW
 unfold dM
 by_cases hi:has d i
 ·rw[if_pos hi]at dW
  have hk:=(h.node i hi).kind
  have hi0:¬(nd d i).kind=0:=hi
  rw[if_neg hi0]
  generalize(nd d i).kind=kd at hk
  by_cases h2:kd=2
  ·rw[if_pos h2]
   subst h2
   go_enter Tryz.func116,Tryz.ntmps116
   go_wp2
   go_ret2
   exact⟨rfl,rfl⟩
  ·rw[if_neg h2]
   by_cases h1:kd=1
   ·rw[if_pos h1]
    subst h1
    go_enter Tryz.func116,Tryz.ntmps116
    go_wp2
    go_ret2
    exact⟨rfl,rfl⟩
   ·rw[if_neg h1]
    go_enter Tryz.func116,Tryz.ntmps116
    go_wp2
    go_ret2
    exact⟨rfl,rfl⟩
 ·rw[if_neg hi]at dW
  rw[if_pos (j8 hi)]
  go_enter Tryz.func116,Tryz.ntmps116
  go_wp2
  go_ret2
  exact⟨rfl,rfl⟩
theorem yZ (m:Int) (w:World):Calls Tryz.prog 68 #[.int .i64 m] w fun e w'=>e=.returned (.bool (ia m))∧w=w':=by
 go_enter Tryz.func68,Tryz.ntmps68
 go_wp2
 all_goals
  go_ret
  exact⟨rV (by simp[ia, *]<;>omega),rfl⟩
theorem Oc (h:aS R w a d room us lk up):Calls Tryz.prog 25 #[.pointer (some ⟨a,0,none⟩)] w fun e w'=>e=.returned (.int .i64 us)∧w=w':=by
 have hl:=h.used
 go_enter Tryz.func25,Tryz.ntmps25
 go_wp2
 go_ret
 exact⟨rfl,rfl⟩
theorem y6 (h:aS R w a d room us lk up) (i:Int) :
 Calls Tryz.prog 32 #[.pointer (some ⟨a,0,none⟩),.int .i64 i] w fun e w'=>e=.returned (.tuple #[.string (ij d i),.int .i64 (mH d i)])∧w=w':=by
 have hl:=h.l
 have dW:=h.look i
 unfold j7 at dW
 unfold mH ij
 by_cases hi:has d i
 ·rw[if_pos hi]at dW
  have hn:=h.node i hi
  have hk:=hn.kind
  have hd:=hn.data
  have Cu:=hn.own.str (P:=Tryz.prog) 113 9 5 Tryz.underlying113 Tryz.underlying5 Tryz.underlying9
  have hi0:¬(nd d i).kind=0:=hi
  rw[if_neg hi0,if_neg hi0]
  obtain⟨p,cap,hv⟩:=hn.own.form
  rw[hv]at hd Cu
  generalize(nd d i).data=s at hd Cu
  generalize(nd d i).kind=kd at hk
  by_cases h2:kd=2
  ·rw[if_pos h2,if_pos h2]
   subst h2
   go_enter Tryz.func32,Tryz.ntmps32
   go_wp2
   go_ret2
   exact⟨rfl,rfl⟩
  ·rw[if_neg h2,if_neg h2]
   go_enter Tryz.func32,Tryz.ntmps32
   go_wp2
   go_ret2
   exact⟨rfl,rfl⟩
 ·rw[if_neg hi]at dW
  rw[if_pos (j8 hi),if_pos (j8 hi)]
  go_enter Tryz.func32,Tryz.ntmps32
  go_wp2
  go_ret2
  exact⟨rfl,rfl⟩
def bH (d:ag) (i:Int) (name:ByteArray):Int:=if aO d i≠0 then aO d i else if (bk (nd d i).ah name).isSome then 0 else 12
def aN (d:ag) (i:Int) (name:ByteArray):Int:=if aO d i≠0 then 0 else(bk (nd d i).ah name).getD 0
theorem fD {d:ag} {i:Int} (h:aO d i=0):has d i∧(nd d i).kind=2:=by
 unfold aO at h
 split at h
 ·cases h
 ·next h0 =>
  split at h
  ·next h2=>exact⟨h0,h2⟩
  ·cases h
theorem y8 (h:aS R w a d room us lk up) (i:Int) (name:ByteArray) (hn:(nd d i).ah.length<4294967295) :
 Calls Tryz.prog 114 #[.pointer (some ⟨a,0,none⟩),.int .i64 i,.string name] w fun e w'=>e=.returned (.tuple #[.int .i64 (aN d i name),.int .i64 (bH d i name)])∧aa af w w':=by
 have hf:=vY h i
 unfold aN bH
 by_cases he:aO d i=0
 ·have hi:=(fD he).1
  have hget:=BB (fun _=>True) w ⟨R.g i,5,none⟩ (R.ev i) (nd d i).ah name ((h.node i hi).dir.any (fun _ _=>trivial)) (by omega)
  rw[he]at hf ⊢
  have hp:lf R 0 i=.pointer (some ⟨R.g i,0,none⟩):=rfl
  rw[hp]at hf
  cases hg:bk (nd d i).ah name with
  | none =>
    rw[hg]at hget
    go_enter Tryz.func114,Tryz.ntmps114
    go_wp2_with(first|(go_at_call 62;refine hf.mono ?_;rintro e w1 ⟨rfl,rfl⟩)|(go_at_call 126;refine hget.mono ?_;rintro e w1 ⟨rfl,hk⟩))
    go_ret2
    exact⟨rfl,hk⟩
  | some k =>
    rw[hg]at hget
    go_enter Tryz.func114,Tryz.ntmps114
    go_wp2_with(first|(go_at_call 62;refine hf.mono ?_;rintro e w1 ⟨rfl,rfl⟩)|(go_at_call 126;refine hget.mono ?_;rintro e w1 ⟨rfl,hk⟩))
    go_ret2
    exact⟨rfl,hk⟩
 ·simp only[ne_eq,he,not_false_eq_true,if_true]
  have hp:lf R (aO d i) i=.pointer none:=if_neg he
  rw[hp]at hf
  generalize aO d i=er at hf he
  go_enter Tryz.func114,Tryz.ntmps114
  go_wp2_with(go_at_call 62;refine hf.mono ?_;rintro e w1 ⟨rfl,rfl⟩)
  go_ret2
  exact⟨rfl,aa.refl _ _⟩
theorem Cv (h:aS R w a d room us lk up) (i:Int) (hn:(nd d i).ah.length<4294967295) :
 Calls Tryz.prog 33 #[.pointer (some ⟨a,0,none⟩),.int .i64 i] w fun e w'=>∃v,e=.returned (.tuple #[v,.int .i64 (aO d i)])∧Own aK 59 (fun g=>w.heap.size<=g) w' v (if aO d i=0 then(nd d i).ah else[])∧aa af w w':=by
 have hf:=vY h i
 by_cases he:aO d i=0
 ·have hi:=(fD he).1
  have hlist:=Gd (fun _=>True) w ⟨R.g i,5,none⟩ (R.ev i) (nd d i).ah ((h.node i hi).dir.any (fun _ _=>trivial)) (by omega)
  rw[he]at hf ⊢
  rw[if_pos rfl]
  have hp:lf R 0 i=.pointer (some ⟨R.g i,0,none⟩):=rfl
  rw[hp]at hf
  go_enter Tryz.func33,Tryz.ntmps33
  go_wp2_with(first|(go_at_call 62;refine hf.mono ?_;rintro e w1 ⟨rfl,rfl⟩)|(go_at_call 63;refine hlist.mono ?_;rintro e w1 ⟨v,rfl,ho,hk⟩))
  go_ret2
  exact⟨v,rfl,ho,hk⟩
 ·rw[if_neg he]
  have hp:lf R (aO d i) i=.pointer none:=if_neg he
  rw[hp]at hf
  generalize aO d i=er at hf he
  go_enter Tryz.func33,Tryz.ntmps33
  go_wp2_with(go_at_call 62;refine hf.mono ?_;rintro e w1 ⟨rfl,rfl⟩)
  go_ret2
  exact⟨_,rfl,Own.nil _ _ _ _,aa.refl _ _⟩
theorem Cw (h:aS R w a d room us lk up) (i:Int) :
 Calls Tryz.prog 106 #[.pointer (some ⟨a,0,none⟩),.int .i64 i] w fun e w'=>e=.returned (.tuple #[.int .i64 (if aO d i=0 then up i else 0),.int .i64 (aO d i)])∧w=w':=by
 have hf:=vY h i
 by_cases he:aO d i=0
 ·have hi:=(fD he).1
  have hu:=(h.node i hi).up
  rw[he]at hf ⊢
  rw[if_pos rfl]
  have hp:lf R 0 i=.pointer (some ⟨R.g i,0,none⟩):=rfl
  rw[hp]at hf
  go_enter Tryz.func106,Tryz.ntmps106
  go_wp2_with(go_at_call 62;refine hf.mono ?_;rintro e w1 ⟨rfl,rfl⟩)
  go_ret2
  exact⟨rfl,rfl⟩
 ·rw[if_neg he]
  have hp:lf R (aO d i) i=.pointer none:=if_neg he
  rw[hp]at hf
  generalize aO d i=er at hf he
  go_enter Tryz.func106,Tryz.ntmps106
  go_wp2_with(go_at_call 62;refine hf.mono ?_;rintro e w1 ⟨rfl,rfl⟩)
  go_ret2
  exact⟨rfl,rfl⟩
end
set_option maxRecDepth 100000
set_option maxHeartbeats 1000000
section
variable{R:RD} {w:World} {a:Nat} {d:ag} {room us:Int} {lk up:Int->Int}
def oX (room us n:Int):Int:=if n<=room-us then us+n else us
theorem OD (w wr:World) (k:aa af w wr) (p:Addr) (u:Value):aa (fun x=>x=p.block) w (wr.setCell p u):=aa.setCell (F:=fun x=>x=p.block) (p:=p) k.bC (Or.inl rfl) u
theorem rY (h:aS R w a d room us lk up) (n:Int) (h0:0<=us) (h1:us<=room) (h2:room<=9223372036854775807) (h3:-4611686018427387904<=n) (h4:n<=4611686018427387904) :
 Calls Tryz.prog 69 #[.pointer (some ⟨a,0,none⟩),.int .i64 n] w fun e w'=>e=.returned (.bool (decide (n<=room-us)))∧aS R w' a d room (oX room us n) lk up∧aa (fun x=>x=a) w w':=by
 have hu:=h.used
 have hr:=h.room
 have hf:=h.fz 2
 have H:=Lib.hid h
 have e1:IntKind.i64.wrap (room-us)=room-us:=by rw[IntKind.wrap_i64];omega
 by_cases c:n<=room-us
 ·have e2:IntKind.i64.wrap (us+n)=us+n:=by rw[IntKind.wrap_i64];omega
  have hd:decide (n<=room-us)=true:=decide_eq_true c
  have ht:oX room us n=us+n:=if_pos c
  rw[hd,ht]
  have hlt:¬(room-us<n):=by omega
  clear h hd ht c
  go_enter Tryz.func69,Tryz.ntmps69
  go_wp2_with(go_quiet (fail))
  all_goals
   go_ret
   refine⟨rfl,?_,?_⟩
   ·exact(H.out.ai ((aa.refl _ _).drewN _)).uu _
   ·exact OD w _ ((aa.refl _ _).drewN _) ⟨a,2,none⟩ _
 ·have hd:decide (n<=room-us)=false:=decide_eq_false c
  have ht:oX room us n=us:=if_neg c
  rw[hd,ht]
  have hlt:room-us<n:=by omega
  clear h hd ht c
  go_enter Tryz.func69,Tryz.ntmps69
  go_wp2_with(go_quiet (fail))
  all_goals
   go_ret
   exact⟨rfl,H.out.ai ((aa.refl _ _).drewN _),((aa.refl _ _).drewN _)⟩
theorem OE (h:aS R w a d room us lk up) (i:Int) (hb:(nd d i).holds<=4611686018427387904) (hb0:0<=(nd d i).holds) :
 Calls Tryz.prog 80 #[.pointer (some ⟨a,0,none⟩),.int .i64 i] w fun e w'=>e=.returned (.int .i64 (if has d i then 0 else 12)) ∧
  aS R w' a (if has d i then aX d i ((nd d i).bT ((nd d i).holds+1))else d) room us lk up∧aa R.F w w':=by
 have hl:=h.l
 have dW:=h.look i
 unfold j7 at dW
 by_cases hi:has d i
 ·rw[if_pos hi]at dW
  rw[if_pos hi,if_pos hi]
  have hn:=h.node i hi
  have hk:=hn.holds
  have hf:=hn.fz 3
  have e1:IntKind.i64.wrap ((nd d i).holds+1)=(nd d i).holds+1:=by rw[IntKind.wrap_i64];omega
  have hR:=Lib.hid (h.bT hi ((nd d i).holds+1))
  have hF:=Lib.hid (h.fN hi)
  generalize(nd d i).holds=x at hk e1 hR
  clear h hn
  go_enter Tryz.func80,Tryz.ntmps80
  go_wp2
  go_ret
  exact⟨rfl,hR.out,(aa.refl _ _).setCell (.inl hF.out) _⟩
 ·rw[if_neg hi]at dW
  rw[if_neg hi,if_neg hi]
  have H:=Lib.hid h
  go_enter Tryz.func80,Tryz.ntmps80
  go_wp2
  go_ret
  exact⟨rfl,H.out,aa.refl _ _⟩
def ic (d:ag) (i m:Int):Int:=if (nd d i).kind=0 then 12 else if ia m then 0 else 10
theorem OG (h:aS R w a d room us lk up) (i m:Int) :
 Calls Tryz.prog 94 #[.pointer (some ⟨a,0,none⟩),.int .i64 i,.int .i64 m] w fun e w'=>e=.returned (.int .i64 (ic d i m)) ∧
  aS R w' a (if ic d i m=0 then aX d i ((nd d i).gS m)else d) room us lk up∧aa R.F w w':=by
 have hl:=h.l
 have dW:=h.look i
 unfold j7 at dW
 unfold ic
 by_cases hi:has d i
 ·rw[if_pos hi]at dW
  have hi0:¬(nd d i).kind=0:=hi
  rw[if_neg hi0]
  have hn:=h.node i hi
  have hk:=hn.mode
  have hf:=hn.fz 1
  have hR:=Lib.hid (h.gS hi m)
  have hF:=Lib.hid (h.fN hi)
  have H:=Lib.hid h
  cases hm:ia m with
  | true =>
    rw[if_pos rfl,if_pos rfl]
    have hr:=yZ m w
    rw[hm]at hr
    clear h hn
    go_enter Tryz.func94,Tryz.ntmps94
    go_wp2_with(go_at_call 68;refine hr.mono ?_;rintro e w1 ⟨rfl,rfl⟩)
    go_ret
    exact⟨rfl,hR.out,(aa.refl _ _).setCell (.inl hF.out) _⟩
  | false =>
    rw[if_neg (by decide),if_neg (by decide)]
    have hr:=yZ m w
    rw[hm]at hr
    clear h hn
    go_enter Tryz.func94,Tryz.ntmps94
    go_wp2_with(go_at_call 68;refine hr.mono ?_;rintro e w1 ⟨rfl,rfl⟩)
    go_ret
    exact⟨rfl,H.out,aa.refl _ _⟩
 ·rw[if_neg hi]at dW
  rw[if_pos (j8 hi),if_neg (by decide)]
  have H:=Lib.hid h
  go_enter Tryz.func94,Tryz.ntmps94
  go_wp2
  go_ret
  exact⟨rfl,H.out,aa.refl _ _⟩
end
set_option maxRecDepth 100000
set_option maxHeartbeats 1000000
theorem Ie (n:Nat) (hf:BO n):BP n:=by
 intro R w a d room lk up bR i hn h hp uA
 have hi:=h.qQ i hp
 have hl:=h.rep.l
 have dW:=h.rep.look i
 unfold j7 at dW
 rw[if_pos hi]at dW
 have lq:=h.rep.node i hi
 have hk:=lq.links
 have dS:=lq.fz 2
 have VV:=lq.fz 6
 have VW:=lq.up
 have hc:=h.cnt i hi
 have hb:=h.oq i hi
 have H:=Lib.hid h
 have hF:=h.rep.fN hi
 by_cases hz:lk i-1=0
 ·have hL:lk i=1:=by omega
  have gK:=(h.rep.Cn hi 0).Co hi 0
  rw[show setAt lk i 0=setAt lk i (lk i-1)by rw[hz]]at gK
  have hC:=H.out.dec hp gK (by rw[if_pos hz])
  have hk2:aa R.F w ((w.setCell ⟨R.g i,2,none⟩ (.int .i64 0)).setCell ⟨R.g i,6,none⟩ (.int .i64 0)):=(((aa.refl R.F w).setCell (p:=⟨R.g i,2,none⟩) (.inl hF) _).setCell (p:=⟨R.g i,6,none⟩) (.inl hF) _)
  have hfree:=hf R _ a d room _ _ _ i hn hC hi (fun j hj=>PG.Gj uA hj)
  have HC:=Lib.hid hC
  have HF:=Lib.hid hfree
  have HK:=Lib.hid hk2
  rw[hL]at hk
  clear hC hfree hk2 gK h lq hn uA hf hc hb hp hz hL
  go_enter Tryz.func122,Tryz.ntmps122
  go_wp2_with(go_at_call 110;refine HF.out.mono ?_;rintro e w1 ⟨rfl,R',d',fT,up',h1,h2,h3,h4⟩)
  go_end0
  exact⟨rfl,R',d',fT,up',h1,h2,h3,(cW.of HK.out).trans h4⟩
 ·have gK:=h.rep.Cn hi (lk i-1)
  have hC:=H.out.dec hp gK (by rw[if_neg hz])
  have hk2:aa R.F w (w.setCell ⟨R.g i,2,none⟩ (.int .i64 (lk i-1))):=((aa.refl R.F w).setCell (p:=⟨R.g i,2,none⟩) (.inl hF) _)
  have hfree:=hf R _ a d room _ _ _ i hn hC hi (fun j hj=>PG.Gj uA hj)
  have e1:IntKind.i64.wrap (lk i-1)=lk i-1:=by rw[IntKind.wrap_i64];omega
  have HC:=Lib.hid hC
  have HF:=Lib.hid hfree
  have HK:=Lib.hid hk2
  clear hC hfree hk2 gK h lq hn uA hf hc hb hp
  go_enter Tryz.func122,Tryz.ntmps122
  go_wp2_with(go_at_call 110;refine HF.out.mono ?_;rintro e w1 ⟨rfl,R',d',fT,up',h1,h2,h3,h4⟩)
  go_end0
  exact⟨rfl,R',d',fT,up',h1,h2,h3,(cW.of HK.out).trans h4⟩
end Go.Proofs.YtnanhmfpikddkaaGreatDoor
