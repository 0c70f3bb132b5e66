/-
  The plain laws of a directory's entries: lists ordered by name. No program in sight.
-/
import Derived.Lib.Bytealg
import Derived.Lib.MinMaxS
import Derived.Lib.SplitLaws
import Derived.WalkKit
import Derived.WalkSpells
import Derived.WalkLawsBesides
import Derived.Lib.Hide
import Derived.Lib.AppendZeros
import Derived.Lib.AppendZerosOnto
import Derived.Lib.Overlaps
import Derived.Deep.AppendSrc
import Derived.Deep.Draws
import Derived.KernelRfl
import Derived.Test.YtnanhmfpikddkaaGreatDoorProg
import Derived.Lib.Slices
import Derived.Shelf.Strings.SplitCore
import Derived.Shelf.Strings.Count
import Derived.Maps.OwnOps
import Derived.Maps.OwnSet
import Derived.Lib.ConvBytes
import Derived.Laws.IdiomStrings
import Derived.Deep.MidRow
import Derived.Deep.Upon
import Derived.StillTailTactics

set_option linter.unusedSimpArgs false
set_option linter.unusedVariables false
set_option maxRecDepth 100000
namespace Go.Proofs.YtnanhmfpikddkaaGreatDoor
abbrev aD:=ByteArray × Int
def bD (a b:ByteArray):Bool:=decide (a.data.toList<b.data.toList)
theorem rO (a:ByteArray):bD a a=false:=by simp[bD,List.lt_irrefl]
theorem vJ {a b c:ByteArray} (h:bD a b=true) (k:bD b c=true):bD a c=true:=by
 simp only[bD,decide_eq_true_eq]at *;exact List.lt_trans h k
theorem yw {a b:ByteArray} (h:bD a b=true):bD b a=false:=by
 cases hb:bD b a with
 | false=>rfl
 | true=>have:=vJ h hb;rw[rO]at this;cases this
theorem qL {a b:ByteArray} (h:a.data.toList=b.data.toList):a=b:=by
 cases a;cases b;congr;exact Array.toList_inj.1 h
theorem yx {a b:ByteArray} (h:bD a b=false) (k:bD b a=false):a=b:=by
 simp only[bD,decide_eq_false_iff_not,List.not_lt]at h k
 exact qL (List.le_antisymm k h)
theorem FV (a b:List UInt8):(Lib.compareBytes a b<0↔a<b)∧(Lib.compareBytes a b=0↔a=b):=by
 induction a generalizing b with
 | nil =>
   cases b with
   | nil=>simp[Lib.compareBytes]
   | cons b bs=>simp[Lib.compareBytes]
 | cons a la ih =>
   cases b with
   | nil=>simp[Lib.compareBytes]
   | cons b bs =>
     have ih:=ih bs
     unfold Lib.compareBytes
     by_cases h1:a<b
     ·have hne:a≠b:=by intro e;subst e;exact absurd h1 (UInt8.lt_irrefl _)
      simp[h1,List.cons_lt_cons_iff,hne]
     ·by_cases h2:b<a
      ·have hne:a≠b:=by intro e;subst e;exact absurd h2 (UInt8.lt_irrefl _)
       simp[h1,h2,List.cons_lt_cons_iff,hne]
      ·have he:a=b:=UInt8.le_antisymm (UInt8.not_lt.1 h2) (UInt8.not_lt.1 h1)
       subst he
       simp[List.cons_lt_cons_iff,ih.1,ih.2]
theorem MN (a b:ByteArray):decide (Lib.compareBytes a.data.toList b.data.toList<0)=bD a b:=by
 simp only[bD,(FV a.data.toList b.data.toList).1]
theorem MO (a b:ByteArray):Lib.compareBytes a.data.toList b.data.toList=0↔a=b :=
 (FV a.data.toList b.data.toList).2.trans ⟨qL,fun h=>by rw[h]⟩
theorem FW (a b:ByteArray):Op.bytesLess a.toList b.toList=bD a b:=by
 simp only[bD,Lib.toList_data]
 rw[Proofs.bytesLess_eq]
theorem toList_eq (a b:ByteArray):(a.toList==b.toList)=decide (a=b):=by
 rw[Bool.eq_iff_iff];simp only[beq_iff_eq,decide_eq_true_eq,Lib.toList_data]
 exact⟨qL,fun h=>by rw[h]⟩
def cq (l:List aD):Prop:=l.Pairwise (fun a b=>bD a.1 b.1=true)
def lb (l:List aD) (name:ByteArray):Nat:=(l.takeWhile fun e=>bD e.1 name).length
def bk (l:List aD) (name:ByteArray):Option Int:=(l.find? fun e=>decide (e.1=name)).map (·.2)
def bu (l:List aD) (name:ByteArray):Bool:=l.any fun e=>decide (e.1=name)
def bQ (l:List aD) (name:ByteArray):List aD:=l.filter fun e=>!decide (e.1=name)
def eW (l:List aD) (name:ByteArray) (n:Int):List aD:=l.map fun e=>if e.1=name then(e.1,n)else e
def bY (l:List aD) (name:ByteArray) (n:Int):List aD:=l.filter (fun e=>bD e.1 name)++[(name,n)]++l.filter (fun e=>bD name e.1)
def rP (a b:ByteArray):Int:=Lib.compareBytes a.data.toList b.data.toList
def jx (s:ByteArray) (c:UInt8):Int:=Lib.indexByte s.data.toList c
def cQ (l:List aD):Nat:=(l.map fun e=>e.1.size).sum
def hasB (s:ByteArray) (c:UInt8):Bool:=s.data.toList.contains c
def fJ (s:ByteArray):Bool :=
 decide (1<=s.size)&&decide (s.size<=255)&&s.data.toList != [46]&&s.data.toList != [46,46]&&!hasB s 47&&!hasB s 0
def bw (l:List aD) (name:ByteArray):Int :=
 if 255<name.size then 18 else if fJ name=false then 11 else if bu l name then 13 else 0
def gh (l:List aD) (name:ByteArray) (n:Int):List aD:=if bw l name=0 then bY l name n else l
def dI (l:List aD) (name:ByteArray):Int:=if bu l name then 0 else 12
def mB (l:List aD) (name:ByteArray):Int:=if bu l name then lb l name else -1
theorem MP (l:List UInt8) (c:UInt8):decide (Lib.indexByte l c<0)=!l.contains c:=by
 have hg:=Lib.indexByte_ge
 induction l with
 | nil=>rfl
 | cons b l ih =>
   unfold Lib.indexByte
   by_cases hb:(b==c)=true
   ·have:b=c:=by simpa using hb
    subst this
    simp
   ·have hne:¬c=b:=fun e=>hb (by simp[e])
    have ih':(Lib.indexByte l c<0)↔¬c∈l:=by
     have:=ih;rw[Bool.eq_iff_iff]at this;simpa using this
    have h1:=hg l c
    simp only[hb,Bool.false_eq_true,if_false]
    rw[Bool.eq_iff_iff]
    by_cases h2:Lib.indexByte l c=-1
    ·have:¬c∈l:=ih'.1 (by omega)
     simp[h2,hne,this]
    ·have:c∈l:=Decidable.byContradiction fun h=>by have:=ih'.2 h;omega
     simp[h2,hne,this];omega
theorem FY (a b:ByteArray):rP a b<0↔bD a b=true:=by
 have:=MN a b;rw[Bool.eq_iff_iff]at this;simpa[rP]using this
theorem MQ (a b:ByteArray):rP a b=0↔a=b:=MO a b
theorem yz (s:ByteArray) (c:UInt8):jx s c<0↔hasB s c=false:=by
 have:=MP s.data.toList c;rw[Bool.eq_iff_iff]at this;simpa[jx,hasB]using this
theorem ug (s:ByteArray) (c:UInt8):hasB s c=true↔∃(j:Nat) (h:j<s.size),s[j]=c:=by
 obtain⟨⟨l⟩⟩:=s
 simp only[hasB,List.contains_iff_mem]
 constructor
 ·intro h
  obtain⟨j,hj,e⟩:=List.getElem_of_mem h
  exact⟨j,hj,e⟩
 ·rintro⟨j,hj,rfl⟩
  exact List.getElem_mem (l:=l) hj
theorem qM (x:UInt8) (c:Int) (h0:0<=c) (h1:c<256):((x.toNat:Int)==c)=decide (x=c.toNat.toUInt8):=by
 have:=x.toNat_lt
 rw[Bool.eq_iff_iff,beq_iff_eq,decide_eq_true_eq]
 constructor
 ·intro h
  apply UInt8.toNat_inj.1
  have e:c.toNat.toUInt8.toNat=c.toNat % 256:=by simp
  rw[e,<- h,Int.toNat_natCast]
  omega
 ·intro h
  rw[h]
  have e:c.toNat.toUInt8.toNat=c.toNat % 256:=by simp
  rw[e];omega
theorem toList_nil (s:ByteArray):s.toList=[]↔s.size=0:=by
 rw[Lib.toList_data,Lib.size_eq,List.length_eq_zero_iff]
theorem MR (s:ByteArray):fJ s=(!s.toList.isEmpty&&decide ((s.size:Int)<=255)&&!(s.toList==[46])&&!(s.toList==[46,46])&&decide (jx s 47<0)&&decide (jx s 0<0)):=by
 have h0:=toList_nil s
 have h1:(s.toList.isEmpty=true)↔s.size=0:=by rw[List.isEmpty_iff];exact h0
 rw[Bool.eq_iff_iff]
 simp only[fJ,Bool.and_eq_true,decide_eq_true_eq,yz,Bool.not_eq_true',beq_eq_false_iff_ne,bne_iff_ne,Lib.toList_data]at *
 have h2:(s.data.toList.isEmpty=false)↔¬s.size=0:=by rw[<- h1];simp
 rw[h2]
 constructor
 ·rintro⟨⟨⟨⟨⟨a,b⟩,c⟩,d⟩,e⟩,f⟩;exact⟨⟨⟨⟨⟨by omega,by omega⟩,c⟩,d⟩,e⟩,f⟩
 ·rintro⟨⟨⟨⟨⟨a,b⟩,c⟩,d⟩,e⟩,f⟩;exact⟨⟨⟨⟨⟨by omega,by omega⟩,c⟩,d⟩,e⟩,f⟩
theorem MS (s:ByteArray):fJ s=(decide (1<=(s.size:Int))&&decide ((s.size:Int)<=255)&&!hasB s 47&&!hasB s 0&&!(s.toList==[46])&&!(s.toList==[46,46])):=by
 rw[Bool.eq_iff_iff]
 simp only[fJ,Bool.and_eq_true,decide_eq_true_eq,Bool.not_eq_true',beq_eq_false_iff_ne,bne_iff_ne,Lib.toList_data]
 constructor
 ·rintro⟨⟨⟨⟨⟨a,b⟩,c⟩,d⟩,e⟩,f⟩;exact⟨⟨⟨⟨⟨by omega,by omega⟩,e⟩,f⟩,c⟩,d⟩
 ·rintro⟨⟨⟨⟨⟨a,b⟩,c⟩,d⟩,e⟩,f⟩;exact⟨⟨⟨⟨⟨by omega,by omega⟩,e⟩,f⟩,c⟩,d⟩
/-! ### what a rising list gives -/
theorem cq.get {l:List aD} (h:cq l) {i j:Nat} {x y:aD} (hi:l[i]?=some x) (hj:l[j]?=some y) (hij:i<j):bD x.1 y.1=true:=by
 obtain⟨hi1,hi2⟩:=List.getElem?_eq_some_iff.1 hi
 obtain⟨Br,hj2⟩:=List.getElem?_eq_some_iff.1 hj
 have:=List.pairwise_iff_getElem.1 h i j hi1 Br hij
 rw[hi2,hj2]at this;exact this
theorem F3 {l:List aD} {name:ByteArray} (i:Nat) (hi:i<=l.length) (h1:∀j x,j<i->l[j]?=some x->bD x.1 name=true) (h2:∀x,l[i]?=some x->bD x.1 name=false):lb l name=i:=by
 unfold lb
 induction l generalizing i with
 | nil=>simp at hi;subst hi;rfl
 | cons a l ih =>
   cases i with
   | zero =>
     have:=h2 a rfl
     simp[List.takeWhile_cons,this]
   | succ i =>
     have ha:=h1 0 a (by omega) rfl
     rw[List.takeWhile_cons,ha]
     simp only[if_true,List.length_cons]
     congr 1
     exact ih i (by simpa using hi) (fun j x hj hx=>h1 (j+1) x (by omega) (by simpa using hx)) (fun x hx=>h2 x (by simpa using hx))
theorem MT (l:List aD) (name:ByteArray):lb l name<=l.length:=(List.takeWhile_prefix _).length_le
theorem F4 {l:List aD} {name:ByteArray} {j:Nat} {x:aD} (hj:j<lb l name) (hx:l[j]?=some x):bD x.1 name=true:=by
 unfold lb at hj
 induction l generalizing j with
 | nil=>simp at hj
 | cons a l ih =>
   by_cases ha:bD a.1 name=true
   ·rw[List.takeWhile_cons,if_pos ha]at hj
    cases j with
    | zero=>simp at hx;subst hx;exact ha
    | succ j=>exact ih (by simpa using hj) (by simpa using hx)
   ·rw[List.takeWhile_cons,if_neg ha]at hj;simp at hj
theorem MU {l:List aD} {name:ByteArray} {x:aD} (hx:l[lb l name]?=some x):bD x.1 name=false:=by
 unfold lb at hx
 induction l with
 | nil=>simp at hx
 | cons a l ih =>
   by_cases ha:bD a.1 name=true
   ·rw[List.takeWhile_cons,if_pos ha]at hx;exact ih (by simpa using hx)
   ·rw[List.takeWhile_cons,if_neg ha]at hx;simp at hx;subst hx;simpa using ha
theorem rQ {l:List aD} (h:cq l) (name:ByteArray):bu l name=match l[lb l name]? with|some x=>decide (x.1=name)|none=>false:=by
 rw[Bool.eq_iff_iff]
 simp only[bu,List.any_eq_true,decide_eq_true_eq]
 constructor
 ·rintro⟨x,hx,rfl⟩
  obtain⟨j,hj⟩:=List.mem_iff_getElem?.1 hx
  have hle:lb l x.1<=j:=Nat.le_of_not_lt fun hlt=>by have:=F4 hlt hj;rw[rO]at this;cases this
  have hjl:=(List.getElem?_eq_some_iff.1 hj).1
  obtain⟨y,hy⟩:∃y,l[lb l x.1]?=some y:=⟨_,List.getElem?_eq_getElem (by omega)⟩
  rw[hy]
  simp only[decide_eq_true_eq]
  by_cases he:lb l x.1=j
  ·rw[he]at hy;rw[hj]at hy;cases hy;rfl
  ·have h1:=h.get hy hj (by omega)
   have h2:=MU hy
   rw[h1]at h2;cases h2
 ·intro hm
  cases hl:l[lb l name]? with
  | none=>rw[hl]at hm;cases hm
  | some x=>rw[hl]at hm;exact⟨x,List.mem_of_getElem? hl,by simpa using hm⟩
theorem MV {l:List aD} (h:cq l) (name:ByteArray):l.take (lb l name)=l.filter (fun e=>bD e.1 name)∧l.drop (lb l name)=l.filter (fun e=>!bD e.1 name):=by
 unfold lb
 induction l with
 | nil=>simp
 | cons a l ih =>
   have ih:=ih (List.Pairwise.of_cons h)
   have hall:=(List.pairwise_cons.1 h).1
   by_cases ha:bD a.1 name=true
   ·simp only[List.takeWhile_cons,ha,if_true,List.length_cons,List.take_succ_cons,List.drop_succ_cons,List.filter_cons,Bool.not_true,Bool.false_eq_true,if_false]
    exact⟨by rw[ih.1],ih.2⟩
   ·have hno:∀x∈l,bD x.1 name=false:=fun x hx=>by
     cases hc:bD x.1 name with
     | false=>rfl
     | true=>exact absurd (vJ (hall x hx) hc) ha
    have e1:l.filter (fun e=>bD e.1 name)=[]:=List.filter_eq_nil_iff.2 fun x hx=>by rw[hno x hx];simp
    have e2:l.filter (fun e=>!bD e.1 name)=l:=List.filter_eq_self.2 fun x hx=>by rw[hno x hx];rfl
    simp[List.takeWhile_cons,ha,List.filter_cons,e1,e2]
theorem ne_of_lt {a b:ByteArray} (h:bD a b=true):a≠b:=fun e=>by subst e;rw[rO]at h;cases h
theorem MW {l:List aD} (h:cq l) (name:ByteArray) (n:Int) (hno:bu l name=false):l.take (lb l name)++(name,n)::l.drop (lb l name)=bY l name n:=by
 obtain⟨h1,h2⟩:=MV h name
 rw[h1,h2]
 unfold bY
 rw[List.append_assoc]
 congr 1
 rw[List.singleton_append];congr 1
 refine List.filter_congr fun x hx=>?_
 have hne:x.1≠name:=fun e=>by
  have:bu l name=true:=List.any_eq_true.2 ⟨x,hx,by simp[e]⟩
  rw[this]at hno;cases hno
 cases hc:bD x.1 name with
 | true=>rw[yw hc];rfl
 | false =>
   cases hd:bD name x.1 with
   | true=>rfl
   | false=>exact absurd (yx hc hd) hne
theorem cq.filter {l:List aD} (h:cq l) (p:aD->Bool):cq (l.filter p):=List.Pairwise.filter _ h
theorem cq.put {l:List aD} (h:cq l) (name:ByteArray) (n:Int):cq (bY l name n):=by
 unfold bY cq
 rw[List.append_assoc,List.pairwise_append]
 refine⟨h.filter _,?_,?_⟩
 ·simp only[List.singleton_append,List.pairwise_cons]
  exact⟨fun x hx=>(by simpa using(List.mem_filter.1 hx).2),h.filter _⟩
 ·intro x hx y hy
  have hx:=(List.mem_filter.1 hx).2
  simp only[List.singleton_append,List.mem_cons]at hy
  rcases hy with rfl|hy
  ·exact hx
  ·exact vJ hx (by simpa using(List.mem_filter.1 hy).2)
theorem cq.del {l:List aD} (h:cq l) (name:ByteArray):cq (bQ l name):=h.filter _
theorem cq.set {l:List aD} (h:cq l) (name:ByteArray) (n:Int):cq (eW l name n):=by
 unfold eW cq
 rw[List.pairwise_map]
 refine h.imp fun{a b} hab=>?_
 split<;>split<;>exact hab
theorem Bt {l:List aD} (h:cq l) (name:ByteArray) (hyes:bu l name=true):l.take (lb l name)++l.drop (lb l name+1)=bQ l name:=by
 rw[rQ h]at hyes
 cases hl:l[lb l name]? with
 | none=>rw[hl]at hyes;cases hyes
 | some x =>
   rw[hl]at hyes
   have hx:x.1=name:=by simpa using hyes
   have hlt:=(List.getElem?_eq_some_iff.1 hl).1
   have hsplit:l=l.take (lb l name)++x::l.drop (lb l name+1):=by
    conv=>lhs;rw[<- List.take_append_drop (lb l name) l,List.drop_eq_getElem_cons hlt]
    rw[(List.getElem?_eq_some_iff.1 hl).2]
   have hp:=h
   unfold cq at hp
   rw[hsplit,List.pairwise_append,List.pairwise_cons]at hp
   obtain⟨_,⟨ha,_⟩,hb⟩:=hp
   conv=>rhs;rw[hsplit]
   unfold bQ
   rw[List.filter_append,List.filter_cons_of_neg (by simp[hx])]
   rw[List.filter_eq_self.2 (fun y hy=>by have:=ne_of_lt (hb y hy x (by simp));rw[hx]at this;simpa using this)]
   rw[List.filter_eq_self.2 (fun y hy=>by have:=ne_of_lt (ha y hy);rw[hx]at this;simpa using(Ne.symm this))]
theorem Bu {l:List aD} (h:cq l) (name:ByteArray) (n:Int) {x:aD} (hl:l[lb l name]?=some x) (hx:x.1=name):l.set (lb l name) (x.1,n)=eW l name n:=by
 apply List.ext_getElem?
 intro j
 unfold eW
 rw[List.getElem?_map,List.getElem?_set]
 have hlt:=(List.getElem?_eq_some_iff.1 hl).1
 by_cases hj:lb l name=j
 ·subst hj
  rw[if_pos rfl,if_pos hlt,hl];simp[hx]
 ·rw[if_neg hj]
  cases hy:l[j]? with
  | none=>rfl
  | some y =>
    have hne:y.1≠name:=by
     rcases Nat.lt_or_gt_of_ne hj with hlt'|hlt'
     ·have:=ne_of_lt (h.get hl hy hlt');rw[hx]at this;exact this.symm
     ·have:=ne_of_lt (h.get hy hl hlt');rw[hx]at this;exact this
    simp[hne]
theorem get_at {l:List aD} (h:cq l) (name:ByteArray):bk l name=match l[lb l name]? with|some x=>if x.1=name then some x.2 else none|none=>none:=by
 cases hh:bu l name with
 | false =>
   have hn:l.find? (fun e=>decide (e.1=name))=none:=by
    rw[List.find?_eq_none];intro x hx hc
    have:bu l name=true:=List.any_eq_true.2 ⟨x,hx,hc⟩
    rw[this]at hh;cases hh
   rw[rQ h]at hh
   unfold bk;rw[hn]
   cases hl:l[lb l name]? with
   | none=>rfl
   | some x=>rw[hl]at hh;simp at hh;simp[hh]
 | true =>
   rw[rQ h]at hh
   cases hl:l[lb l name]? with
   | none=>rw[hl]at hh;cases hh
   | some x =>
     rw[hl]at hh
     have hx:x.1=name:=by simpa using hh
     simp only[hx,if_true]
     unfold bk
     have:l.find? (fun e=>decide (e.1=name))=some x:=by
      rw[List.find?_eq_some_iff_getElem]
      have hlt:=(List.getElem?_eq_some_iff.1 hl)
      refine⟨by simp[hx],lb l name,hlt.1,hlt.2,fun j hj=>?_⟩
      have VR:=hlt.1
      have:=ne_of_lt (F4 hj (List.getElem?_eq_getElem (by omega)))
      simpa using this
     rw[this];rfl
theorem MX {l:List aD} {name:ByteArray}:decide (mB l name<0)=!bu l name:=by
 unfold mB;cases bu l name<;>simp
theorem MY {l:List aD} (h:cq l) {name:ByteArray} {k:Nat} {x:aD} (hx:l[k]?=some x) (he:x.1=name):lb l name=k∧bu l name=true:=by
 have hh:bu l name=true:=List.any_eq_true.2 ⟨x,List.mem_of_getElem? hx,by simp[he]⟩
 refine⟨F3 k (by have:=(List.getElem?_eq_some_iff.1 hx).1;omega) (fun j y hj hy=>?_) (fun y hy=>?_),hh⟩
 ·have:=h.get hy hx hj;rw[he]at this;exact this
 ·rw[hx]at hy;cases hy;rw[he];exact rO _
theorem MZ {l:List aD} {name:ByteArray} (h:∀(k:Nat) (x:aD),l[k]?=some x->¬x.1=name):bu l name=false:=by
 rw[<- Bool.not_eq_true,bu,List.any_eq_true]
 rintro⟨x,hx,he⟩
 obtain⟨k,hk⟩:=List.mem_iff_getElem?.1 hx
 exact h k x hk (by simpa using he)
theorem Bv {α:Type} (l:List α) (p:α->Bool) (k:Nat) (x:α) (h:l[k]?=some x):(l.take (k+1)).filter p=(l.take k).filter p++(if p x then[x]else[]):=by
 rw[List.take_add_one,h]
 simp only[Option.toList_some,List.filter_append]
 cases hp:p x<;>simp[hp]
abbrev dL:ByteArray:=⟨#[47]⟩
def jg:List UInt8->List (List UInt8)
 | []=>[[]]
 | c::s=>if c=47 then[]::jg s else match jg s with
   | []=>[[c]]
   | p::r=>(c::p)::r
theorem Eu:∀s,jg s≠[]
 | []=>by simp[jg]
 | c::s=>by
   unfold jg
   split
   ·simp
   ·split<;>simp
theorem KL:∀s:List UInt8,(∀c∈s,¬c=47)->jg s=[s]
 | [],_=>rfl
 | c::s,h=>by
   unfold jg
   rw[if_neg (h c (by simp)),KL s (fun x hx=>h x (by simp[hx]))]
theorem KM:∀(p s:List UInt8),(∀c∈p,¬c=47)->jg (p++47::s)=p::jg s
 | [],s,_=>by simp[jg]
 | c::p,s,h=>by
   show jg (c::(p++47::s))=_
   rw[jg,if_neg (h c (by simp)),KM p s (fun x hx=>h x (by simp[hx]))]
def sC (l:List UInt8):ByteArray:=⟨l.toArray⟩
theorem KN (s:ByteArray):sC s.data.toList=s:=by cases s;simp[sC]
theorem SC (l:List UInt8):(sC l).data.toList=l:=by simp[sC]
theorem mN (s:ByteArray):s.data.toList.length=s.size:=(Lib.size_eq s).symm
theorem data_extract (s:ByteArray) (i j:Nat):(s.extract i j).data.toList=(s.data.toList.take j).drop i:=by
 rw[Lib.extract_data,List.drop_take]
def dY (s:ByteArray):List ByteArray:=(jg s.data.toList).map sC
def iG (s:ByteArray):List ByteArray:=(dY s).filter fun p=>!decide (p=⟨#[]⟩)
theorem KO (s:ByteArray) (f:Nat) (hf:f<=s.size) (h:∀(j:Nat) (hj:j<s.size),f<=j->¬s[j]=47):dY (s.extract f s.size)=[s.extract f s.size]:=by
 unfold dY
 rw[KL]
 ·rw[List.map_cons,List.map_nil,KN]
 ·intro c hc
  rw[data_extract]at hc
  obtain⟨k,hk,e⟩:=List.mem_iff_getElem.1 hc
  simp only[List.getElem_drop,List.getElem_take]at e
  simp only[List.length_drop,List.length_take]at hk
  have h2:f+k<s.size:=by omega
  have:=h (f+k) h2 (by omega)
  rw[<- e]
  exact this
theorem KR (s:ByteArray) (f k:Nat) (hf:f<=k) (hk:k<s.size) (hc:s[k]=47) (h:∀(j:Nat) (hj:j<s.size),f<=j->j<k->¬s[j]=47) :
 dY (s.extract f s.size)=s.extract f k::dY (s.extract (k+1) s.size):=by
 have hl:s.data.toList.length=s.size:=mN s
 have e:(s.extract f s.size).data.toList=(s.extract f k).data.toList++47::(s.extract (k+1) s.size).data.toList:=by
  rw[data_extract,data_extract,data_extract,List.take_of_length_le (by omega)]
  apply List.ext_getElem?
  intro i
  by_cases hi:i<k-f
  ·rw[List.getElem?_append_left (by simp;omega)]
   simp only[List.getElem?_drop,List.getElem?_take]
   rw[if_pos (by omega)]
  ·rw[List.getElem?_append_right (by simp;omega)]
   have e2:((s.data.toList.take k).drop f).length=k-f:=by simp;omega
   rw[e2]
   by_cases hj:i-(k-f)=0
   ·rw[hj,List.getElem?_cons_zero,List.getElem?_drop,show f+i=k by omega,List.getElem?_eq_getElem (by omega)]
    rw[<- hc];rfl
   ·obtain⟨n,hn⟩:∃n,i-(k-f)=n+1:=⟨i-(k-f)-1,by omega⟩
    rw[hn,List.getElem?_cons_succ,List.getElem?_drop,List.getElem?_drop]
    congr 1
    omega
 unfold dY
 rw[e,KM]
 ·rw[List.map_cons,KN]
 ·intro c hc
  rw[data_extract]at hc
  obtain⟨n,hn,e⟩:=List.mem_iff_getElem.1 hc
  simp only[List.getElem_drop,List.getElem_take]at e
  simp only[List.length_drop,List.length_take]at hn
  have h2:f+n<s.size:=by omega
  rw[<- e]
  exact h (f+n) h2 (by omega) (by omega)
theorem Ev (s:ByteArray):s.extract 0 s.size=s:=by
 apply qL
 rw[data_extract,List.drop_zero,List.take_of_length_le (by rw[mN];exact Nat.le_refl _)]
theorem SE (s:ByteArray):∀p∈dY s,p.size<=s.size:=by
 have key:∀l:List UInt8,∀p∈jg l,p.length<=l.length:=by
  intro l
  induction l with
  | nil=>intro p hp;simp[jg]at hp;subst hp;simp
  | cons c l ih =>
    intro p hp
    unfold jg at hp
    split at hp
    ·rcases List.mem_cons.1 hp with h|h
     ·subst h;simp
     ·have:=ih p h;simp;omega
    ·cases h:jg l with
     | nil=>exact absurd h (Eu l)
     | cons q r =>
       rw[h]at hp ih
       rcases List.mem_cons.1 hp with h2|h2
       ·subst h2;have:=ih q (by simp);simp;omega
       ·have:=ih p (by simp[h2]);simp;omega
 intro p hp
 obtain⟨l,hl,rfl⟩:=List.mem_map.1 hp
 have:=key _ l hl
 rw[<- mN (sC l),SC]
 rwa [mN]at this
theorem AE (s:ByteArray):(dY s).length<=s.size+1:=by
 have key:∀l:List UInt8,(jg l).length<=l.length+1:=by
  intro l
  induction l with
  | nil=>simp[jg]
  | cons c l ih =>
    unfold jg
    split
    ·simp;omega
    ·split
     ·simp
     ·rename_i q r h;rw[h]at ih;simp at ih ⊢;omega
 have:=key s.data.toList
 rw[mN]at this
 rw[dY,List.length_map]
 exact this
theorem KS (s:ByteArray):(iG s).length<=s.size+1:=Nat.le_trans (List.length_filter_le _ _) (AE s)
theorem KT (s:ByteArray):∀p∈iG s,p.size<=s.size:=fun p hp=>SE s p (List.mem_filter.1 hp).1
theorem SF (s:ByteArray):∀p∈iG s,¬p=⟨#[]⟩:=fun p hp=>by simpa using(List.mem_filter.1 hp).2
def cg (s:ByteArray):Bool:=decide (0<s.size∧s.data.toList[s.size-1]?=some 47)
def eK (d n:ByteArray):ByteArray:=if d=⟨#[]⟩then n else if cg d then d++n else d++dL++n
def fj (s:ByteArray):Bool:=decide (s.data.toList[0]?=some 47)
end Go.Proofs.YtnanhmfpikddkaaGreatDoor
namespace Go.Proofs.YtnanhmfpikddkaaGreatDoor
open Go.RowKit
def af:Nat->Prop:=fun _=>False
structure aa (F:Nat->Prop) (w w':World):Prop where
 os:w'.os=w.os
 tape:w'.tape=w.tape
 output:w'.output=w.output
 size:w.heap.size<=w'.heap.size
 block:∀k,k<w.heap.size->¬F k->w'.heap[k]?=w.heap[k]?
theorem aa.refl (F:Nat->Prop) (w:World):aa F w w:=⟨rfl,rfl,rfl,Nat.le_refl _,fun _ _ _=>rfl⟩
theorem aa.trans' {F G H:Nat->Prop} {a b c:World} (h:aa F a b) (k:aa G b c) (hF:∀g,g<a.heap.size->F g->H g) (hG:∀g,g<a.heap.size->G g->H g):aa H a c :=
 ⟨k.os.trans h.os,k.tape.trans h.tape,k.output.trans h.output,Nat.le_trans h.size k.size,
  fun i hi hn=>(k.block i (Nat.lt_of_lt_of_le hi h.size) (fun hg=>hn (hG i hi hg))).trans (h.block i hi (fun hf=>hn (hF i hi hf)))⟩
theorem aa.trans {F:Nat->Prop} {a b c:World} (h:aa F a b) (k:aa F b c):aa F a c:=h.trans' k (fun _ _ h=>h) (fun _ _ h=>h)
theorem aa.step {F G:Nat->Prop} {a b c:World} (h:aa F a b) (k:aa G b c) (hG:∀g,G g->F g∨a.heap.size<=g):aa F a c :=
 h.trans' k (fun _ _ h=>h) (fun g hg h=>(hG g h).elim id (fun h=>absurd hg (by omega)))
theorem aa.mono {F G:Nat->Prop} {a b:World} (h:aa F a b) (Ms:∀g,g<a.heap.size->F g->G g):aa G a b :=
 ⟨h.os,h.tape,h.output,h.size,fun i hi hn=>h.block i hi (fun hf=>hn (Ms i hi hf))⟩
theorem aa.bC {F:Nat->Prop} {a b:World} (h:aa af a b):aa F a b:=h.mono (fun _ _ h=>h.elim)
theorem aa.alloc {F:Nat->Prop} {a w:World} (h:aa F a w) (o:Obj):aa F a (w.alloc o) :=
 h.trans ⟨rfl,rfl,rfl,by simp,fun k hk _=>Below.heap_alloc _ _ _ hk⟩
theorem aa.drew {F:Nat->Prop} {a w:World} (h:aa F a w):aa F a w.drew:=⟨h.os,h.tape,h.output,h.size,h.block⟩
theorem aa.drewN {F:Nat->Prop} {a w:World} (h:aa F a w) (n:Nat):aa F a (w.drewN n):=⟨h.os,h.tape,h.output,h.size,h.block⟩
theorem aa.setCell {F:Nat->Prop} {a w:World} (h:aa F a w) {p:Addr} (hp:F p.block∨a.heap.size<=p.block) (u:Value):aa F a (w.setCell p u) :=
 ⟨h.os,h.tape,h.output,by have:=h.size;simpa[World.setCell]using this,fun k hk hn=>by
   rw[Below.heap_setCell _ _ _ _ (by rcases hp with hp|hp;· intro e;subst e;exact hn hp
                                     ·omega)];exact h.block k hk hn⟩
theorem aa.below {F:Nat->Prop} {B:Nat} {w w':World} (h:aa F w w') (hB:B<=w.heap.size) (hF:∀g,g<B->¬F g):Below B w w' :=
 ⟨h.os,h.tape,h.output,h.size,fun k hk=>h.block k (by omega) (hF k hk)⟩
theorem aa.cell {F:Nat->Prop} {w w':World} (h:aa F w w') {p:Addr} (hp:p.block<w.heap.size) (hF:¬F p.block):w'.cell? p=w.cell? p :=
 World.cell?_of_block (w:=w) (h.block p.block hp hF)
theorem aa.frozen {F:Nat->Prop} {w w':World} (h:aa F w w') {p:Addr} (hp:p.block<w.heap.size) (hF:¬F p.block):w'.frozen? p=w.frozen? p :=
 World.frozen?_of_block (w:=w) (h.block p.block hp hF)
theorem dm {w:World} {a:Addr} {v:Value} (h:w.cell? a=some v):a.block<w.heap.size:=block_lt_of_cell h
theorem lt_of_block {w:World} {g:Nat} {o:Obj} (h:w.heap[g]?=some o):g<w.heap.size:=(Array.getElem?_eq_some_iff.1 h).1
theorem add_lit (g off j:Nat):(⟨g,off,none⟩:Addr).add j=⟨g,off+j,none⟩:=by unfold Addr.add;split<;>simp_all
theorem FF {w:World} {a:Addr} {v:Value} (h:w.cell? a=some v):w.setCell a v=w:=by
 obtain⟨b,o,s⟩:=a
 have hb:=dm h
 simp only[World.cell?]at h
 cases w with
 | mk heap tape drawn os output =>
   simp only[World.setCell,World.mk.injEq,and_true]
   apply Array.ext_getElem?
   intro i
   rw[Array.getElem?_modify]
   split
   ·next e =>
    subst e
    cases hh:heap[b]? with
    | none=>simp[hh]at h
    | some x =>
      simp only[hh]at h
      cases x<;>simp only[Option.map_some]at h ⊢<;>try(cases h)
      rename_i c e f
      congr 2
      cases s with
      | some _=>simp at h
      | none =>
        simp only[Option.isSome_none,Bool.false_eq_true,if_false]at h ⊢
        apply Array.ext_getElem?
        intro j
        rw[Array.getElem?_setIfInBounds]
        split
        ·next e=>subst e;split
                 ·exact h.symm
                 ·next hn=>rw[Array.getElem?_eq_none (by omega)]at h;cases h
        ·rfl
   ·rfl
theorem Mt {w w1:World} (a:Addr) (v:Value) (h:w1.heap[a.block]?=w.heap[a.block]?):(w1.setCell a v).heap[a.block]?=(w.setCell a v).heap[a.block]?:=by
 simp only[World.setCell,Array.getElem?_modify,if_true,h]
theorem aa.Mu {F:Nat->Prop} {w w1:World} (h:aa F w w1) (a:Addr) (v:Value):aa F (w.setCell a v) (w1.setCell a v) :=
 ⟨h.os,h.tape,h.output,by have:=h.size;simpa[World.setCell]using this,fun k hk hn=>by
   have hk':k<w.heap.size:=by simpa[World.setCell]using hk
   by_cases e:k=a.block
   ·subst e;exact Mt a v (h.block _ hk' hn)
   ·rw[Below.heap_setCell _ _ _ _ e,Below.heap_setCell _ _ _ _ e];exact h.block k hk' hn⟩
structure hU (α:Type) where
 enc:α->List Value
 k:Nat
 pos:0<k
 len:∀x,(enc x).length=k
 one:∀x,∀v∈enc x,v.oneCell'=true
section
variable{α:Type} (E:hU α)
theorem hU.fY (l:List α):(l.flatMap E.enc).length=l.length*E.k:=by
 induction l with
 | nil=>simp
 | cons a l ih=>simp[ih,E.len,Nat.add_mul];omega
theorem hU.rL (l:List α):∀v∈l.flatMap E.enc,v.oneCell'=true:=by
 intro v hv
 obtain⟨x,_,hx⟩:=List.mem_flatMap.1 hv
 exact E.one x v hx
theorem hU.vF (l:List α) (i j:Nat) (hj:j<E.k):(l.flatMap E.enc)[i*E.k+j]?=(l[i]?).bind fun x=>(E.enc x)[j]?:=by
 induction l generalizing i with
 | nil=>simp
 | cons a l ih =>
   rw[List.flatMap_cons]
   cases i with
   | zero=>simp only[Nat.zero_mul,Nat.zero_add];rw[List.getElem?_append_left (by rw[E.len];exact hj)];rfl
   | succ i =>
     rw[List.getElem?_append_right (by rw[E.len,Nat.add_mul];omega),E.len]
     rw[show(i+1)*E.k+j-E.k=i*E.k+j by rw[Nat.add_mul];omega,ih]
     rfl
theorem hU.uf (l:List α) (n:Nat):(l.take n).flatMap E.enc=(l.flatMap E.enc).take (n*E.k):=by
 induction l generalizing n with
 | nil=>simp
 | cons a l ih =>
   cases n with
   | zero=>simp
   | succ n =>
     rw[List.take_succ_cons,List.flatMap_cons,List.flatMap_cons,ih,List.take_append,E.len]
     rw[List.take_of_length_le (l:=E.enc a) (by rw[E.len,Nat.add_mul];omega),show(n+1)*E.k-E.k=n*E.k by rw[Nat.add_mul];omega]
theorem hU.Mv (l:List α) (n:Nat):(l.drop n).flatMap E.enc=(l.flatMap E.enc).drop (n*E.k):=by
 induction l generalizing n with
 | nil=>simp
 | cons a l ih =>
   cases n with
   | zero=>simp
   | succ n =>
     rw[List.drop_succ_cons,List.flatMap_cons,ih,List.drop_append,E.len]
     rw[List.drop_of_length_le (l:=E.enc a) (by rw[E.len,Nat.add_mul];omega),show(n+1)*E.k-E.k=n*E.k by rw[Nat.add_mul];omega]
     rfl
structure bt (S:Nat->Prop) (w:World) (p:Option Addr) (c:Nat) (l:List α):Prop where
 cap:l.length<=c
 max:c<=maxLen
 vG:p=none->c=0
 spot:0<c->∀a,p=some a->a.spot=none
 cells:0<l.length->∃g off,p=some ⟨g,off,none⟩∧S g∧g<w.heap.size∧∀j,j<l.length*E.k->w.cell? ⟨g,off+j,none⟩=(l.flatMap E.enc)[j]?
def Sl (S:Nat->Prop) (w:World) (v:Value) (l:List α):Prop:=∃p c,v=.slice p l.length c∧bt E S w p c l
variable{E} {S:Nat->Prop} {w:World} {p:Option Addr} {c:Nat} {l:List α} {v:Value}
theorem Sl.nil (E:hU α) (S:Nat->Prop) (w:World):Sl E S w (.slice none 0 0) [] :=
 ⟨none,0,rfl,by simp,by simp,fun _=>rfl,(fun h=>by omega),(fun h=>by simp at h)⟩
theorem bt.keep {F:Nat->Prop} {w':World} (h:bt E S w p c l) (k:aa F w w') (hF:∀g,S g->g<w.heap.size->¬F g):bt E S w' p c l :=
 ⟨h.cap,h.max,h.vG,h.spot,fun h0=>by
   obtain⟨g,off,rfl,hS,hg,hc⟩:=h.cells h0
   exact⟨g,off,rfl,hS,Nat.lt_of_lt_of_le hg k.size,fun j hj=>(k.cell hg (hF g hS hg)).trans (hc j hj)⟩⟩
theorem Sl.keep {F:Nat->Prop} {w':World} (h:Sl E S w v l) (k:aa F w w') (hF:∀g,S g->g<w.heap.size->¬F g):Sl E S w' v l:=by
 obtain⟨p,c,rfl,h⟩:=h
 exact⟨p,c,rfl,h.keep k hF⟩
theorem Sl.of (h:bt E S w p c l):Sl E S w (.slice p l.length c) l:=⟨p,c,rfl,h⟩
theorem Sl.at' (h:Sl E S w (.slice p l.length c) l):bt E S w p c l:=by
 obtain⟨p',c',vH,hs⟩:=h
 cases vH
 exact hs
theorem bt.cN {S' F:Nat->Prop} {w':World} (h:bt E S w p c l) (k:aa F w w') (hF:∀g,S g->g<w.heap.size->¬F g) (hS:∀g,S g->g<w.heap.size->S' g):bt E S' w' p c l :=
 ⟨h.cap,h.max,h.vG,h.spot,fun h0=>by
   obtain⟨g,off,rfl,cI,hg,hc⟩:=h.cells h0
   exact⟨g,off,rfl,hS g cI hg,Nat.lt_of_lt_of_le hg k.size,fun j hj=>(k.cell hg (hF g cI hg)).trans (hc j hj)⟩⟩
theorem Sl.cN {S' F:Nat->Prop} {w':World} (h:Sl E S w v l) (k:aa F w w') (hF:∀g,S g->g<w.heap.size->¬F g) (hS:∀g,S g->g<w.heap.size->S' g):Sl E S' w' v l:=by
 obtain⟨p,c,rfl,h⟩:=h
 exact⟨p,c,rfl,h.cN k hF hS⟩
theorem Sl.ai {w':World} (h:Sl E S w v l) (k:aa af w w'):Sl E S w' v l:=h.keep k (fun _ _ _ h=>h)
theorem bt.ai {w':World} (h:bt E S w p c l) (k:aa af w w'):bt E S w' p c l:=h.keep k (fun _ _ _ h=>h)
theorem Sl.mono {S':Nat->Prop} (h:Sl E S w v l) (hS:∀g,S g->g<w.heap.size->S' g):Sl E S' w v l:=by
 obtain⟨p,c,rfl,h⟩:=h
 refine⟨p,c,rfl,h.cap,h.max,h.vG,h.spot,fun h0=>?_⟩
 obtain⟨g,off,rfl,cI,hg,hc⟩:=h.cells h0
 exact⟨g,off,rfl,hS g cI hg,hg,hc⟩
theorem bt.at (h:bt E S w p c l) {i:Nat} {x:α} (hi:l[i]?=some x) :
 ∃g off,p=some ⟨g,off,none⟩∧S g∧g<w.heap.size∧∀j u,(E.enc x)[j]?=some u->w.cell? ⟨g,off+(i*E.k+j),none⟩=some u:=by
 obtain⟨hil,hix⟩:=List.getElem?_eq_some_iff.1 hi
 obtain⟨g,off,hp,hS,hg,hc⟩:=h.cells (by omega)
 refine⟨g,off,hp,hS,hg,fun j u hu=>?_⟩
 have hj:j<E.k:=by have:=(List.getElem?_eq_some_iff.1 hu).1;rw[E.len]at this;exact this
 have hlt:i*E.k+j<l.length*E.k:=by
  have:(i+1)*E.k<=l.length*E.k:=Nat.mul_le_mul_right _ hil
  rw[Nat.add_mul]at this;omega
 rw[hc _ hlt,E.vF l i j hj,hi]
 exact hu
def jK (k:Nat) (p:Option Addr) (c i:Nat):Option Addr:=if c=i then p else p.map (·.add (i*k))
theorem bt.sub (h:bt E S w p c l) (i k:Nat) (hik:i<=k) (hk:k<=l.length):bt E S w (jK E.k p c i) (c-i) ((l.take k).drop i):=by
 have hcap:=h.cap
 have hmax:=h.max
 unfold jK
 by_cases FH:c=i
 ·rw[if_pos FH]
  exact⟨by simp;omega,by omega,fun _=>by omega,(fun h0=>by omega),fun h0=>by simp at h0;omega⟩
 ·rw[if_neg FH]
  cases p with
  | none=>exact absurd (h.vG rfl) (by omega)
  | some a =>
    have hsp:=h.spot (by omega) a rfl
    obtain⟨g,off,sp⟩:=a
    subst hsp
    simp only[Option.map_some,add_lit]
    refine⟨by simp;omega,by omega,(fun h=>by cases h),(fun _ a ha=>by cases ha;rfl),fun h0=>?_⟩
    obtain⟨g',off',hp,hS,hg,hc⟩:=h.cells (by simp at h0;omega)
    cases hp
    refine⟨g,off+i*E.k,rfl,hS,hg,fun j hj=>?_⟩
    have hkl:((l.take k).drop i).length=k-i:=by simp;omega
    rw[hkl]at hj
    rw[Nat.add_assoc,hc _ (by
     have:(k-i+i)*E.k<=l.length*E.k:=Nat.mul_le_mul_right _ (by omega)
     rw[Nat.add_mul]at this;omega)]
    rw[E.Mv,E.uf,List.getElem?_drop,List.getElem?_take]
    rw[if_pos (by
     have:(k-i+i)*E.k<=k*E.k:=Nat.mul_le_mul_right _ (by omega)
     rw[Nat.add_mul]at this;omega)]
def Own (E:hU α) (e:TypeId) (S:Nat->Prop) (w:World) (v:Value) (l:List α):Prop :=
 w.ownsRow 0 e E.k v l.length (l.flatMap E.enc)∧∀g,v.ownBlock=some g->S g
theorem Own.nil (E:hU α) (e:TypeId) (S:Nat->Prop) (w:World):Own E e S w (.slice none 0 0) [] :=
 ⟨by simpa using World.ownsRow_nil w 0 e E.k,fun g h=>by simp[Value.ownBlock]at h⟩
variable{e:TypeId}
theorem Own.lt (h:Own E e S w v l):∀g,v.ownBlock=some g->g<w.heap.size:=fun g hg=>(h.1.lt g hg).2
theorem Own.keep {F:Nat->Prop} {w':World} (h:Own E e S w v l) (k:aa F w w') (hF:∀g,v.ownBlock=some g->¬F g):Own E e S w' v l:=by
 refine⟨⟨h.1.1,?_⟩,h.2⟩
 rcases h.1.2 with hn|⟨g,cap,cur,hv,hg,hh,r⟩
 ·exact .inl hn
 ·subst hv
  exact .inr ⟨g,cap,cur,rfl,hg,(k.block g (lt_of_block hh) (hF g rfl)).trans hh,r⟩
theorem Own.mono {S':Nat->Prop} (h:Own E e S w v l) (hS:∀g,v.ownBlock=some g->S g->S' g):Own E e S' w v l :=
 ⟨h.1,fun g hg=>hS g hg (h.2 g hg)⟩
theorem Own.sl (h:Own E e S w v l):Sl E S w v l:=by
 rcases h.1.2 with⟨rfl,hn⟩|⟨g,cap,cur,rfl,_,hg,hcap,hmax,hsz,fZ⟩
 ·have:l=[]:=List.eq_nil_of_length_eq_zero hn
  subst this
  exact Sl.nil E S w
 ·refine⟨_,cap,rfl,hcap,hmax,(fun h=>by cases h),(fun _ a ha=>by cases ha;rfl),fun _=>⟨g,0,rfl,h.2 g rfl,lt_of_block hg,fun j hj=>?_⟩⟩
  rw[cell_of_row w g _ cur e (0,0) hg,<- fZ,List.getElem?_take,if_pos hj,Nat.zero_add]
  simp
theorem Own.cases (h:Own E e S w v l):(v=.slice none 0 0∧l=[]) ∨
 ∃g cap cur,v=.slice (some ⟨g,0,none⟩) l.length cap∧S g∧w.heap[g]?=some (.cells cur e (0,0))∧l.length<=cap∧cap<=maxLen∧cur.size=cap*E.k∧cur.toList.take (l.length*E.k)=l.flatMap E.enc:=by
 rcases h.1.2 with⟨rfl,hn⟩|⟨g,cap,cur,rfl,_,hg,hcap,hmax,hsz,fZ⟩
 ·exact .inl ⟨rfl,List.eq_nil_of_length_eq_zero hn⟩
 ·exact .inr ⟨g,cap,cur,rfl,h.2 g rfl,hg,hcap,hmax,hsz,fZ⟩
theorem Own.row (h:Own E e S w v l) (h0:0<l.length) :
 ∃g cap cur,v=.slice (some ⟨g,0,none⟩) l.length cap∧S g∧w.heap[g]?=some (.cells cur e (0,0))∧l.length<=cap∧cap<=maxLen∧cur.size=cap*E.k∧cur.toList.take (l.length*E.k)=l.flatMap E.enc:=by
 rcases h.cases with⟨_,rfl⟩|h
 ·simp at h0
 ·exact h
theorem Own.at (h:Own E e S w (.slice p l.length c) l):bt E S w p c l:=by
 obtain⟨p',c',vH,hs⟩:=h.sl
 cases vH
 exact hs
theorem Own.mk {g cap:Nat} {cur:Array Value} (hS:S g) (hg:w.heap[g]?=some (.cells cur e (0,0))) (hcap:l.length<=cap) (hmax:cap<=maxLen) (hsz:cur.size=cap*E.k)
 (fZ:cur.toList.take (l.length*E.k)=l.flatMap E.enc):Own E e S w (.slice (some ⟨g,0,none⟩) l.length cap) l :=
 ⟨⟨E.fY l,.inr ⟨g,cap,cur,rfl,Nat.zero_le _,hg,hcap,hmax,hsz,fZ⟩⟩,fun g' h=>by simp[Value.ownBlock]at h;subst h;exact hS⟩
end
def jX:hU ByteArray where
 enc:=fun s=>[.string s]
 k:=1
 pos:=by decide
 len:=fun _=>rfl
 one:=fun x v hv=>by simp at hv;subst hv;rfl
theorem bt.str {S:Nat->Prop} {w:World} {p:Option Addr} {c:Nat} {l:List ByteArray} (h:bt jX S w p c l) {i:Nat} {x:ByteArray} (hi:l[i]?=some x) :
 ∃g off,p=some ⟨g,off,none⟩∧S g∧g<w.heap.size∧w.cell? ⟨g,off+i,none⟩=some (.string x):=by
 obtain⟨g,off,hp,hS,hg,hc⟩:=h.at hi
 refine⟨g,off,hp,hS,hg,?_⟩
 have:=hc 0 _ rfl
 rwa [Nat.add_zero,show jX.k=1 from rfl,Nat.mul_one]at this
structure pT {α:Type} (P:Program) (E:hU α) (t e:TypeId) (z:α) (bytes:Nat):Prop where
 under:P.underlying t=some (.slice e)
 info:∃i:TypeInfo,P.info? e=some i∧i.size=E.k∧i.bytes=bytes∧∃zv,i.zero=some zv∧zv.cells.toList=E.enc z
section
variable{α:Type} {E:hU α} {P:Program} {t e:TypeId} {z:α} {bytes:Nat} {S:Nat->Prop} {w:World}
theorem FI (zc:Array Value) (n:Nat) (hz:zc.toList=E.enc z):(Builtin.zeroCells zc n).toList=(List.replicate n z).flatMap E.enc:=by
 have hs:zc.size=E.k:=by rw[<- Array.length_toList,hz,E.len]
 apply List.ext_getElem?
 intro j
 have hk:=E.pos
 by_cases hj:j<n*E.k
 ·have hd:=Nat.div_add_mod j E.k
  have hm:=Nat.mod_lt j hk
  have hq:j / E.k<n:=Nat.div_lt_of_lt_mul (by rw[Nat.mul_comm];exact hj)
  have e1:(List.replicate n z).flatMap E.enc=(List.replicate n z).flatMap E.enc:=rfl
  rw[show j=(j / E.k)*E.k+j % E.k by rw[Nat.mul_comm];omega,E.vF _ _ _ hm]
  simp only[List.getElem?_replicate,hq,if_true,Option.bind_some]
  simp only[Builtin.zeroCells,Array.toList_map,Array.toList_range,List.getElem?_map,hs]
  rw[List.getElem?_range (by rw[Nat.mul_comm];omega)]
  simp only[Option.map_some]
  have hmm:(j / E.k*E.k+j % E.k) % E.k=j % E.k:=by rw[Nat.mul_comm,Nat.mul_add_mod];exact Nat.mod_eq_of_lt hm
  rw[hmm,<- hz,Array.getElem?_toList,getElem!_pos zc _ (by rw[hs];exact hm),Array.getElem?_eq_getElem (by rw[hs];exact hm)]
 ·rw[List.getElem?_eq_none (by simp[Builtin.zeroCells,hs];omega),List.getElem?_eq_none (by rw[E.fY];simp;omega)]
theorem FK (l spare:List α) (hS:S w.heap.size) (hmax:l.length+spare.length<=maxLen) (cs:Array Value) (hcs:cs.toList=(l++spare).flatMap E.enc) :
 Own E e S (w.alloc (.cells cs e)) (.slice (some ⟨w.heap.size,0,none⟩) l.length (l.length+spare.length)) l:=by
 refine Own.mk (cur:=cs) hS (heap_alloc_new w _) (by omega) hmax ?_ ?_
 ·rw[<- Array.length_toList,hcs,E.fY];simp
 ·rw[hcs,<- E.uf];simp
theorem nM (l:List α) (cs:Array Value) (hcs:cs.toList=l.flatMap E.enc) (n:Nat) (hn:n=l.length) (hS:S w.heap.size) (hm:n<=maxLen) :
 Own E e S (w.alloc (.cells cs e)) (.slice (some ⟨w.heap.size,0,none⟩) n n) l:=by
 subst hn
 have:=FK (E:=E) (e:=e) (S:=S) (w:=w) l [] hS (by simpa using hm) cs (by simpa using hcs)
 simpa using this
theorem FL (T:pT P E t e z bytes) (ty:TypeId) {v x:Value} {l m:List α} {S2:Nat->Prop} (ho:Own E e S w v l) (hx:Sl E S2 w x m)
 (hS:S w.heap.size) (h63:l.length+m.length<=maxLen) (hb:(l.length+m.length)*bytes<=140737488355328) :
 ∃v' w',(Builtin.append_ #[t,t] ty #[v,x]).run P w=.ok v' w'∧Own E e S w' v' (l++m)∧aa (fun g=>v.ownBlock=some g) w w' ∧
  (∀g,v'.ownBlock=some g->v.ownBlock=some g∨w.heap.size<=g):=by
 obtain⟨i,hi,hik,hib,zv,hz,hzc⟩:=T.info
 obtain⟨p,c,rfl,hm⟩:=hx
 have h63':((l.length+m.length:Nat):Int)<=9223372036854775807:=by simp only[maxLen]at h63;omega
 have Mw:∀cs:Array Value,aa (fun g=>v.ownBlock=some g) w (w.drew.alloc (.cells cs e)):=fun cs=>((aa.refl _ w).drew).alloc _
 -- the source's cells,at once and behind a draw
 have hsrc:∀w',(∀a,w'.cell? a=w.cell? a)->(Builtin.firstCells i.size m.length (.slice p m.length c)).run P w'=.ok (m.flatMap E.enc).toArray w':=by
  intro w' hw
  by_cases h0:m.length=0
  ·have:m=[]:=List.eq_nil_of_length_eq_zero h0
   subst this
   cases p with
   | none=>exact run_firstCells_none _ _ _ _ _
   | some a=>exact run_firstCells_some w' i.size 0 a 0 c [] (by simp) (fun j v h=>by simp at h)
  ·obtain⟨g,off,rfl,_,hg,hc⟩:=hm.cells (by omega)
   refine run_firstCells_some w' i.size m.length _ _ _ _ (by rw[E.fY,hik]) (fun j u hu=>?_)
   rw[add_lit,hw,hc j (by have:=(List.getElem?_eq_some_iff.1 hu).1;rw[E.fY]at this;exact this)]
   exact hu
 have yc:Src P i.size t (.slice p m.length c) m.length (m.flatMap E.enc) w :=
  ⟨.inl ⟨e,T.under⟩,fun _=>rfl,hsrc w (fun _=>rfl),hsrc w.drew (fun _=>rfl),by rw[E.fY,hik],E.rL m⟩
 have hgrow:∀base sLen sCap,l.length=sLen->sCap<sLen+m.length ->
  (Builtin.firstCells i.size sLen (.slice base sLen sCap)).run P w.drew=.ok (l.flatMap E.enc).toArray w.drew ->
  ∃v' w',(Builtin.append_ #[t,t] ty #[.slice base sLen sCap,.slice p m.length c]).run P w=.ok v' w'∧Own E e S w' v' (l++m)∧aa (fun g=>v.ownBlock=some g) w w' ∧
   (∀g,v'.ownBlock=some g->v.ownBlock=some g∨w.heap.size<=g):=by
  intro base sLen sCap hl hlt hold
  subst hl
  have hr:=run_append_grow_src (P:=P) w t t ty e i zv T.under hi hz base l.length sCap (l.flatMap E.enc) hold _ m.length _ yc hlt h63' (growslice_fits hlt (by rw[hib];exact hb))
  have hge:=grownCap_ge w (l.length+m.length) sCap e
  have hle:=grownCap_le_maxLen w (l.length+m.length) sCap e h63
  refine⟨_,_,hr,?_,Mw _,fun g hg=>by simp[Value.ownBlock]at hg;right;omega⟩
  have hfr:=FK (E:=E) (e:=e) (S:=S) (w:=w.drew) (l++m) (List.replicate (grownCap w (l.length+m.length) sCap e-(l.length+m.length)) z) hS
   (by simp;omega) ((l.flatMap E.enc++m.flatMap E.enc).toArray++Builtin.zeroCells zv.cells (grownCap w (l.length+m.length) sCap e-(l.length+m.length)))
   (by simp[FI (E:=E) zv.cells _ hzc])
  rw[show(l++m).length+(List.replicate (grownCap w (l.length+m.length) sCap e-(l.length+m.length)) z).length=grownCap w (l.length+m.length) sCap e by simp;omega]at hfr
  rw[show(l++m).length=l.length+m.length by simp]at hfr
  exact hfr
 rcases ho.cases with⟨rfl,rfl⟩|⟨g,cap,cur,rfl,cI,hg,hcap,hmax,hsz,fZ⟩
 ·by_cases h0:m.length=0
  ·have:m=[]:=List.eq_nil_of_length_eq_zero h0
   subst this
   refine⟨.slice none 0 0,w,?_,Own.nil E e S w,aa.refl _ w,fun g hg=>.inl hg⟩
   have:=hsrc w (fun _=>rfl)
   simp only[List.length_nil]at this ⊢
   simp[Builtin.append_,run_underlying T.under,sizeOf,typeInfo,hi,Builtin.lenOf,this]
  ·exact hgrow none 0 0 rfl (by simp;omega) (run_firstCells_none _ _ _ _ _)
 ·by_cases hroom:l.length+m.length<=cap
  ·have hr:=run_append_room_src (P:=P) w t t ty e i T.under hi g 0 l.length cap _ m.length (m.flatMap E.enc) yc hroom
    (fun j hj=>by
      rw[E.fY]at hj
      have:(l.length+m.length)*E.k<=cap*E.k:=Nat.mul_le_mul_right _ hroom
      rw[Nat.add_mul]at this
      rw[cell_of_row w g _ cur e (0,0) hg,Array.getElem?_eq_getElem (by rw[hik,hsz];omega)];rfl)
    (fun j _=>frozen_of_row w g _ cur e hg)
   have hfit:l.length*E.k+(m.flatMap E.enc).length<=cur.size:=by
    have:(l.length+m.length)*E.k<=cap*E.k:=Nat.mul_le_mul_right _ hroom
    rw[Nat.add_mul]at this;rw[E.fY,hsz];omega
   have rM:=run_storeCells_at P g (l.length*E.k) e (m.flatMap E.enc) 0 cur w hg (by simpa using hfit) (E.rL m)
   have Bm:=run_storeCells_cells (P:=P) g (l.length*E.k) (m.flatMap E.enc) 0 w
    (fun j hj=>by rw[cell_of_row w g _ cur e (0,0) hg,Array.getElem?_eq_getElem (by omega)];rfl) (fun j _=>frozen_of_row w g _ cur e hg) (E.rL m)
   have hw:w.setCells g (0+l.length*i.size) (m.flatMap E.enc)=w.setRow g (cur.toList.take (l.length*E.k)++m.flatMap E.enc++cur.toList.drop (l.length*E.k+(m.flatMap E.enc).length)).toArray:=by
    rw[hik,Nat.zero_add]
    rw[Bm]at rM
    simp only[Nat.add_zero]at rM
    injection rM
   rw[hw]at hr
   refine⟨_,_,hr,?_,⟨rfl,rfl,rfl,by simp,fun k _ hk=>setRow_other w g k _ (fun e=>hk (by simp[Value.ownBlock,e]))⟩,fun g' hg'=>.inl hg'⟩
   rw[show l.length+m.length=(l++m).length by simp]
   refine Own.mk cI (setRow_heap w g cur _ e _ hg) (by simpa using hroom) hmax ?_ ?_
   ·have hL:cur.toList.length=cap*E.k:=by rw[Array.length_toList];exact hsz
    rw[List.size_toArray,List.length_append,List.length_append,List.length_take,List.length_drop];omega
   ·rw[fZ,<- E.fY,List.flatMap_append]
    simp only[List.append_assoc]
    rw[<- List.append_assoc]
    exact List.take_left
  ·refine hgrow _ _ _ rfl (by omega) (run_firstCells_some w.drew i.size l.length ⟨g,0,none⟩ l.length cap _ (by rw[E.fY,hik]) (fun j u hu=>?_))
   rw[add_lit,World.cell?_drew,cell_of_row w g _ cur e (0,0) hg,Nat.zero_add,<- hu,<- fZ,List.getElem?_take,if_pos (by have:=(List.getElem?_eq_some_iff.1 hu).1;rw[E.fY]at this;exact this)]
   simp
end
theorem Mx {α:Type} {E:hU α} {P:Program} {e:TypeId} {i:TypeInfo} {w:World} (dT sT ty:TypeId) (hu:P.underlying dT=some (.slice e)) (hi:P.info? e=some i) (hik:i.size=E.k)
 (g o dLen dCap:Nat) (cur:Array Value) (t:TypeId) (hg:w.heap[g]?=some (.cells cur t (0,0))) {S:Nat->Prop} {p:Option Addr} {n c c':Nat} {m:List α} (hn:m.length=Nat.min n dLen) (hs:bt E S w p c' m)
 (hfit:o+m.length*E.k<=cur.size) :
 (Builtin.copy_ #[dT,sT] ty #[.slice (some ⟨g,o,none⟩) dLen dCap,.slice p n c]).run P w =
   .ok (goInt m.length) (w.setRow g (cur.toList.take o++m.flatMap E.enc++cur.toList.drop (o+m.length*E.k)).toArray):=by
 have hlen:=E.fY m
 have hst:=run_storeCells_at P g o t (m.flatMap E.enc) 0 cur w hg (by rw[hlen];simpa using hfit) (E.rL _)
 have hf:(Builtin.firstCells i.size m.length (.slice p n c)).run P w=.ok (m.flatMap E.enc).toArray w:=by
  by_cases h0:m.length=0
  ·have:m=[]:=List.eq_nil_of_length_eq_zero h0
   subst this
   cases p with
   | none=>exact run_firstCells_none _ _ _ _ _
   | some a=>exact run_firstCells_some w i.size 0 a _ c [] (by simp) (fun j v h=>by simp at h)
  ·obtain⟨g',off,rfl,_,_,hc⟩:=hs.cells (Nat.pos_of_ne_zero h0)
   refine run_firstCells_some w i.size _ _ _ _ _ (by rw[hlen,hik]) (fun j u hu=>?_)
   have hj:=(List.getElem?_eq_some_iff.1 hu).1
   rw[hlen]at hj
   rw[add_lit,hc j hj,<- hu]
 simp only[Nat.add_zero]at hst
 rw[hlen]at hst
 simp[Builtin.copy_,run_underlying hu,Builtin.lenOf,sizeOf,typeInfo,hi,<- hn,hf,hst]
theorem yg {α:Type} {E:hU α} {P:Program} {e:TypeId} {i:TypeInfo} {w:World} {ops:Array Oper} {Q:Exit->Act->World->Prop} {rest:List Oper} {op:Oper} {a:Act}
 (hgd:op.guard=none) (d s:Operand) (dT sT:TypeId) (ho:op.op=.call { callee:=.builtin .copy,args:=#[d,s],argTypes:=#[dT,sT] })
 (hu:P.underlying dT=some (.slice e)) (hi:P.info? e=some i) (hik:i.size=E.k)
 (g o dLen dCap:Nat) (hd:a.eval d=.slice (some ⟨g,o,none⟩) dLen dCap) (cur:Array Value) (t:TypeId) (hg:w.heap[g]?=some (.cells cur t (0,0)))
 {S:Nat->Prop} {p:Option Addr} {c c' n:Nat} {m:List α} (hs:a.eval s=.slice p n c) (hm:bt E S w p c' m) (hn:m.length=Nat.min n dLen) (hfit:o+m.length*E.k<=cur.size)
 (h:wpList P ops Q rest (a.put op.dst (goInt m.length)) (w.setRow g (cur.toList.take o++(m.flatMap E.enc++cur.toList.drop (o+m.length*E.k))).toArray)) :
 wpList P ops Q (op::rest) a w:=by
 refine wpList_plain hgd fun K hK=>?_
 have hrun:=Mx (E:=E) (P:=P) dT sT op.type hu hi hik g o dLen dCap cur t hg (c:=c) hn hm hfit
 unfold Oper.wp
 simp[execOp,ho,resolve,invoke,builtin,hd,hs,hrun,Result.andThen]
 exact hK _ _ h
theorem My {α:Type} {E:hU α} {P:Program} {t e:TypeId} {z:α} {bytes:Nat} {w:World} (T:pT P E t e z bytes) (ty:TypeId) (g n c:Nat) (cur:Array Value)
 (hg:w.heap[g]?=some (.cells cur e (0,0))) (hcs:cur.size=c*E.k) {S:Nat->Prop} {p:Option Addr} {c':Nat} {m:List α} (hm:bt E S w p c' m) (hroom:n+m.length<=c) :
 (Builtin.append_ #[t,t] ty #[.slice (some ⟨g,0,none⟩) n c,.slice p m.length c']).run P w =
   .ok (.slice (some ⟨g,0,none⟩) (n+m.length) c) (w.setRow g (cur.toList.take (n*E.k)++m.flatMap E.enc++cur.toList.drop (n*E.k+m.length*E.k)).toArray):=by
 obtain⟨i,hi,hik,hib,zv,hz,hzc⟩:=T.info
 have hfl:=E.fY m
 have hsrc:∀w',(∀a,w'.cell? a=w.cell? a)->(Builtin.firstCells i.size m.length (.slice p m.length c')).run P w'=.ok (m.flatMap E.enc).toArray w':=by
  intro w' hw
  by_cases h0:m.length=0
  ·have:m=[]:=List.eq_nil_of_length_eq_zero h0
   subst this
   cases p with
   | none=>exact run_firstCells_none _ _ _ _ _
   | some a=>exact run_firstCells_some w' i.size 0 a 0 c' [] (by simp) (fun j v h=>by simp at h)
  ·obtain⟨g,off,rfl,_,hg,hc⟩:=hm.cells (by omega)
   refine run_firstCells_some w' i.size m.length _ _ _ _ (by rw[hfl,hik]) (fun j u hu=>?_)
   rw[add_lit,hw,hc j (by have:=(List.getElem?_eq_some_iff.1 hu).1;rw[hfl]at this;exact this)]
   exact hu
 have yc:Src P i.size t (.slice p m.length c') m.length (m.flatMap E.enc) w :=
  ⟨.inl ⟨e,T.under⟩,fun _=>rfl,hsrc w (fun _=>rfl),hsrc w.drew (fun _=>rfl),by rw[hfl,hik],E.rL m⟩
 have hfit:n*E.k+m.length*E.k<=c*E.k:=by rw[<- Nat.add_mul];exact Nat.mul_le_mul_right _ hroom
 have hr:=run_append_room_src (P:=P) w t t ty e i T.under hi g 0 n c _ m.length (m.flatMap E.enc) yc hroom
  (fun j hj=>by
    rw[hfl]at hj
    rw[cell_of_row w g _ cur e (0,0) hg,Array.getElem?_eq_getElem (by rw[hik,hcs];omega)];rfl)
  (fun j _=>frozen_of_row w g _ cur e hg)
 have rM:=run_storeCells_at P g (n*E.k) e (m.flatMap E.enc) 0 cur w hg (by rw[hfl,hcs];simpa using hfit) (E.rL m)
 have Bm:=run_storeCells_cells (P:=P) g (n*E.k) (m.flatMap E.enc) 0 w
  (fun j hj=>by rw[hfl]at hj;rw[cell_of_row w g _ cur e (0,0) hg,Array.getElem?_eq_getElem (by omega)];rfl) (fun j _=>frozen_of_row w g _ cur e hg) (E.rL m)
 rw[Bm]at rM
 simp only[Nat.add_zero]at rM
 rw[hfl]at rM
 rw[hr,hik,Nat.zero_add]
 injection rM with _ h
 rw[h]
theorem Mz {α:Type} {E:hU α} {P:Program} {t e:TypeId} {z:α} {bytes:Nat} {w:World} (T:pT P E t e z bytes) (ty:TypeId) (g o n c:Nat) (cur:Array Value)
 (hg:w.heap[g]?=some (.cells cur e (0,0))) (hfit:o+n*E.k<=cur.size) (hn:0<n) :
 (Builtin.clear_ #[t] ty #[.slice (some ⟨g,o,none⟩) n c]).run P w =
   .ok (.tuple #[]) (w.setRow g (cur.toList.take o++(List.replicate n z).flatMap E.enc++cur.toList.drop (o+n*E.k)).toArray):=by
 obtain⟨i,hi,hik,hib,zv,hz,hzc⟩:=T.info
 have hfl:((List.replicate n z).flatMap E.enc).length=n*E.k:=by rw[E.fY];simp
 have hst:=run_storeCells_at P g o e ((List.replicate n z).flatMap E.enc) 0 cur w hg (by rw[hfl];simpa using hfit) (E.rL _)
 simp only[Nat.add_zero]at hst
 rw[hfl]at hst
 have hzl:=FI (E:=E) zv.cells n hzc
 cases n with
 | zero=>omega
 | succ n =>
   simp only[Builtin.clear_,run_underlying T.under,Sem.run_bind,Sem.run_pure,Result.andThen,List.getElem?_toArray,List.getElem?_cons_zero]
   simp[zeroValue,typeInfo,hi,hz,Sem.run_bind,Result.andThen,hzl,hst]
theorem MA {P:Program} {w:World} {ops:Array Oper} {Q:Exit->Act->World->Prop} {rest:List Oper} {o:Oper} {a:Act} (hgd:o.guard=none) (s:Operand) (t:TypeId)
 (ho:o.op=.call { callee:=.builtin .clear,args:=#[s],argTypes:=#[t] }) (vs:Value) (hvs:a.eval s=vs) (v':Value) (w':World)
 (hr:(Builtin.clear_ #[t] o.type #[vs]).run P w=.ok v' w') (h:wpList P ops Q rest (a.put o.dst v') w'):wpList P ops Q (o::rest) a w:=by
 refine wpList_plain hgd fun K hK=>?_
 unfold Oper.wp execOp
 simp only[ho,resolve,invoke,builtin,Sem.run_bind,Sem.run_pure,Result.andThen_ok,List.map_toArray,List.map_cons,List.map_nil,hvs,hr]
 exact hK _ _ h
theorem MB {β:Type} (C A V B C2 C3:List β) (hA:C.take A.length=A) (hl:A.length+V.length+B.length<=C.length)
 (h2:C2=C.take A.length++(V++C.drop (A.length+V.length))) (h3:C3=C2.take (A.length+V.length)++(B++C2.drop (A.length+V.length+B.length))) :
 C3.take (A.length+V.length+B.length)=A++(V++B)∧C3.length=C.length:=by
 rw[hA]at h2
 have MC:C2.length=C.length:=by rw[h2];simp;omega
 have e:C2.take (A.length+V.length)=A++V:=by
  rw[h2,<- List.append_assoc,<- List.length_append];exact List.take_left
 rw[e]at h3
 refine⟨?_,by rw[h3];simp;omega⟩
 rw[h3,<- List.append_assoc,<- List.append_assoc,<- List.length_append,<- List.length_append]
 exact List.take_left
theorem MD {β:Type} (C A V B C2 C3:List β) (hA:C.take A.length=A) (hl:A.length+V.length+B.length<=C.length)
 (h2:C2=C.take (A.length+V.length)++(B++C.drop (A.length+V.length+B.length))) (h3:C3=C2.take A.length++(V++C2.drop (A.length+V.length))) :
 C3.take (A.length+V.length+B.length)=A++(V++B)∧C3.length=C.length:=by
 have MC:C2.length=C.length:=by rw[h2];simp;omega
 have yh:(C.take (A.length+V.length)).length=A.length+V.length:=by simp;omega
 have e:C2.take A.length=A:=by
  rw[h2,List.take_append_of_le_length (by rw[yh];omega),List.take_take,Nat.min_eq_left (by omega),hA]
 have e2:C2.drop (A.length+V.length)=B++C.drop (A.length+V.length+B.length):=by
  rw[h2,<- yh];rw[yh];conv=>lhs;arg 1;rw[<- yh]
  exact List.drop_left
 rw[e,e2]at h3
 refine⟨?_,by rw[h3];simp;omega⟩
 rw[h3,<- List.append_assoc,<- List.append_assoc,<- List.append_assoc,<- List.length_append,<- List.length_append]
 exact List.take_left
theorem aa.setRow {F:Nat->Prop} {a w:World} (h:aa F a w) {g:Nat} (hg:F g∨a.heap.size<=g) (cs:Array Value):aa F a (w.setRow g cs) :=
 ⟨h.os,h.tape,h.output,by have:=h.size;simpa using this,fun k hk hn=>by
   rw[setRow_other w g k cs (by rcases hg with hg|hg;· intro e;subst e;exact hn hg
                                ·omega)];exact h.block k hk hn⟩
theorem run_slice_l {P:Program} (t e:TypeId) (size:Nat) (ht:P.underlying t=some (.slice e)) (hz:(P.info? e).map (·.size)=some size) (p:Option Addr) (n c i:Nat) (h1:i<=n) (w:World) (hc:n<=9223372036854775807) :
 (Instr.slice t (.slice p n c) (some (.int .i64 i)) none none).run P w=.ok (.slice (jK size p c i) (n-i) (c-i)) w:=by
 cases hi:P.info? e with
 | none=>rw[hi]at hz;cases hz
 | some inf =>
   rw[hi]at hz
   have hs:inf.size=size:=by simpa using hz
   simp[Instr.slice,Instr.sliceBounds,Instr.sliceBound,asIntOf,run_underlying ht,sizeOf,typeInfo,hi,hs,jK,h1]
theorem run_slice_h {P:Program} (t e:TypeId) (ht:P.underlying t=some (.slice e)) (hz:((P.info? e).map (·.size)).isSome=true) (g off n c k:Nat) (h1:k<=c) (w:World) (hc:c<=9223372036854775807) :
 (Instr.slice t (.slice (some ⟨g,off,none⟩) n c) none (some (.int .i64 k)) none).run P w=.ok (.slice (some ⟨g,off,none⟩) k c) w:=by
 cases hi:P.info? e with
 | none=>rw[hi]at hz;cases hz
 | some inf=>simp[Instr.slice,Instr.sliceBounds,Instr.sliceBound,asIntOf,run_underlying ht,sizeOf,typeInfo,hi,h1,add_lit]
theorem Bn {P:Program} {a:Act} {w:World} {Q:Exit->Act->World->Prop} {c r:Code} (l:Nat) (J:Act->World->Prop) (μ:Act->World->Nat) (hf:findLabel c l=some (Code.skip.seq r))
 (first:(∀a w,J a w->r.wp P (Exit.jump l J Q) a w)->c.wp P (Exit.jump l J Q) a w)
 (pass:∀a w,J a w->r.wp P (Exit.jump l (fun a' w'=>J a' w'∧μ a' w'<μ a w) Q) a w):(Code.scope c).wp P Q a w:=by
 refine wp_scope_jumps l J μ hf (first fun a w hJ=>?_) (fun a w hJ=>wp_seq (wp_skip ?_))
 ·show r.wp P (Exit.jump l J Q) a w
  refine wp_mono (pass a w hJ) fun e a w h=>?_
  cases e<;>first|exact h|exact⟨h.1,h.2.1⟩
 ·exact pass a w hJ
theorem mw {α:Type} {E:hU α} {P:Program} {t e:TypeId} {z:α} {bytes:Nat} {S:Nat->Prop} {w:World} {ops:Array Oper} {Q:Exit->Act->World->Prop} {rest:List Oper} {o:Oper} {a:Act}
 (hgd:o.guard=none) (s x:Operand) (ho:o.op=.call { callee:=.builtin .append,args:=#[s,x],argTypes:=#[t,t] }) (T:pT P E t e z bytes)
 {v xv:Value} {l m:List α} {S2:Nat->Prop} (hown:Own E e S w v l) (hsl:Sl E S2 w xv m) (hs:a.eval s=v) (hx:a.eval x=xv) (hS:S w.heap.size)
 (h63:l.length+m.length<=maxLen) (hb:(l.length+m.length)*bytes<=140737488355328)
 (h:∀v' w',Own E e S w' v' (l++m)->aa (fun g=>v.ownBlock=some g) w w'->(∀g,v'.ownBlock=some g->v.ownBlock=some g∨w.heap.size<=g)->wpList P ops Q rest (a.put o.dst v') w') :
 wpList P ops Q (o::rest) a w:=by
 obtain⟨v',w',hr,h1,h2,h3⟩:=FL T o.type hown hsl hS h63 hb
 exact Lib.wpList_append_run w hgd s x t t ho v xv hs hx v' w' hr (h v' w' h1 h2 h3)
theorem kA {P:Prop} (h:P:=by(repeat(first|with_reducible assumption|(with_reducible exact aa.refl _ _)|(with_reducible refine aa.drew ?_)|(with_reducible refine aa.drewN ?_ _)|(with_reducible refine aa.alloc ?_ _)|(with_reducible refine aa.setCell ?_ (by first|exact Or.inl rfl|exact Or.inr (Nat.le_refl _)|exact Or.inr (by first|(simp;done)|(simp;omega))) _)))<;>fail):P:=h
theorem kB {P:Prop} (h:P:=by(repeat(first|with_reducible assumption|(with_reducible exact aa.refl _ _)|(with_reducible refine aa.drew ?_)|(with_reducible refine aa.alloc ?_ _)|(with_reducible refine aa.setCell ?_ (by first|exact Or.inl rfl|exact Or.inr (Nat.le_refl _)|exact Or.inr (by first|(simp;done)|(simp;omega))) _)))<;>fail):P:=h
theorem kC {P:Prop} (h:P:=by(repeat(first|with_reducible assumption|(with_reducible exact aa.refl _ _)|(with_reducible refine aa.drew ?_)|(with_reducible refine aa.drewN ?_ _)|(with_reducible refine aa.alloc ?_ _)|(with_reducible refine aa.setCell ?_ (by first|exact Or.inr (Nat.le_refl _)|exact Or.inr (by first|(simp;done)|(simp;omega))) _)))<;>fail):P:=h
theorem kD {P:Prop} (h:P:=by(repeat(first|with_reducible assumption|(with_reducible exact aa.refl _ _)|(with_reducible refine aa.drew ?_)|(with_reducible refine aa.drewN ?_ _)))<;>fail):P:=h
theorem kE {P:Prop} (h:P:=by(repeat(first|with_reducible assumption|(with_reducible exact aa.refl _ _)|(with_reducible refine aa.drew ?_)|(with_reducible refine aa.alloc ?_ _)|(with_reducible refine aa.setCell ?_ (by first|exact Or.inl rfl|exact Or.inr (Nat.le_refl _)|exact Or.inr (Nat.le_succ _)|exact Or.inr (by first|(simp;done)|(simp;omega))) _)))<;>fail):P:=h
theorem kF {P:Prop} (h:P:=by(repeat(first|with_reducible assumption|(with_reducible refine di.set ?_ (by first|exact hgB|(simp;omega)) _ _)|(with_reducible refine di.alloc ?_ _)|(with_reducible refine di.drew ?_)))<;>fail):P:=h
theorem kG {P:Prop} (h:P:=by(repeat(first|with_reducible assumption|(with_reducible exact aa.refl _ _)|(with_reducible refine aa.drew ?_)|(with_reducible refine aa.alloc ?_ _)|(with_reducible refine aa.setCell ?_ (Or.inr (by first|exact Nat.le_refl _|(simp;omega))) _)))<;>fail):P:=h
end Go.Proofs.YtnanhmfpikddkaaGreatDoor
namespace Go.Proofs.YtnanhmfpikddkaaGreatDoor
open Go Go.RowKit
theorem Jn {w:World} {g j k:Nat} {v u:Value} (h:w.cell? ⟨g,j,none⟩=some v):(w.setCell ⟨g,k,none⟩ u).cell? ⟨g,j,none⟩=some (if j=k then u else v):=by
 by_cases e:j=k
 ·subst e;rw[if_pos rfl];exact World.cell?_setCell_same _ _ _ h
 ·rw[if_neg e,World.cell?_setCell_other _ _ _ _ (by simp[e])];exact h
theorem QO (w:World) (p q:Addr) (u:Value):(w.setCell p u).frozen? q=w.frozen? q:=by simp
structure Bk (w:World) (B:Nat) (l:List Value):Prop where
 lt:B<w.heap.size
 cell:∀i v,l[i]?=some v->w.cell? ⟨B,i,none⟩=some v
 fz:∀j,w.frozen? ⟨B,j,none⟩=false
section
variable{w w':World} {B:Nat} {l:List Value}
theorem Bk.new {cs:Array Value} {T:TypeId} (k:aa af (w.alloc (.cells cs T)) w'):Bk w' w.heap.size cs.toList:=by
 have hn:=heap_alloc_new w (.cells cs T)
 have h4:=(k.block w.heap.size (by simp) (fun h=>h)).trans hn
 refine⟨Nat.lt_of_lt_of_le (by simp) k.size,fun i v hv=>?_,fun j=>frozen_of_row w' _ j _ T h4⟩
 rw[cell_of_row w' _ i _ T (0,0) h4,<- Array.getElem?_toList]
 exact hv
theorem Bk.keep {G:Nat->Prop} (h:Bk w B l) (k:aa G w w') (hB:¬G B):Bk w' B l :=
 ⟨Nat.lt_of_lt_of_le h.lt k.size,fun i v hv=>(k.cell (p:=⟨B,i,none⟩) h.lt hB).trans (h.cell i v hv),fun j=>(k.frozen (p:=⟨B,j,none⟩) h.lt hB).trans (h.fz j)⟩
theorem Bk.on (h:Bk w B l) (k:aa af w w'):Bk w' B l:=h.keep k (fun h=>h)
theorem Bk.put (h:Bk w B l) (i:Nat) (v:Value):Bk (w.setCell ⟨B,i,none⟩ v) B (l.set i v):=by
 refine⟨by simpa using h.lt,fun j u hu=>?_,fun j=>(QO _ _ _ _).trans (h.fz j)⟩
 rw[List.getElem?_set]at hu
 split at hu
 ·next e =>
  subst e
  split at hu
  ·next hl =>
   cases hu
   have:=Jn (k:=i) (u:=v) (h.cell i _ (List.getElem?_eq_getElem hl))
   rw[if_pos rfl]at this
   exact this
  ·cases hu
 ·next e =>
  have:=Jn (k:=i) (u:=v) (h.cell j u hu)
  rw[if_neg (fun x=>e x.symm)]at this
  exact this
end
end Go.Proofs.YtnanhmfpikddkaaGreatDoor
namespace Go.Proofs.YtnanhmfpikddkaaGreatDoor
open Go.RowKit
set_option maxHeartbeats 400000 in
theorem UY (a b:ByteArray) (w:World) :
 Calls Tryz.prog 170 #[.string a,.string b] w fun e w'=>e=.returned (.int .i64 (rP a b))∧w=w':=by
 go_enter Tryz.func170,Tryz.ntmps170
 go_wp2
 rw[run_callFunc_extern Tryz.func176 (by kernel_rfl) (by kernel_rfl) (by kernel_rfl) (e:=Extern.BytealgCompare.compare) (by kernel_rfl),Lib.run_compareString]
 simp only[Result.andThen]
 rw[Oper.upon_value]
 go_wp2
 go_ret
 exact⟨rfl,rfl⟩
set_option maxHeartbeats 400000 in
theorem M0 (a b:ByteArray) (w:World) :
 Calls Tryz.prog 163 #[.string a,.string b] w fun e w'=>e=.returned (.int .i64 (rP a b))∧w=w':=by
 go_enter Tryz.func163,Tryz.ntmps163
 go_wp2_with(go_at_call 170;refine(UY _ _ _).mono ?_;rintro e w' ⟨rfl,rfl⟩)
 go_ret
 exact⟨rfl,rfl⟩
set_option maxHeartbeats 400000 in
theorem Dk (s:ByteArray) (c:Int) (w:World) :
 Calls Tryz.prog 72 #[.string s,.int .u8 c] w fun e w'=>e=.returned (.int .i64 (jx s c.toNat.toUInt8))∧w=w':=by
 go_enter Tryz.func72,Tryz.ntmps72
 go_wp2
 rw[run_callFunc_extern Tryz.func149 (by kernel_rfl) (by kernel_rfl) (by kernel_rfl) (e:=Extern.BytealgIndexByte.indexByte) (by kernel_rfl),run_indexByte_string]
 simp only[Result.andThen,Lib.firstIdx_eq]
 rw[Oper.upon_value]
 go_wp2
 go_ret
 exact⟨rfl,rfl⟩
theorem rV {a b:Bool} (h:a=b):Ending.returned (.bool a)=Ending.returned (.bool b):=by rw[h]
theorem cR {a b:Int} (h:a=b):Ending.returned (.int .i64 a)=Ending.returned (.int .i64 b):=by rw[h]
set_option maxHeartbeats 400000 in
theorem BJ (s:ByteArray) (w:World) :
 Calls Tryz.prog 145 #[.string s] w fun e w'=>e=.returned (.bool (fJ s))∧w=w':=by
 have H:=Lib.hid (MR s)
 go_enter Tryz.func145,Tryz.ntmps145
 go_wp2_with(go_at_call 72;refine(Dk _ _ _).mono ?_;rintro e w' ⟨rfl,rfl⟩)
 all_goals
  go_ret
  refine⟨rV ?_,rfl⟩
  rw[H.out]
  first|(simp[*];done)|(simp[*];omega)|(simp[*];intros;omega)
set_option maxHeartbeats 400000 in
theorem UZ (s:ByteArray) (c:Int) (w:World) (hs:s.size<=maxLen) (hc:0<=c) (hc2:c<256) :
 Calls Tryz.prog 169 #[.string s,.int .u8 c] w fun e w'=>e=.returned (.bool (hasB s c.toNat.toUInt8))∧w=w':=by
 unfold maxLen at hs
 go_enter Tryz.func169,Tryz.ntmps169
 go_wp2
 go_loop [5] (fun i=>∃k:Nat,k<=s.size∧i=.int .i64 k∧∀(j:Nat) (h:j<s.size),j<k->¬s[j]=c.toNat.toUInt8) (fun i=>s.size-(intOf i).toNat)
 case atStart=>exact⟨0,Nat.zero_le _,rfl,fun j _ hj=>by omega⟩
 case round =>
  obtain⟨k,hk,rfl,hno⟩:=hrel
  have Hno:=Lib.hid hno
  clear hno
  by_cases hlt:k<s.size
  ·have Hb:=Lib.hid (qM s[k] c hc hc2)
   go_wp2
   ·go_ret
    refine⟨rV ?_,rfl⟩
    have h:((s[k].toNat:Int)==c)=true:=by assumption
    rw[Hb.out,decide_eq_true_eq]at h
    exact((ug s _).2 ⟨k,hlt,h⟩).symm
   ·have h:((s[k].toNat:Int)==c)=false:=by assumption
    rw[Hb.out,decide_eq_false_iff_not]at h
    go_round
    case rel =>
     refine⟨k+1,by omega,by go_num,fun j hj hjk=>?_⟩
     by_cases e:j=k
     ·subst e;exact h
     ·exact Hno.out j hj (by omega)
    case measure=>simp[intOf];omega
  ·go_wp2
   go_ret
   refine⟨rV ?_,rfl⟩
   symm
   rw[<- Bool.not_eq_true,ug]
   rintro⟨j,hj,e⟩
   exact Hno.out j hj (by omega) e
set_option maxHeartbeats 400000 in
theorem KY (s:ByteArray) (w:World) (hs:s.size<=maxLen) :
 Calls Tryz.prog 154 #[.string s] w fun e w'=>e=.returned (.bool (fJ s))∧w=w':=by
 have hs':=hs
 unfold maxLen at hs
 have H:=Lib.hid (MS s)
 go_enter Tryz.func154,Tryz.ntmps154
 go_wp2_with(go_at_call 169;refine(UZ _ _ _ hs' (by decide) (by decide)).mono ?_;rintro e w' ⟨rfl,rfl⟩)
 all_goals
  go_ret
  refine⟨rV ?_,rfl⟩
  rw[H.out]
  first|(simp[*];done)|(simp[*];omega)|(simp[*];intros;omega)
end Go.Proofs.YtnanhmfpikddkaaGreatDoor
set_option maxHeartbeats 4000000
namespace Go.Proofs.YtnanhmfpikddkaaGreatDoor
open Go Go.RowKit
theorem Uy (m k:Nat):m / 2 ^ k / 2=m / 2 ^ (k+1):=by rw[Nat.div_div_eq_div_mul,<- Nat.pow_succ]
theorem tP (m b:Nat) (hm:m<=9007199254740992) (hb:b<=100) (w:World):Calls Tryz.prog 36 #[.int .i64 (m:Int),.int .i64 (b:Int)] w fun e w'=>e=.returned (.bool (m.testBit b))∧w'=w:=by
 go_enter Tryz.func36,Tryz.ntmps36
 go_wp2
 go_loopw [0,5] (fun x i wr=>∃k:Nat,k<=b∧i=.int .i64 k∧x=.int .i64 ((m / 2 ^ k:Nat):Int)∧wr=w) (fun _ i _=>b+1-(intOf i).toNat)
 case atStart=>exact⟨0,Nat.zero_le _,rfl,by simp,rfl⟩
 case round =>
  obtain⟨k,hk,rfl,rfl,rfl⟩:=hrel
  have hq:m / 2 ^ k<=m:=Nat.div_le_self _ _
  by_cases hlt:k<b
  ·have hlz:(k:Int)<(b:Int):=by omega
   obtain⟨y,hy⟩:∃y,m / 2 ^ k=y:=⟨_,rfl⟩
   have tj:m / 2 ^ (k+1)=y / 2:=by rw[<- Uy,hy]
   rw[hy]at hq ⊢
   clear hy
   go_wp2_with fail
   refine⟨⟨k+1,by omega,rfl,?_,trivial⟩,by simp[intOf];omega⟩
   rw[tj,show((y / 2:Nat):Int)=(y:Int) / 2 by omega]
  ·obtain rfl:k=b:=by omega
   have hlz:¬(k:Int)<(k:Int):=by omega
   have hT:=Lib.hid (Nat.testBit_eq_decide_div_mod_eq (x:=m) (i:=k))
   generalize m / 2 ^ k=y at *
   go_wp2_with fail
   go_ret
   refine⟨?_,rfl⟩
   have e:((y:Int) % 2==1)=decide (y % 2=1):=by
    rw[Bool.eq_iff_iff,decide_eq_true_eq,beq_iff_eq];omega
   rw[hT.out,e]
   rfl
theorem Uz (b:Nat) (hb:b<=50) (w:World):Calls Tryz.prog 153 #[.int .i64 (b:Int)] w fun e w'=>e=.returned (.int .i64 ((2 ^ b:Nat):Int))∧w'=w:=by
 obtain⟨P,hP⟩:∃P:Nat,2 ^ b=P:=⟨_,rfl⟩
 rw[hP]
 have HP:=Lib.hid hP
 clear hP
 go_enter Tryz.func153,Tryz.ntmps153
 go_wp2
 go_loopw [3,4] (fun x i wr=>∃k y:Nat,k<=b∧i=.int .i64 k∧x=.int .i64 (y:Int)∧Hid (y=2 ^ k)∧wr=w) (fun _ i _=>b+1-(intOf i).toNat)
 case atStart=>exact⟨0,1,Nat.zero_le _,rfl,rfl,Lib.hid rfl,rfl⟩
 case round =>
  obtain⟨k,y,hk,rfl,rfl,HY,rfl⟩:=hrel
  have hq:y<=2 ^ 50:=by rw[HY.out];exact Nat.pow_le_pow_right (by decide) (by omega)
  by_cases hlt:k<b
  ·have hlz:(k:Int)<(b:Int):=by omega
   have hwr:IntKind.i64.wrap (2*(y:Int))=2*(y:Int):=by rw[IntKind.wrap_i64];omega
   go_wp2_with fail
   refine⟨⟨k+1,2*y,by omega,rfl,?_,Lib.hid (by rw[HY.out,Nat.pow_succ];omega),trivial⟩,by simp[intOf];omega⟩
   rw[show((2*y:Nat):Int)=2*(y:Int)by omega,Int.mul_comm]
  ·obtain rfl:k=b:=by omega
   have hlz:¬(k:Int)<(k:Int):=by omega
   go_wp2_with fail
   go_ret
   exact⟨by rw[<- HP.out,<- HY.out];rfl,rfl⟩
theorem UA (m b:Nat) (hm:m<=9007199254740992) (hb:b<=50) (w:World):Calls Tryz.prog 118 #[.int .i64 (m:Int),.int .i64 (b:Int),.bool false] w fun e w'=>e=.returned (.int .i64 ((if m.testBit b then m-2 ^ b else m:Nat):Int))∧w'=w:=by
 have HH:=Lib.hid (tP m b hm (by omega))
 have HP:=Lib.hid (Uz b hb)
 cases ht:m.testBit b with
 | false =>
   rw[ht]at HH
   clear ht
   go_enter Tryz.func118,Tryz.ntmps118
   go_wp2_with(go_at_call 36;go_loud(refine(HH.out _).mono ?_);rintro e w4 ⟨rfl,rfl⟩)
   go_ret
   exact⟨rfl,rfl⟩
 | true =>
   rw[ht]at HH
   have hle:2 ^ b<=m:=Nat.ge_two_pow_of_testBit ht
   clear ht
   generalize 2 ^ b=y at *
   have hwr:IntKind.i64.wrap ((m:Int)-(y:Int))=((m-y:Nat):Int):=by rw[IntKind.wrap_i64];omega
   go_enter Tryz.func118,Tryz.ntmps118
   go_wp2_with(first|(go_at_call 36;go_loud(refine(HH.out _).mono ?_);rintro e w4 ⟨rfl,rfl⟩)|(go_at_call 153;go_loud(refine(HP.out _).mono ?_);rintro e w5 ⟨rfl,rfl⟩))
   go_ret
   exact⟨by simp,rfl⟩
theorem LP {CL:Nat->Nat->Nat->Nat} (hc0:∀m k,CL m k 0=m) (hc1:∀m k i,CL m k (i+1)=if k.testBit i=true∧(CL m k i).testBit i=true then CL m k i-2 ^ i else CL m k i) (hle:∀m k i,CL m k i<=m)
 (m mask:Nat) (hm:m<=9007199254740992) (hk:mask<=9007199254740992) (w:World):Calls Tryz.prog 84 #[.int .i64 (m:Int),.int .i64 (mask:Int)] w fun e w'=>e=.returned (.int .i64 ((CL m mask 9:Nat):Int))∧w'=w:=by
 obtain⟨P,hP⟩:∃P:Nat,CL m mask 9=P:=⟨_,rfl⟩
 rw[hP]
 have HP:=Lib.hid hP
 have HL:=Lib.hid hle
 have H0:=Lib.hid hc0
 have H1:=Lib.hid hc1
 clear hP hle hc0 hc1
 go_enter Tryz.func84,Tryz.ntmps84
 go_wp2
 go_loopw [0,5] (fun x i wr=>∃k y:Nat,k<=9∧i=.int .i64 k∧x=.int .i64 (y:Int)∧Hid (y=CL m mask k)∧wr=w) (fun _ i _=>10-(intOf i).toNat)
 case atStart=>exact⟨0,m,by decide,rfl,rfl,Lib.hid (H0.out _ _).symm,rfl⟩
 case round =>
  obtain⟨k,y,tI,rfl,rfl,HY,rfl⟩:=hrel
  have hq:y<=m:=by rw[HY.out];exact HL.out _ _ _
  by_cases hlt:k<9
  ·have hlz:(k:Int)<9:=by omega
   have HH:=Lib.hid (tP mask k hk (by omega))
   have HU:=Lib.hid (UA y k (by omega) (by omega))
   have HN:=Lib.hid (H1.out m mask k)
   rw[<- HY.out]at HN
   cases ht:mask.testBit k with
   | false =>
     rw[ht]at HH HN
     clear ht
     go_wp2_with(go_at_call 36;go_loud(refine(HH.out _).mono ?_);rintro e w4 ⟨rfl,rfl⟩)
     exact⟨⟨k+1,y,by omega,rfl,rfl,Lib.hid (by rw[HN.out,if_neg (by simp)]),trivial⟩,by simp[intOf];omega⟩
   | true =>
     rw[ht]at HH HN
     clear ht
     obtain⟨y2,tj⟩:∃y2:Nat,(if y.testBit k then y-2 ^ k else y)=y2:=⟨_,rfl⟩
     rw[tj]at HU
     have UB:Hid (y2=CL m mask (k+1)):=Lib.hid (by
      rw[HN.out,<- tj]
      by_cases hb:y.testBit k=true
      ·rw[if_pos hb,if_pos ⟨rfl,hb⟩]
      ·rw[if_neg hb,if_neg (fun h=>hb h.2)])
     clear tj
     go_wp2_with(first|(go_at_call 36;go_loud(refine(HH.out _).mono ?_);rintro e w4 ⟨rfl,rfl⟩)|(go_at_call 118;go_loud(refine(HU.out _).mono ?_);rintro e w5 ⟨rfl,rfl⟩))
     exact⟨⟨k+1,y2,by omega,rfl,rfl,UB,trivial⟩,by simp[intOf];omega⟩
  ·obtain rfl:k=9:=by omega
   have hlz:¬((9:Nat):Int)<9:=by omega
   go_wp2_with fail
   go_ret
   exact⟨by rw[<- HP.out,<- HY.out];rfl,rfl⟩
end Go.Proofs.YtnanhmfpikddkaaGreatDoor
namespace Go.Proofs.YtnanhmfpikddkaaGreatDoor
open Go Go.Shelf Go.RowKit
def mg:Go.Shelf.Ren :=
{
 f := fun x =>
   match x with
   | 221=>151
   | 268=>166
   | 138=>167
   | 143=>168
   | 195=>172
   | 197=>173
   | 218=>174
   | 219=>175
   | 260=>178
   | 217=>111
   | 225=>179
   | 224=>180
   | 267=>181
   | 266=>149
   | 314=>182
   | n=>n,
 t := fun x =>
   match x with
   | 9=>9
   | 3=>3
   | 31=>130
   | 4=>4
   | 0=>0
   | 105=>194
   | 21=>21
   | 5=>5
   | 46=>193
   | 119=>197
   | 139=>200
   | 138=>199
   | 146=>202
   | 51=>201
   | n=>n,
 g := fun x =>
   match x with
   | 1=>0
   | 3=>1
   | 4=>2
   | n=>n }
theorem KV:Lays.n221 Tryz.prog mg :=
{ mixed:=Eq.refl true,f138:=Eq.trans Tryz.func167 (congrArg some (Eq.refl (Body.n138 mg))),
  f143:=Eq.trans Tryz.func168 (congrArg some (Eq.refl (Body.n143 mg))),
  f195:=Eq.trans Tryz.func172 (congrArg some (Eq.refl (Body.n195 mg))),
  f197:=Eq.trans Tryz.func173 (congrArg some (Eq.refl (Body.n197 mg))),
  f217:=Eq.trans Tryz.func111 (congrArg some (Eq.refl (Body.n217 mg))),
  f218:=Eq.trans Tryz.func174 (congrArg some (Eq.refl (Body.n218 mg))),
  f219:=Eq.trans Tryz.func175 (congrArg some (Eq.refl (Body.n219 mg))),
  f221:=Eq.trans Tryz.func151 (congrArg some (Eq.refl (Body.n221 mg))),
  f224:=Eq.trans Tryz.func180 (congrArg some (Eq.refl (Body.n224 mg))),
  f225:=Eq.trans Tryz.func179 (congrArg some (Eq.refl (Body.n225 mg))),
  f260:=Eq.trans Tryz.func178 (congrArg some (Eq.refl (Body.n260 mg))),
  f266:=Eq.trans Tryz.func149 (congrArg some (Eq.refl (Body.n266 mg))),
  f267:=Eq.trans Tryz.func181 (congrArg some (Eq.refl (Body.n267 mg))),
  f268:=Eq.trans Tryz.func166 (congrArg some (Eq.refl (Body.n268 mg))),
  f314:=Eq.trans Tryz.func182 (congrArg some (Eq.refl (Body.n314 mg))),t0:=Tryz.underlying0,
  a0:=Tryz.isAgg0,z0:=Tryz.sizeOf0,v0:=Tryz.zeroValue0,t3:=Tryz.underlying3,a3:=Tryz.isAgg3,
  z3:=Tryz.sizeOf3,v3:=Tryz.zeroValue3,t4:=Tryz.underlying4,a4:=Tryz.isAgg4,z4:=Tryz.sizeOf4,
  v4:=Tryz.zeroValue4,t5:=Tryz.underlying5,a5:=Tryz.isAgg5,z5:=Tryz.sizeOf5,v5:=Tryz.zeroValue5,
  t9:=Tryz.underlying9,a9:=Tryz.isAgg9,z9:=Tryz.sizeOf9,v9:=Tryz.zeroValue9,t21:=Tryz.underlying21,
  a21:=Tryz.isAgg21,z21:=Tryz.sizeOf21,v21:=Tryz.zeroValue21,t31:=Tryz.underlying130,a31:=Tryz.isAgg130,
  z31:=Tryz.sizeOf130,v31:=Tryz.zeroValue130,t46:=Tryz.underlying193,a46:=Tryz.isAgg193,
  z46:=Tryz.sizeOf193,v46:=Tryz.zeroValue193,t51:=Tryz.underlying201,a51:=Tryz.isAgg201,
  z51:=Tryz.sizeOf201,v51:=Tryz.zeroValue201,t105:=Tryz.underlying194,a105:=Tryz.isAgg194,
  z105:=Tryz.sizeOf194,v105:=Tryz.zeroValue194,t119:=Tryz.underlying197,a119:=Tryz.isAgg197,
  z119:=Tryz.sizeOf197,t138:=Tryz.underlying199,a138:=Tryz.isAgg199,z138:=Tryz.sizeOf199,
  v138:=Tryz.zeroValue199,t139:=Tryz.underlying200,a139:=Tryz.isAgg200,z139:=Tryz.sizeOf200,
  v139:=Tryz.zeroValue200,t146:=Tryz.underlying202,a146:=Tryz.isAgg202,z146:=Tryz.sizeOf202,
  v146:=Tryz.zeroValue202,g1:=by kernel_rfl,g3:=by kernel_rfl,
  g4:=by kernel_rfl }
end Go.Proofs.YtnanhmfpikddkaaGreatDoor
namespace Go.Proofs.YtnanhmfpikddkaaGreatDoor
open Go.RowKit
def aK:hU aD where
 enc:=fun e=>[.string e.1,.int .i64 e.2]
 k:=2
 pos:=by decide
 len:=fun _=>rfl
 one:=fun x v hv=>by simp at hv;rcases hv with rfl|rfl<;>rfl
theorem pT.of {α:Type} {P:Program} {E:hU α} {t e:TypeId} {z:α} {bytes:Nat} (zv:Value) (hu:P.underlying t=some (.slice e))
 (h:(P.info? e).map (fun i=>(i.zero,i.size,i.bytes))=some (some zv,E.k,bytes)) (hz:zv.cells.toList=E.enc z):pT P E t e z bytes:=by
 refine⟨hu,?_⟩
 cases hi:P.info? e with
 | none=>rw[hi]at h;cases h
 | some i=>rw[hi]at h;simp at h;exact⟨i,rfl,h.2.1,h.2.2,zv,h.1,hz⟩
theorem yA:pT Tryz.prog aK 51 59 (ByteArray.empty,0) 24 :=
 .of (.agg #[.string ByteArray.empty,.int .i64 0]) Tryz.underlying51 (by kernel_rfl) rfl
set_option maxHeartbeats 400000 in
theorem Bw (nm name:ByteArray) (n:Int) (w:World) :
 Calls Tryz.prog 162 #[.agg #[.string nm,.int .i64 n],.string name] w fun e w'=>e=.returned (.int .i64 (rP nm name))∧aa af w w':=by
 go_enter Tryz.func162,Tryz.ntmps162
 go_wp2_with(go_at_call 163;refine(M0 _ _ _).mono ?_;rintro e w' ⟨rfl,rfl⟩)
 go_ret
 exact⟨rfl,(aa.refl _ _).alloc _⟩
theorem bt.iW {S:Nat->Prop} {w:World} {p:Option Addr} {c:Nat} {l:List aD} (h:bt aK S w p c l) {i:Nat} {x:aD} (hi:l[i]?=some x) :
 ∃g off,p=some ⟨g,off,none⟩∧S g∧g<w.heap.size∧w.cell? ⟨g,off+i*2,none⟩=some (.string x.1)∧w.cell? ⟨g,off+i*2+1,none⟩=some (.int .i64 x.2):=by
 obtain⟨g,off,hp,hS,hg,hc⟩:=h.at hi
 exact⟨g,off,hp,hS,hg,hc 0 _ rfl,by have:=hc 1 _ rfl;rwa [<- Nat.add_assoc]at this⟩
set_option maxHeartbeats 1000000 in
theorem M3 (S:Nat->Prop) (w:World) (p:Option Addr) (c:Nat) (es:List aD) (name:ByteArray) (h:bt aK S w p c es) (hr:cq es) (hn:es.length<4294967296) :
 Calls Tryz.prog 161 #[.slice p es.length c,.string name,.func (.func 162) #[] #[]] w fun e w' =>
  e=.returned (.tuple #[.int .i64 (lb es name),.bool (bu es name)])∧aa af w w':=by
 have hcap:=h.cap
 have hmax:=h.max
 unfold maxLen at hmax
 go_enter Tryz.func161,Tryz.ntmps161
 go_wp2
 go_loopw [9,10] (fun i j wr=>∃a b:Nat,a<=b∧b<=es.length∧i=.int .i64 a∧j=.int .i64 b∧(∀k x,k<a->es[k]?=some x->bD x.1 name=true)∧(∀k x,b<=k->es[k]?=some x->bD x.1 name=false)∧aa af w wr) (fun i j _=>(intOf j).toNat - (intOf i).toNat)
 case atStart=>exact⟨0,es.length,Nat.zero_le _,Nat.le_refl _,rfl,rfl,fun k x hk=>by omega,fun k x hk hx=>by have:=(List.getElem?_eq_some_iff.1 hx).1;omega,aa.refl _ _⟩
 case round =>
  obtain⟨a,b,hab,hb,rfl,rfl,hlo,hhi,hkp⟩:=hrel
  have F5:=Lib.hid hlo
  have F9:=Lib.hid hhi
  have cV:=Lib.hid hkp
  clear hlo hhi hkp
  by_cases hlt:a<b
  ·obtain⟨x,hx⟩:∃x,es[(a+b) / 2]?=some x:=⟨_,List.getElem?_eq_getElem (by omega)⟩
   obtain⟨g,off,rfl,hS,hg,c0,c1⟩:=(h.ai cV.out).iW hx
   have Hx:=Lib.hid hx
   clear hx
   by_cases hb:bD x.1 name=true
   ·have hneg:=(FY _ _).2 hb
    go_wp2_with(go_at_call 162;refine(Bw _ _ _ _).mono ?_;rintro e w' ⟨rfl,hk1⟩)
    go_roundw
    case rel =>
     refine⟨(a+b) / 2+1,b,by omega,by omega,by go_num,rfl,fun k y hk hy=>?_,F9.out,cV.out.trans hk1⟩
     by_cases e:k=(a+b) / 2
     ·subst e;rw[Hx.out]at hy;cases hy;exact hb
     ·exact vJ (hr.get hy Hx.out (by omega)) hb
    case measure=>simp[intOf];omega
   ·have hneg:0<=rP x.1 name:=by
     have:=mt (FY x.1 name).1 hb;omega
    have hb':bD x.1 name=false:=by simpa using hb
    go_wp2_with(go_at_call 162;refine(Bw _ _ _ _).mono ?_;rintro e w' ⟨rfl,hk1⟩)
    go_roundw
    case rel =>
     refine⟨a,(a+b) / 2,by omega,by omega,rfl,by go_num,F5.out,fun k y hk hy=>?_,cV.out.trans hk1⟩
     by_cases e:k=(a+b) / 2
     ·subst e;rw[Hx.out]at hy;cases hy;exact hb'
     ·have:=hr.get Hx.out hy (by omega)
      cases hc:bD y.1 name with
      | false=>rfl
      | true=>rw[vJ this hc]at hb';cases hb'
    case measure=>simp[intOf];omega
  ·obtain rfl:b=a:=by omega
   have hlb:lb es name=b:=F3 b hb (fun j x hj hx=>F5.out j x hj hx) (fun x hx=>F9.out b x (Nat.le_refl _) hx)
   have Ga:=Lib.hid hlb
   have aT:=rQ hr name
   rw[hlb]at aT
   clear hlb
   by_cases pU:b<es.length
   ·obtain⟨x,hx⟩:∃x,es[b]?=some x:=⟨_,List.getElem?_eq_getElem (by omega)⟩
    obtain⟨g,off,rfl,hS,hg,c0,c1⟩:=(h.ai cV.out).iW hx
    rw[hx]at aT
    have vK:=Lib.hid aT
    have Hx:=Lib.hid hx
    clear hx aT
    go_wp2_with(go_at_call 162;refine(Bw _ _ _ _).mono ?_;rintro e w' ⟨rfl,hk1⟩)
    go_ret2
    refine⟨?_,cV.out.trans hk1⟩
    rw[Ga.out,vK.out]
    have hz:(rP x.1 name==0)=decide (x.1=name):=by rw[Bool.eq_iff_iff];simpa using MQ x.1 name
    simp[hz]
   ·rw[List.getElem?_eq_none (by omega)]at aT
    have vK:=Lib.hid aT
    clear aT
    go_wp2_with fail
    go_ret2
    refine⟨?_,cV.out⟩
    rw[Ga.out,vK.out]
    rfl
end Go.Proofs.YtnanhmfpikddkaaGreatDoor
namespace Go.Proofs.YtnanhmfpikddkaaGreatDoor
open Go Go.RowKit
theorem AF:pT Tryz.prog jX 130 9 ByteArray.empty 16 :=
 .of (.string ByteArray.empty) Tryz.underlying130 (by kernel_rfl) rfl
theorem isEmpty_eq (x:ByteArray):x.toList.isEmpty=decide (x=⟨#[]⟩):=by
 rw[Lib.toList_data,Bool.eq_iff_iff,List.isEmpty_iff,decide_eq_true_eq]
 exact⟨fun h=>qL (by rw[h]),fun h=>by rw[h]⟩
theorem nr {x:ByteArray} (h:¬x=⟨#[]⟩):(!x.toList.isEmpty)=true:=by rw[isEmpty_eq];simpa using h
set_option maxHeartbeats 1000000 in
theorem SG (s:ByteArray) (w:World) :
 Calls Tryz.prog 175 #[.string s,.string dL] w fun e w'=>e=.returned (.int .i64 (jx s 47))∧w'=w:=by
 go_enter Tryz.func175,Tryz.ntmps175
 go_wp2
 ·go_ret
  refine⟨cR ?_,rfl⟩
  have h:([47]==s.toList)=true:=by assumption
  rw[Lib.toList_data,beq_iff_eq]at h
  rw[jx,<- h]
  rfl
 ·rw[run_callFunc_extern Tryz.func149 (by kernel_rfl) (by kernel_rfl) (by kernel_rfl) (e:=Extern.BytealgIndexByte.indexByte) (by kernel_rfl),run_indexByte_string]
  simp only[Result.andThen,Lib.firstIdx_eq]
  rw[Oper.upon_value]
  go_wp2
  go_ret
  exact⟨rfl,rfl⟩
set_option maxHeartbeats 400000 in
theorem SH (s:ByteArray) (w:World) :
 Calls Tryz.prog 168 #[.string s,.string dL] w fun e w'=>e=.returned (.int .i64 (jx s 47))∧w'=w:=by
 go_enter Tryz.func168,Tryz.ntmps168
 go_wp2_with(go_at_call 175;refine(SG _ _).mono ?_;rintro e w' ⟨rfl,rfl⟩)
 go_ret
 exact⟨rfl,rfl⟩
theorem SI {s:ByteArray} {c:UInt8} {o:Nat} (h:jx s c=o):∃ho:o<s.size,s[o]=c∧∀(j:Nat) (hj:j<s.size),j<o->¬s[j]=c:=by
 obtain⟨h1,h2⟩:=Lib.indexByte_some h
 obtain⟨h3,h4⟩:=List.getElem?_eq_some_iff.1 h1
 rw[mN]at h3
 exact⟨h3,h4,fun j hj hlt e=>h2 j hlt (by rw[List.getElem?_eq_getElem (by rw[mN];exact hj)];exact congrArg some e)⟩
theorem KU (s:ByteArray):Lib.indexB s dL=jx s 47:=Lib.index_one _ _
theorem Ew:∀(k:Nat) (s:ByteArray),Lib.countB s dL=k->Lib.splitB dL 0 k s=dY s
 | 0,s,hk=>by
   rw[Lib.splitB_zero]
   have:=KO s 0 (Nat.zero_le _) (fun j hj _ e=>by
    have h1:Lib.countB s dL=s.data.toList.count 47:=Lib.count_one _ _
    rw[hk]at h1
    have:=List.count_eq_zero.1 h1.symm
    exact this (List.mem_iff_getElem.2 ⟨j,by rw[mN];exact hj,e⟩))
   rw[Ev]at this
   exact this.symm
 | k+1,s,hk=>by
   rcases Lib.indexB_cases s dL with hix|⟨i,hix,_⟩
   ·rw[Lib.countB_miss s dL hix]at hk;omega
   ·rw[Lib.splitB_hit dL 0 k s i hix]
    have h2:=Lib.countB_hit s dL i (by decide) hix
    rw[Ew k _ (by omega)]
    rw[KU]at hix
    obtain⟨ho,h3,h4⟩:=SI hix
    have:=KR s 0 i (Nat.zero_le _) ho h3 (fun j hj _ h=>h4 j hj h)
    rw[Ev]at this
    rw[this]
    rfl
set_option maxHeartbeats 1000000 in
theorem SJ (s:ByteArray) (w:World) (hs:s.size<4294967281) :
 Calls Tryz.prog 113 #[.string s,.string dL] w fun e w' =>
  ∃v,e=.returned v∧Own jX 9 (fun g=>w.heap.size<=g) w' v (dY s)∧aa af w w':=by
 have hlen:=Lib.splitB_all dL (by decide) 0 _ s rfl
 have hle:=Lib.countB_le dL (by decide) s.size s (Nat.le_refl _)
 have c:=Any.strings_genSplit_core KV (by kernel_rfl) s dL 0 (-1) (Lib.countB s dL+1) w hs (by decide) (Nat.zero_le _)
  (fun x c hx=>by
    refine(SH x _).mono ?_
    rintro e w' ⟨rfl,rfl⟩
    exact⟨by rw[KU],rfl⟩)
  (by
    refine(Any.strings_Count_one { KV with } s 47 w).mono ?_
    rintro e w' ⟨rfl,rfl⟩
    refine⟨?_,rfl⟩
    show Ending.returned (Value.int .i64 ((s.data.toList.count 47:Nat):Int))=Ending.returned (Value.int .i64 ((Lib.count s.data.toList [47]:Nat):Int))
    rw[Lib.count_one])
  (by decide) (by decide) (by rw[if_pos (by decide)];omega)
 rw[Nat.add_sub_cancel,Ew _ s rfl]at c
 rw[Ew _ s rfl]at hlen
 rw[<- hlen,Lib.cellsOf_full]at c
 have C:=Lib.hid c
 clear c
 have hpl:(dY s).length<=maxLen:=by rw[hlen];unfold maxLen;omega
 have Hp:=Lib.hid hpl
 clear hpl hlen hle
 go_enter Tryz.func113,Tryz.ntmps113
 go_wp2_with(go_at_call 151;refine C.out.mono ?_;rintro e w' ⟨rfl,rfl⟩)
 go_ret
 refine⟨_,rfl,nM (dY s) _ ?_ _ rfl (Nat.le_refl _) Hp.out,(aa.refl _ _).alloc _⟩
 rw[List.toList_toArray]
 generalize dY s=l
 induction l with
 | nil=>rfl
 | cons a l ih=>rw[List.map_cons,List.flatMap_cons,ih];rfl
theorem KX {α:Type} (l:List α) (p:α->Bool) (k:Nat) (x:α) (hx:l[k]?=some x):(l.take (k+1)).filter p=(l.take k).filter p++(if p x then[x]else[]):=by
 rw[List.take_add_one,hx]
 simp[List.filter_append]
 split<;>simp_all
set_option maxHeartbeats 1000000 in
theorem SK (s:ByteArray) (w:World) (hs:s.size<4294967281) :
 Calls Tryz.prog 74 #[.string s] w fun e w' =>
  ∃v,e=.returned v∧Own jX 9 (fun g=>w.heap.size<=g) w' v (iG s)∧aa af w w':=by
 have hpl:=AE s
 have Hpl:=Lib.hid hpl
 clear hpl
 have Hs:=Lib.hid (SJ s)
 go_enter Tryz.func74,Tryz.ntmps74
 go_wp2_with(go_at_call 113;refine(Hs.out _ hs).mono ?_;rintro e w1 ⟨v1,rfl,mQ,hk1⟩;obtain⟨p1,c1,rfl,nO⟩:=mQ.sl)
 have hpl:=Hpl.out
 have hcap:=nO.cap
 have hmax:=nO.max
 unfold maxLen at hmax
 go_loopw [3,9] (fun o i wr=>∃k:Nat,k<=(dY s).length∧i=.int .i64 k∧Own jX 9 (fun g=>w1.heap.size<=g) wr o ((dY s).take k |>.filter fun p=>!decide (p=⟨#[]⟩))∧aa af w1 wr) (fun _ i _=>(dY s).length-(intOf i).toNat)
 case atStart=>exact⟨0,Nat.zero_le _,rfl,Own.nil _ _ _ _,aa.refl _ _⟩
 case round =>
  rename_i wr
  obtain⟨k,hk,rfl,ho,hkp⟩:=hrel
  have cV:=Lib.hid hkp
  have hsz:=hkp.size
  clear hkp
  by_cases hlt:k<(dY s).length
  ·obtain⟨x,hx⟩:∃x,(dY s)[k]?=some x:=⟨_,List.getElem?_eq_getElem hlt⟩
   obtain⟨g,off,rfl,hS,hg,c0⟩:=(nO.ai cV.out).str hx
   have nu:=Lib.hid (KX (dY s) (fun p=>!decide (p=⟨#[]⟩)) k x hx)
   have hfl:((dY s).take k |>.filter fun p=>!decide (p=⟨#[]⟩)).length<=k:=Nat.le_trans (List.length_filter_le _ _) (by simp;omega)
   clear hx
   by_cases hp:x=⟨#[]⟩
   ·have Hp:=Lib.hid hp
    subst hp
    go_wp2
    go_roundw
    case rel=>exact⟨k+1,by omega,by go_num,by rw[nu.out];simpa using ho,cV.out⟩
    case measure=>simp[intOf];omega
   ·have hne:=nr hp
    go_wp2_with(at_builtin;refine mw rfl (.tmp 15) (.tmp 17) rfl AF (ho.keep ((aa.refl af _).alloc _) (fun _ _ h=>h)) (nM (S:=fun _=>True) [x] #[.string x] rfl 1 rfl trivial (by decide)).sl rfl rfl (by simp;omega) (by simp[maxLen];omega) (by simp;omega) ?_;intro v' w' ho' hk' hf')
    go_roundw
    case rel =>
     refine⟨k+1,by omega,by go_num,?_,cV.out.alloc _ |>.step hk' (fun g hg=>Or.inr (ho.2 g hg))⟩
     rw[nu.out,if_pos (by simpa using hp)]
     exact ho'
    case measure=>simp[intOf];omega
  ·go_wp2
   go_ret
   refine⟨_,rfl,?_,hk1.trans cV.out⟩
   rw[List.take_of_length_le (by omega)]at ho
   exact ho.mono (fun g _ hg=>by have:=hk1.size;omega)
theorem SL (s:ByteArray):(decide (1<=s.size)&&((s.extract 0 1).toList==[47]))=fj s:=by
 have:=Lib.hasPrefix_raw s dL
 rw[show dL.toList=[47]from by rw[Lib.toList_data]]at this
 refine Eq.trans (show _=(decide (dL.size<=s.size)&&((s.extract 0 dL.size).toList==[47]))from rfl) (this.trans ?_)
 unfold fj Lib.hasPrefix
 cases h:s.data.toList with
 | nil=>rfl
 | cons c l =>
   rw[Bool.eq_iff_iff,decide_eq_true_eq,List.isPrefixOf_iff_prefix,List.getElem?_cons_zero]
   show[47] <+: c::l↔_
   rw[List.cons_prefix_cons]
   exact⟨fun h=>congrArg some h.1.symm,fun h=>⟨(Option.some.inj h).symm,List.nil_prefix⟩⟩
theorem SM (s:ByteArray):(decide (1<=s.size)&&((s.extract (s.size-1) s.size).toList==[47]))=cg s:=by
 have:=Lib.hasSuffix_raw s dL
 rw[show dL.toList=[47]from by rw[Lib.toList_data]]at this
 refine Eq.trans (show _=(decide (dL.size<=s.size)&&((s.extract (s.size-dL.size) s.size).toList==[47]))from rfl) (this.trans ?_)
 unfold cg Lib.hasSuffix
 rw[Bool.eq_iff_iff,decide_eq_true_eq,List.isSuffixOf_iff_suffix,<- mN]
 show[47] <:+ _↔_
 rcases List.eq_nil_or_concat s.data.toList with h|⟨l,c,h⟩
 ·rw[h]
  exact⟨fun h=>absurd (List.IsSuffix.length_le h) (by decide),fun h=>absurd h.1 (by decide)⟩
 ·rw[h,List.concat_eq_append,List.length_append,List.length_singleton,Nat.add_sub_cancel,List.getElem?_append_right (Nat.le_refl _),Nat.sub_self,List.getElem?_cons_zero]
  constructor
  ·rintro⟨t,ht⟩
   have:=List.append_inj_right' ht rfl
   exact⟨by omega,congrArg some (List.head_eq_of_cons_eq this).symm⟩
  ·rintro⟨_,h⟩
   rw[Option.some.inj h]
   exact⟨l,rfl⟩
set_option maxHeartbeats 400000 in
theorem SN (s:ByteArray) (w:World) :
 Calls Tryz.prog 150 #[.string s,.string dL] w fun e w'=>e=.returned (.bool (fj s))∧w'=w:=by
 go_enter Tryz.func150,Tryz.ntmps150
 have hr:=SL s
 have H:=Lib.hid hr
 clear hr
 go_wp2
 all_goals
  go_ret
  refine⟨rV ?_,rfl⟩
  have h:=H.out
  rcases Nat.lt_or_ge s.size 1 with h1|h1
  ·rw[<- h,decide_eq_false (by omega)];first|rfl|omega
  ·rw[<- h,decide_eq_true h1];first|rfl|omega
set_option maxHeartbeats 400000 in
theorem SP (s:ByteArray) (w:World) :
 Calls Tryz.prog 112 #[.string s,.string dL] w fun e w'=>e=.returned (.bool (fj s))∧w'=w:=by
 go_enter Tryz.func112,Tryz.ntmps112
 go_wp2_with(go_at_call 150;refine(SN _ _).mono ?_;rintro e w' ⟨rfl,rfl⟩)
 go_ret
 exact⟨rfl,rfl⟩
set_option maxHeartbeats 400000 in
theorem SQ (s:ByteArray) (w:World) :
 Calls Tryz.prog 73 #[.string s] w fun e w'=>e=.returned (.bool (fj s))∧w'=w:=by
 go_enter Tryz.func73,Tryz.ntmps73
 go_wp2_with(go_at_call 112;refine(SP _ _).mono ?_;rintro e w' ⟨rfl,rfl⟩)
 go_ret
 exact⟨rfl,rfl⟩
set_option maxHeartbeats 400000 in
theorem SR (s:ByteArray) (w:World) (hs:s.size<=4294967296) :
 Calls Tryz.prog 107 #[.string s,.string dL] w fun e w'=>e=.returned (.bool (cg s))∧w'=w:=by
 have hr:=SM s
 have H:=Lib.hid hr
 clear hr
 go_enter Tryz.func107,Tryz.ntmps107
 go_wp2
 all_goals
  go_ret
  refine⟨rV ?_,rfl⟩
  have h:=H.out
  rcases Nat.lt_or_ge s.size 1 with h1|h1
  ·rw[<- h,decide_eq_false (by omega)];first|rfl|omega
  ·rw[<- h,decide_eq_true h1];first|rfl|omega
set_option maxHeartbeats 400000 in
theorem hs1 (s:ByteArray) (w:World) (hs:s.size<=4294967296) :
 Calls Tryz.prog 66 #[.string s,.string dL] w fun e w'=>e=.returned (.bool (cg s))∧w'=w:=by
 go_enter Tryz.func66,Tryz.ntmps66
 go_wp2_with(go_at_call 107;refine(SR _ _ hs).mono ?_;rintro e w' ⟨rfl,rfl⟩)
 go_ret
 exact⟨rfl,rfl⟩
set_option maxHeartbeats 400000 in
theorem SS (d n:ByteArray) (w:World) (hs:d.size<=4294967296) (hn:n.size<=4294967296) :
 Calls Tryz.prog 115 #[.string d,.string n] w fun e w'=>e=.returned (.string (eK d n))∧w'=w:=by
 have H:=Lib.hid (show eK d n=if d.toList.isEmpty then n else if cg d then d++n else d++dL++n by rw[isEmpty_eq];unfold eK;simp)
 go_enter Tryz.func115,Tryz.ntmps115
 go_wp2_with(go_at_call 66;refine(hs1 _ _ hs).mono ?_;rintro e w' ⟨rfl,rfl⟩)
 all_goals
  go_ret
  refine⟨?_,rfl⟩
  rw[H.out]
  simp[*]
set_option maxHeartbeats 1000000 in
theorem SU (s:ByteArray) (w:World) (hs:s.size<4294967281) :
 Calls Tryz.prog 159 #[.string s] w fun e w' =>
  ∃v,e=.returned v∧Own jX 9 (fun g=>w.heap.size<=g) w' v (dY s)∧aa af w w':=by
 have hpl:=AE s
 have hall:dY (s.extract 0 s.size)=dY s:=by rw[Ev]
 have SV:=Lib.hid hall
 clear hall
 go_enter Tryz.func159,Tryz.ntmps159
 go_wp2
 go_loopw [3,4,5] (fun o f i wr=>∃k j:Nat,∃l:List ByteArray,k<=s.size∧j<=k∧i=.int .i64 k∧f=.int .i64 j∧Own jX 9 (fun g=>w.heap.size<=g) wr o l∧l++dY (s.extract j s.size)=dY s ∧
  (∀(m:Nat) (h:m<s.size),j<=m->m<k->¬s[m]=47)∧aa af w wr) (fun _ _ i _=>s.size-(intOf i).toNat)
 case atStart=>exact⟨0,0,[],Nat.zero_le _,Nat.le_refl _,rfl,rfl,Own.nil _ _ _ _,SV.out,fun m _ h1 h2=>by omega,aa.refl _ _⟩
 case round =>
  rename_i wr
  obtain⟨k,j,l,hk,hjk,rfl,rfl,ho,hl,hno,hkp⟩:=hrel
  have cV:=Lib.hid hkp
  have Hno:=Lib.hid hno
  have Hl:=Lib.hid hl
  have jy:l.length<=s.size:=by
   have h1:(l++dY (s.extract j s.size)).length<=s.size+1:=by rw[hl];exact hpl
   rw[List.length_append]at h1
   have h2:0<(dY (s.extract j s.size)).length:=by
    unfold dY
    rw[List.length_map]
    exact List.length_pos_iff.2 (Eu _)
   omega
  have hsz:=hkp.size
  clear hkp hno hl
  by_cases hlt:k<s.size
  ·have Hb:=Lib.hid (qM s[k] 47 (by decide) (by decide))
   go_wp2_with(at_builtin;refine mw rfl (.tmp 16) (.tmp 21) rfl AF (ho.keep ((aa.refl af _).alloc _) (fun _ _ h=>h)) (nM (S:=fun _=>True) [s.extract j k] #[.string (s.extract j k)] rfl 1 rfl trivial (by decide)).sl rfl rfl (by simp;omega) (by simp[maxLen];omega) (by simp;omega) ?_;intro v' w' ho' hk' hf')
   ·have h:((s[k].toNat:Int)==47)=true:=by assumption
    rw[Hb.out,decide_eq_true_eq]at h
    have hc:s[k]=47:=h
    have hcut:=KR s j k hjk hlt hc Hno.out
    go_roundw
    case rel =>
     refine⟨k+1,k+1,l++[s.extract j k],by omega,Nat.le_refl _,by go_num,by go_num,ho',?_,fun m _ h1 h2=>by omega,cV.out.alloc _ |>.step hk' (fun g hg=>Or.inr (ho.2 g hg))⟩
     rw[<- Hl.out,hcut]
     simp
    case measure=>simp[intOf];omega
   ·have h:((s[k].toNat:Int)==47)=false:=by assumption
    rw[Hb.out,decide_eq_false_iff_not]at h
    have hc:¬s[k]=47:=h
    go_roundw
    case rel =>
     refine⟨k+1,j,l,by omega,by omega,by go_num,rfl,ho,Hl.out,fun m hm h1 h2=>?_,cV.out⟩
     by_cases e:m=k
     ·subst e;exact hc
     ·exact Hno.out m hm h1 (by omega)
    case measure=>simp[intOf];omega
  ·go_wp2_with(at_builtin;refine mw rfl (.tmp 25) (.tmp 29) rfl AF (ho.keep ((aa.refl af _).alloc _) (fun _ _ h=>h)) (nM (S:=fun _=>True) [s.extract j s.size] #[.string (s.extract j s.size)] rfl 1 rfl trivial (by decide)).sl rfl rfl (by simp;omega) (by simp[maxLen];omega) (by simp;omega) ?_;intro v' w' ho' hk' hf')
   go_ret
   refine⟨_,rfl,?_,cV.out.alloc _ |>.step hk' (fun g hg=>Or.inr (ho.2 g hg))⟩
   rw[<- Hl.out,KO s j (by omega) (fun m hm h1=>Hno.out m hm h1 (by omega))]
   exact ho'
set_option maxHeartbeats 1000000 in
theorem SW (s:ByteArray) (w:World) (hs:s.size<4294967281) :
 Calls Tryz.prog 140 #[.string s] w fun e w' =>
  ∃v,e=.returned v∧Own jX 9 (fun g=>w.heap.size<=g) w' v (iG s)∧aa af w w':=by
 have hpl:=AE s
 have Hpl:=Lib.hid hpl
 clear hpl
 have Hs:=Lib.hid (SU s)
 go_enter Tryz.func140,Tryz.ntmps140
 go_wp2_with(go_at_call 159;refine(Hs.out _ hs).mono ?_;rintro e w1 ⟨v1,rfl,mQ,hk1⟩;obtain⟨p1,c1,rfl,nO⟩:=mQ.sl)
 have hpl:=Hpl.out
 have hcap:=nO.cap
 have hmax:=nO.max
 unfold maxLen at hmax
 go_loopw [3,5] (fun o i wr=>∃k:Nat,k<=(dY s).length∧i=.int .i64 k∧Own jX 9 (fun g=>w1.heap.size<=g) wr o ((dY s).take k |>.filter fun p=>!decide (p=⟨#[]⟩))∧aa af w1 wr) (fun _ i _=>(dY s).length-(intOf i).toNat)
 case atStart=>exact⟨0,Nat.zero_le _,rfl,Own.nil _ _ _ _,aa.refl _ _⟩
 case round =>
  rename_i wr
  obtain⟨k,hk,rfl,ho,hkp⟩:=hrel
  have cV:=Lib.hid hkp
  have hsz:=hkp.size
  clear hkp
  by_cases hlt:k<(dY s).length
  ·obtain⟨x,hx⟩:∃x,(dY s)[k]?=some x:=⟨_,List.getElem?_eq_getElem hlt⟩
   obtain⟨g,off,rfl,hS,hg,c0⟩:=(nO.ai cV.out).str hx
   have nu:=Lib.hid (KX (dY s) (fun p=>!decide (p=⟨#[]⟩)) k x hx)
   have hfl:((dY s).take k |>.filter fun p=>!decide (p=⟨#[]⟩)).length<=k:=Nat.le_trans (List.length_filter_le _ _) (by simp;omega)
   clear hx
   by_cases hp:x=⟨#[]⟩
   ·have Hp:=Lib.hid hp
    subst hp
    go_wp2
    go_roundw
    case rel=>exact⟨k+1,by omega,by go_num,by rw[nu.out];simpa using ho,cV.out⟩
    case measure=>simp[intOf];omega
   ·have hne:=nr hp
    go_wp2_with(at_builtin;refine mw rfl (.tmp 19) (.tmp 24) rfl AF (ho.keep ((aa.refl af _).alloc _) (fun _ _ h=>h)) (nM (S:=fun _=>True) [x] #[.string x] rfl 1 rfl trivial (by decide)).sl rfl rfl (by simp;omega) (by simp[maxLen];omega) (by simp;omega) ?_;intro v' w' ho' hk' hf')
    go_roundw
    case rel =>
     refine⟨k+1,by omega,by go_num,?_,cV.out.alloc _ |>.step hk' (fun g hg=>Or.inr (ho.2 g hg))⟩
     rw[nu.out,if_pos (by simpa using hp)]
     exact ho'
    case measure=>simp[intOf];omega
  ·go_wp2
   go_ret
   refine⟨_,rfl,?_,hk1.trans cV.out⟩
   rw[List.take_of_length_le (by omega)]at ho
   exact ho.mono (fun g _ hg=>by have:=hk1.size;omega)
theorem AG (d:ByteArray) (h:1<=d.size):cg d=decide (d[d.size-1]=47):=by
 unfold cg
 rw[List.getElem?_eq_getElem (by rw[mN];omega),Bool.eq_iff_iff,decide_eq_true_eq,decide_eq_true_eq]
 exact⟨fun h=>Option.some.inj h.2,fun e=>⟨h,congrArg some e⟩⟩
set_option maxHeartbeats 400000 in
theorem SX (d n:ByteArray) (w:World) (hs:d.size<=4294967296) (hn:n.size<=4294967296) :
 Calls Tryz.prog 160 #[.string d,.string n] w fun e w'=>e=.returned (.string (eK d n))∧w'=w:=by
 by_cases hd:d=⟨#[]⟩
 ·subst hd
  have H:=Lib.hid (show eK ⟨#[]⟩ n=n by unfold eK;simp)
  go_enter Tryz.func160,Tryz.ntmps160
  go_wp2
  go_ret
  refine⟨?_,rfl⟩
  rw[H.out]
  rfl
 ·have hne:=nr hd
  have h1:1<=d.size:=by
   rcases Nat.lt_or_ge d.size 1 with h|h
   ·have h2:d.data.toList=[]:=List.eq_nil_of_length_eq_zero (by rw[mN];omega)
    exact absurd (qL (b:=⟨#[]⟩) (by rw[h2])) hd
   ·exact h
  have AH:d.toList.isEmpty=false:=by simpa using hne
  have H:=Lib.hid (show eK d n=if d[d.size-1]=47 then d++n else d++dL++n by unfold eK;rw[if_neg hd,AG d h1];simp)
  have Hb:=Lib.hid (qM (d[d.size-1]'(by omega)) 47 (by decide) (by decide))
  have e1:((d.size-1:Nat):Int)=(d.size:Int)-1:=by omega
  have E1:=Lib.hid e1
  clear e1
  go_enter Tryz.func160,Tryz.ntmps160
  go_wp2
  all_goals
   go_ret
   refine⟨?_,rfl⟩
   first
    | (have h3:((d[d.size-1].toNat:Int)==47)=true:=by assumption
       rw[Hb.out]at h3;have h4:d[d.size-1]=47:=of_decide_eq_true h3;rw[H.out,if_pos h4];rfl)
    | (have h3:((d[d.size-1].toNat:Int)==47)=false:=by assumption
       rw[Hb.out]at h3;have h4:¬d[d.size-1]=47:=of_decide_eq_false h3;rw[H.out,if_neg h4];rfl)
def fV (p:Option Addr) (c n:Nat) (room calls fail:Int):Value:=.agg #[.slice p n c,.int .i64 room,.int .i64 calls,.int .i64 fail]
theorem cL {fn:Func} {p t:Tmp} {ty:TypeId} (h:fn.results=#[.cell p ty,.tmp t]) (tmps:Array Value) (P:Program) (w:World) :
 (results fn tmps).run P w=((asAddr (tmps.getD p undef)).run P w).andThen fun a w₁=>((loadVar ty a).run P w₁).andThen fun v w₂=>.ok (.tuple #[v,tmps.getD t undef]) w₂:=by
 simp only[results,h]
 simp[Sem.run_bind,Result.andThen]
theorem qG (p:Option Addr) (c n:Nat) (room calls fail:Int) (hc0:0<=calls) (hc1:calls<=4611686018427387904) (w:World) :
 Calls Tryz.prog 81 #[fV p c n room calls fail] w fun e w'=>e=.returned (.tuple #[fV p c n room (calls+1) fail,.int .i64 (if calls=fail then 21 else 0)])∧aa af w w':=by
 have hwr:IntKind.i64.wrap (calls+1)=calls+1:=by rw[IntKind.wrap_i64];omega
 unfold fV
 by_cases bG:calls=fail
 ·have hb:(calls==fail)=true:=by simpa using bG
  rw[if_pos bG]
  clear bG
  go_enter Tryz.func81,Tryz.ntmps81
  go_wp2_with fail
  refine bodyPost_ret (v:=.tuple #[.agg #[.slice p n c,.int .i64 room,.int .i64 (calls+1),.int .i64 fail],.int .i64 21]) ?_ rfl ⟨rfl,((aa.refl _ _).alloc _).alloc _⟩
  rw[cL rfl]
  go_simp
 ·have hb:(calls==fail)=false:=by simpa using bG
  rw[if_neg bG]
  clear bG
  go_enter Tryz.func81,Tryz.ntmps81
  go_wp2_with fail
  refine bodyPost_ret (v:=.tuple #[.agg #[.slice p n c,.int .i64 room,.int .i64 (calls+1),.int .i64 fail],.int .i64 0]) ?_ rfl ⟨rfl,((aa.refl _ _).alloc _).alloc _⟩
  rw[cL rfl]
  go_simp
theorem UC:∀(f:Fin 32) (n:Fin 17),(n.val=1∨n.val=2∨n.val=4∨n.val=8∨n.val=16)->(wrap64 ((f.val:Int).tdiv (n.val:Int))==(f.val:Int).tdiv (n.val:Int)&&((((f.val:Int).tdiv (n.val:Int)).tmod 2==1)==(bits BinOp.and IntKind.i64 (f.val:Int) (n.val:Int) != 0)))=true:=by decide +kernel
theorem AX {FG:Int->Int->Bool} (hF:∀f n,FG f n=(bits BinOp.and IntKind.i64 f n != 0)) (f:Int) (h0:0<=f) (h1:f<=31) (n:Nat) (hn:n=1∨n=2∨n=4∨n=8∨n=16) (w:World):Calls Tryz.prog 133 #[.int .i64 f,.int .i64 (n:Int)] w fun e w'=>e=.returned (.bool (FG f n))∧w'=w:=by
 obtain⟨k,rfl⟩:∃k:Nat,f=k:=⟨f.toNat,by omega⟩
 have h:=UC ⟨k,by omega⟩ ⟨n,by omega⟩ hn
 rw[Bool.and_eq_true,beq_iff_eq,beq_iff_eq]at h
 obtain⟨hw,hb⟩:=h
 simp only at hw hb
 rw[<- hF]at hb
 rw[<- hb]
 have hnz:(n:Int)≠0:=by omega
 have HB:=Lib.hid hb
 clear hb hF
 obtain⟨B,hB⟩:∃B,((k:Int).tdiv (n:Int)).tmod 2=B:=⟨_,rfl⟩
 obtain⟨q,hq⟩:∃q,(k:Int).tdiv (n:Int)=q:=⟨_,rfl⟩
 rw[hq]at hw hB ⊢
 rw[hB]
 go_enter Tryz.func133,Tryz.ntmps133
 go_wp2_with fail
 go_ret
 refine⟨?_,rfl⟩
 first|rfl|(rw[hq];rfl)|(simp[hq,hw,hB];done)
theorem n8 (x:ByteArray):x.toList.isEmpty=decide (x.size=0):=by
 rw[ByteArray.toList_eq]
 by_cases h:x.size=0
 ·rw[decide_eq_true h];have:x.data.toList.length=0:=by rw[mN];exact h
  rw[List.isEmpty_iff];exact List.eq_nil_of_length_eq_zero this
 ·rw[decide_eq_false h];have:x.data.toList.length≠0:=by rw[mN];exact h
  cases hl:x.data.toList with
  | nil=>rw[hl]at this;simp at this
  | cons a l=>rfl
theorem EY (s:ByteArray) (hs:s.size<=9223372036854775807) (w:World):Calls Tryz.prog 92 #[.string s] w fun e w'=>e=.returned (.bool (cg s))∧w'=w:=by
 by_cases hz:s.size=0
 ·have he:s.toList.isEmpty=true:=by rw[n8];simp[hz]
  have hE:cg s=false:=decide_eq_false (fun h=>by omega)
  rw[hE]
  clear hE
  go_enter Tryz.func92,Tryz.ntmps92
  go_wp2_with fail
  go_ret
  exact⟨rfl,rfl⟩
 ·have he:s.toList.isEmpty=false:=by rw[n8];simp[hz]
  have hpos:s.size-1<s.size:=by omega
  have hwr:IntKind.i64.wrap ((s.size:Int)-1)=((s.size-1:Nat):Int):=by rw[IntKind.wrap_i64];omega
  have hE:=Lib.hid (AG s (by omega))
  go_enter Tryz.func92,Tryz.ntmps92
  have hb:=qM (s[s.size-1]'hpos) 47 (by decide) (by decide)
  rw[show(47:Int).toNat.toUInt8=47 from rfl]at hb
  obtain⟨ch,hch⟩:∃ch,s[s.size-1]'hpos=ch:=⟨_,rfl⟩
  rw[hch]at hb hE
  go_wp2_with fail
  go_ret
  exact⟨by rw[hE.out];rfl,rfl⟩
end Go.Proofs.YtnanhmfpikddkaaGreatDoor
namespace Go.Proofs.YtnanhmfpikddkaaGreatDoor
open Go.RowKit
abbrev Kv:=List (Int × Value)
def gJ (l:Kv) (k:Int):Option Value:=(l.find? fun x=>decide (x.1=k)).map (·.2)
def ig (l:Kv) (k:Int):Kv:=l.filter fun x=>!decide (x.1=k)
structure gj (w:World) (b:Nat) (l:Kv):Prop where
 blk:∃es clock,w.heap[b]?=some (.map es clock)∧es.toList.map (fun e=>(e.key,e.val))=l.map fun x=>(Value.int .i64 x.1,x.2)
 nodup:(l.map (·.1)).Nodup
theorem gj.lt {w:World} {b:Nat} {l:Kv} (h:gj w b l):b<w.heap.size:=by
 obtain⟨es,c,hb,_⟩:=h.blk
 exact lt_of_block hb
theorem gj.keep {F:Nat->Prop} {w w':World} {b:Nat} {l:Kv} (h:gj w b l) (k:aa F w w') (hF:¬F b):gj w' b l:=by
 obtain⟨es,c,hb,he⟩:=h.blk
 exact⟨⟨es,c,(k.block b h.lt hF).trans hb,he⟩,h.nodup⟩
theorem Cp {l:Kv} {k:Int} (h:∀x∈l,x.1≠k):ig l k=l:=List.filter_eq_self.2 fun x hx=>by simpa using h x hx
theorem KC {l:Kv} {k:Int}:gJ l k=none↔∀x∈l,x.1≠k:=by
 simp[gJ]
theorem Eh {es:List MapEntry} {l:Kv} (he:es.map (fun e=>(e.key,e.val))=l.map fun x=>(Value.int .i64 x.1,x.2)) (hn:(l.map (·.1)).Nodup) (k:Int) (i:Nat) :
 (gJ l k=none∧Instr.findNow (.int .i64) (.int .i64 k) es i=some none) ∨
 ∃j v,gJ l k=some v∧Instr.findNow (.int .i64) (.int .i64 k) es i=some (some (i+j,v))∧j<es.length∧(es.eraseIdx j).map (fun e=>(e.key,e.val))=(ig l k).map fun x=>(Value.int .i64 x.1,x.2):=by
 induction es generalizing l i with
 | nil =>
   cases l with
   | nil=>exact .inl ⟨rfl,rfl⟩
   | cons _ _=>simp at he
 | cons e es ih =>
   cases l with
   | nil=>simp at he
   | cons a l =>
     simp only[List.map_cons,List.cons.injEq,Prod.mk.injEq]at he
     obtain⟨⟨hk,hv⟩,he⟩:=he
     rw[List.map_cons,List.nodup_cons]at hn
     by_cases ea:a.1=k
     ·subst ea
      refine .inr ⟨0,a.2,by simp[gJ],?_,by simp,?_⟩
      ·simp[Instr.findNow,Instr.sameNow,hk,hv]
      ·have hd:ig (a::l) a.1=l:=by
        unfold ig
        rw[List.filter_cons]
        simp only[decide_true,Bool.not_true,Bool.false_eq_true,if_false]
        exact Cp fun x hx e=>hn.1 (List.mem_map.2 ⟨x,hx,e⟩)
       rw[hd]
       simpa using he
     ·have hsk:Instr.findNow (.int .i64) (.int .i64 k) (e::es) i=Instr.findNow (.int .i64) (.int .i64 k) es (i+1):=by
       have hb:(k==a.1)=false:=beq_false_of_ne fun h=>ea h.symm
       simp only[Instr.findNow,Instr.sameNow,hk,if_true,hb]
      have hg:gJ (a::l) k=gJ l k:=by simp[gJ,List.find?_cons,ea]
      have hd:ig (a::l) k=a::ig l k:=by simp[ig,List.filter_cons,ea]
      rcases ih he hn.2 (i+1)with⟨h1,h2⟩|⟨j,v,h1,h2,h3,h4⟩
      ·exact .inl ⟨hg.trans h1,hsk.trans h2⟩
      ·refine .inr ⟨j+1,v,hg.trans h1,hsk.trans (h2.trans (by rw[Nat.add_right_comm,Nat.add_assoc])),by simpa using h3,?_⟩
       rw[hd]
       simpa[hk,hv]using h4
section
variable{P:Program} {t kt et:TypeId} {w:World} {b:Nat} {l:Kv}
theorem gj.lookup (h:gj w b l) (ht:P.underlying t=some (.map kt et)) (hk:P.underlying kt=some (.int .i64)) {z:Value} (hz:(zeroValue et).run P w=.ok z w) (k:Int) :
 (Instr.lookup t (.map (some b)) (.int .i64 k) false).run P w=.ok ((gJ l k).getD z) w:=by
 obtain⟨es,c,hb,he⟩:=h.blk
 have qf:=fun e=>MapKept.run_checkKey (w:=w) hk (k:=.int .i64 k) (by simp[MapKept.IsKey]) e 9999
 rcases Eh he h.nodup k 0 with⟨h1,h2⟩|⟨j,v,h1,h2,_,_⟩
 ·simp[Instr.lookup,run_underlying ht,MapKept.run_getObj_map hb,qf,MapKept.run_findKey hk h2,h1,hz,Result.andThen]
 ·simp[Instr.lookup,run_underlying ht,MapKept.run_getObj_map hb,qf,MapKept.run_findKey hk h2,h1,Result.andThen]
theorem gj.update (h:gj w b l) (ht:P.underlying t=some (.map kt et)) (hk:P.underlying kt=some (.int .i64)) (k:Int) (v:Value) (hno:gJ l k=none) :
 ∃w',(Instr.mapUpdate t (.map (some b)) (.int .i64 k) v).run P w=.ok () w'∧gj w' b (l++[(k,v)])∧aa (fun g=>g=b) w w':=by
 obtain⟨es,c,hb,he⟩:=h.blk
 have qf:=fun e=>MapKept.run_checkKey (w:=w) hk (k:=.int .i64 k) (by simp[MapKept.IsKey]) e 9999
 rcases Eh he h.nodup k 0 with⟨h1,h2⟩|⟨j,v',h1,h2,_,_⟩
 ·refine⟨ChangeMaps.setBlock w b (.map (es.push { key:=.int .i64 k,val:=v,born:=c }) (c+1)),?_,⟨⟨_,_,ChangeMaps.heap_setBlock_same hb _,by simp[he]⟩,?_⟩,⟨rfl,rfl,rfl,by simp[ChangeMaps.setBlock],fun i _ hi=>ChangeMaps.heap_setBlock_other hb _ hi⟩⟩
  ·simp[Instr.mapUpdate,run_underlying ht,MapKept.run_getObj_map hb,qf,MapKept.run_findKey hk h2,MapKept.run_setObj_map _ hb,Result.andThen,ChangeMaps.setBlock]
  ·rw[List.map_append,List.nodup_append]
   refine⟨h.nodup,by simp,fun a ha b hb=>?_⟩
   simp only[List.map_cons,List.map_nil,List.mem_singleton]at hb
   subst hb
   obtain⟨x,hx,rfl⟩:=List.mem_map.1 ha
   exact KC.1 h1 x hx
 ·rw[hno]at h1;cases h1
theorem gj.delete (h:gj w b l) (ht:P.underlying t=some (.map kt et)) (hk:P.underlying kt=some (.int .i64)) (k:Int) (Ay ty:TypeId) :
 ∃w',(Builtin.delete_ #[t,Ay] ty #[.map (some b),.int .i64 k]).run P w=.ok (.tuple #[]) w'∧gj w' b (ig l k)∧aa (fun g=>g=b) w w':=by
 obtain⟨es,c,hb,he⟩:=h.blk
 have qf:=fun e=>MapKept.run_checkKey (w:=w) hk (k:=.int .i64 k) (by simp[MapKept.IsKey]) e 9999
 have hnd:((ig l k).map (·.1)).Nodup:=List.Nodup.sublist (List.Sublist.map _ List.filter_sublist) h.nodup
 rcases Eh he h.nodup k 0 with⟨h1,h2⟩|⟨j,v,h1,h2,hj,h4⟩
 ·refine⟨ChangeMaps.setBlock w b (.map es c),?_,⟨⟨_,_,ChangeMaps.heap_setBlock_same hb _,?_⟩,hnd⟩,⟨rfl,rfl,rfl,by simp[ChangeMaps.setBlock],fun i _ hi=>ChangeMaps.heap_setBlock_other hb _ hi⟩⟩
  ·simp[Builtin.delete_,run_underlying ht,MapKept.run_getObj_map hb,qf,MapKept.run_findKey hk h2,MapKept.run_setObj_map _ hb,Result.andThen,ChangeMaps.setBlock]
  ·rw[Cp (KC.1 h1)];exact he
 ·refine⟨ChangeMaps.setBlock w b (.map (es.eraseIdxIfInBounds j) c),?_,⟨⟨_,_,ChangeMaps.heap_setBlock_same hb _,?_⟩,hnd⟩,⟨rfl,rfl,rfl,by simp[ChangeMaps.setBlock],fun i _ hi=>ChangeMaps.heap_setBlock_other hb _ hi⟩⟩
  ·simp[Builtin.delete_,run_underlying ht,MapKept.run_getObj_map hb,qf,MapKept.run_findKey hk h2,MapKept.run_setObj_map _ hb,Result.andThen,ChangeMaps.setBlock]
  ·rw[<- h4]
   have hj':j<es.size:=by simpa using hj
   simp[Array.eraseIdxIfInBounds,hj',Array.toList_eraseIdx]
theorem gj.len (h:gj w b l) (ht:P.underlying t=some (.map kt et)) (ty:TypeId):(Builtin.len_ #[t] ty #[.map (some b)]).run P w=.ok (goInt l.length) w:=by
 obtain⟨es,c,hb,he⟩:=h.blk
 have:es.size=l.length:=by have:=congrArg List.length he;simpa using this
 simp[Builtin.len_,run_underlying ht,MapKept.run_getObj_map hb,Result.andThen,this]
theorem gj.made (w:World):gj (w.alloc (.map #[] 0)) w.heap.size []:=⟨⟨#[],0,heap_alloc_new w _,rfl⟩,by simp⟩
end
theorem G5 {P:Program} {w:World} {ops:Array Oper} {rest:List Oper} {o:Oper} {a:Act} {Q:Exit->Act->World->Prop} (hg:o.guard=none) (m x v:Operand) (t:TypeId) (hop:o.op=Op.mapUpdate t m x v)
 {kt et:TypeId} (ht:P.underlying t=some (.map kt et)) (hk:P.underlying kt=some (.int .i64)) {b:Nat} {l:Kv} (hm:a.eval m=.map (some b)) (h:gj w b l) {k:Int} (hx:a.eval x=.int .i64 k) {val:Value} (hv:a.eval v=val)
 (hno:gJ l k=none) (hK:∀w',gj w' b (l++[(k,val)])->aa (fun g=>g=b) w w'->wpList P ops Q rest (a.put o.dst undef) w') :
 wpList P ops Q (o::rest) a w:=by
 refine wpList_plain hg fun K' hK'=>?_
 obtain⟨w',hrun,r1,r2⟩:=h.update ht hk k val hno
 unfold Oper.wp
 simp[execOp,hop,hm,hx,hv,hrun,Result.andThen]
 exact hK' _ _ (hK w' r1 r2)
theorem OK {P:Program} {w:World} {ops:Array Oper} {rest:List Oper} {o:Oper} {a:Act} {Q:Exit->Act->World->Prop} (hg:o.guard=none) (m x:Operand) (t Ay:TypeId)
 (hop:o.op=Op.call { callee:=Callee.builtin Builtin.delete,args:=#[m,x],argTypes:=#[t,Ay] })
 {kt et:TypeId} (ht:P.underlying t=some (.map kt et)) (hk:P.underlying kt=some (.int .i64)) {b:Nat} {l:Kv} (hm:a.eval m=.map (some b)) (h:gj w b l) {k:Int} (hx:a.eval x=.int .i64 k)
 (hK:∀w',gj w' b (ig l k)->aa (fun g=>g=b) w w'->wpList P ops Q rest (a.put o.dst (.tuple #[])) w') :
 wpList P ops Q (o::rest) a w:=by
 refine wpList_plain hg fun K' hK'=>?_
 obtain⟨w',hrun,r1,r2⟩:=h.delete ht hk k Ay o.type
 unfold Oper.wp
 simp[execOp,hop,resolve,invoke,builtin,hm,hx,hrun,Result.andThen]
 exact hK' _ _ (hK w' r1 r2)
def cX (k:Nat):ByteArray:=⟨Array.replicate k 0⟩
theorem sO (k:Nat):(cX k).size=k:=by simp[cX,ByteArray.size]
def eu (S:Nat->Prop) (w:World) (v:Value) (s:ByteArray):Prop :=
 (v=.slice none 0 0∧s.size=0) ∨
 ∃g cap,v=.slice (some ⟨g,0,none⟩) s.size cap∧S g∧g<w.heap.size∧s.size<=cap∧cap<=maxLen∧(∀j,j<cap->(w.cell? ⟨g,j,none⟩).isSome=true) ∧
  (∀j,j<cap->w.frozen? ⟨g,j,none⟩=false)∧∀j b,s.data.toList[j]?=some b->w.cell? ⟨g,j,none⟩=some (.int .u8 (b.toNat:Int))
theorem eu.nil (S:Nat->Prop) (w:World):eu S w (.slice none 0 0) ⟨#[]⟩:=.inl ⟨rfl,rfl⟩
theorem Bq (b:Nat):∀(vs:List Value) (o:Nat) (w:World),(w.setCells b o vs).heap.size=w.heap.size
 | [],_,_=>rfl
 | v::r,o,w=>by rw[World.setCells,Bq b r];simp[World.setCell]
theorem aa.setCells {F:Nat->Prop} {a w:World} (h:aa F a w) {g:Nat} (hg:F g∨a.heap.size<=g):∀(vs:List Value) (o:Nat),aa F a (w.setCells g o vs):=by
 intro vs
 induction vs generalizing w with
 | nil=>intro o;exact h
 | cons v r ih=>intro o;exact ih (h.setCell (p:=⟨g,o,none⟩) hg v) _
variable{S:Nat->Prop} {w:World} {v:Value} {s:ByteArray}
theorem eu.form (h:eu S w v s):∃p cap,v=.slice p s.size cap:=by
 rcases h with⟨rfl,h⟩|⟨g,cap,rfl,_⟩
 ·exact⟨none,0,by rw[h]⟩
 ·exact⟨_,_,rfl⟩
theorem eu.keep {F:Nat->Prop} {w':World} (h:eu S w v s) (k:aa F w w') (hF:∀g,v.ownBlock=some g->¬F g):eu S w' v s:=by
 rcases h with h|⟨g,cap,rfl,h1,h2,h3,h4,h5,h6,h7⟩
 ·exact .inl h
 ·have hg:=hF g rfl
  have hc:∀j,w'.cell? ⟨g,j,none⟩=w.cell? ⟨g,j,none⟩:=fun j=>k.cell (p:=⟨g,j,none⟩) h2 hg
  have hf:∀j,w'.frozen? ⟨g,j,none⟩=w.frozen? ⟨g,j,none⟩:=fun j=>k.frozen (p:=⟨g,j,none⟩) h2 hg
  exact .inr ⟨g,cap,rfl,h1,Nat.lt_of_lt_of_le h2 k.size,h3,h4,fun j hj=>by rw[hc];exact h5 j hj,fun j hj=>by rw[hf];exact h6 j hj,fun j b hb=>by rw[hc];exact h7 j b hb⟩
theorem eu.mono {S':Nat->Prop} (h:eu S w v s) (hS:∀g,v.ownBlock=some g->S g->S' g):eu S' w v s:=by
 rcases h with h|⟨g,cap,rfl,h1,h2⟩
 ·exact .inl h
 ·exact .inr ⟨g,cap,rfl,hS g rfl h1,h2⟩
theorem eu.lt (h:eu S w v s):∀g,v.ownBlock=some g->g<w.heap.size:=by
 rcases h with⟨rfl,_⟩|⟨g,cap,rfl,h1,h2,_⟩
 ·intro g hg;simp[Value.ownBlock]at hg
 ·intro g' hg;simp[Value.ownBlock]at hg;subst hg;exact h2
theorem eu.small (h:eu S w v s):s.size<=maxLen:=by
 rcases h with⟨_,h⟩|⟨g,cap,rfl,h1,h2,h3,h4,_⟩
 ·omega
 ·omega
theorem eu.conv (w:World) (e:TypeId) (s:ByteArray) (hS:S w.heap.size) (hs:s.size<=maxLen) :
 eu S (Lib.bytesWorld w e s) (.slice (some ⟨w.heap.size,0,none⟩) s.size (grownCap w s.size 0 e)) s∧aa af w (Lib.bytesWorld w e s):=by
 have hge:s.size<=grownCap w s.size 0 e:=grownCap_ge w s.size 0 e
 have hle:=grownCap_le_maxLen w s.size 0 e hs
 have hsz:(Lib.bytesCells w e s).size=grownCap w s.size 0 e:=by
  simp[Lib.bytesCells];rw[ByteArray.size]at hge ⊢;omega
 have hnew:=Lib.bytesWorld_at_new w e s
 have hsize:=Lib.bytesWorld_size w e s
 refine⟨.inr ⟨_,_,rfl,hS,by omega,hge,hle,fun j hj=>?_,fun j hj=>?_,fun j b hb=>?_⟩,⟨?_,?_,?_,by omega,fun k hk _=>Lib.bytesWorld_at_old w e s k hk⟩⟩
 ·simp[World.cell?,hnew,hsz,hj]
 ·simp only[World.frozen?,hnew,hsz]
  simp;omega
 ·have hj:=(List.getElem?_eq_some_iff.1 hb).1
  rw[Lib.bytesWorld_cell w e s j (by rw[Lib.size_eq];exact hj)]
  simp[List.getD,hb]
 ·simp[Lib.bytesWorld,World.freeze];rfl
 ·simp[Lib.bytesWorld,World.freeze]
 ·simp[Lib.bytesWorld,World.freeze];rfl
theorem eu.str {P:Program} (h:eu S w v s) (src dst e:TypeId) (hs:P.underlying src=some (.slice e)) (he:P.underlying e=some (.int .u8)) (hd:P.underlying dst=some .string) :
 (convert src dst v).run P w=.ok (.string s) w:=by
 rcases h with⟨rfl,h⟩|⟨g,cap,rfl,h1,h2,h3,h4,h5,h6,h7⟩
 ·have:s=⟨#[]⟩:=by
   exact ByteArray.ext (Array.eq_empty_of_size_eq_zero h)
  subst this
  rw[run_convert_bytes_string w src dst e none 0 0 hs he hd]
  rfl
 ·have:=run_convert_bytes_back (P:=P) w src dst e ⟨g,0,none⟩ cap s.data.toList hs he hd (fun j hj=>by
   rw[add_lit,Nat.zero_add]
   exact h7 j _ (List.getElem?_eq_getElem hj))
  simpa using this
theorem FQ (s:ByteArray) (k j:Nat) (b:UInt8) (h:(s++cX k).data.toList[j]?=some b):(j<s.size∧s.data.toList[j]?=some b)∨(s.size<=j∧j<s.size+k∧b=0):=by
 have e:(s++cX k).data.toList=s.data.toList++List.replicate k 0:=by simp[cX]
 rw[e]at h
 by_cases hj:j<s.size
 ·rw[List.getElem?_append_left (by rw[<- Lib.size_eq];exact hj)]at h
  exact .inl ⟨hj,h⟩
 ·rw[List.getElem?_append_right (by rw[<- Lib.size_eq];omega),List.getElem?_replicate,<- Lib.size_eq]at h
  split at h
  ·next h2=>exact .inr ⟨by omega,by omega,by cases h;rfl⟩
  ·cases h
theorem FR (k:Nat):(Builtin.zeroCells (Value.int .u8 0).cells k).toList=List.replicate k (.int .u8 0):=by
 have h:(Value.int .u8 0).cells=#[.int .u8 0]:=rfl
 rw[h]
 apply List.ext_getElem?
 intro j
 simp[Builtin.zeroCells,List.getElem?_replicate,List.getElem?_range]
 by_cases hj:j<k
 ·simp[hj,Nat.mod_one]
 ·simp[hj]
theorem eu.zeros {P:Program} {t tn e:TypeId} {i:TypeInfo} (ty:TypeId) (h:eu S w v s) (ht:P.underlying t=some (.slice e)) (htn:P.underlying tn=some (.int .i64)) (hi:P.info? e=some i) (hz:i.zero=some (.int .u8 0))
 (lT:i.size=1) (hib:i.bytes=1) (k:Nat) (hk:s.size+k<=4294967296) (hS:S w.heap.size) :
 ∃v' w',(Builtin.append_ #[t,tn] ty #[v,.int .i64 (k:Int)]).run P w=.ok v' w'∧eu S w' v' (s++cX k)∧aa (fun g=>v.ownBlock=some g) w w' ∧
  (∀g,v'.ownBlock=some g->v.ownBlock=some g∨w.heap.size<=g):=by
 have hw:IntKind.i64.wrap (k:Int)=k:=by rw[IntKind.wrap_i64];omega
 have hsz:(s++cX k).size=s.size+k:=by simp[sO]
 have hlen:s.data.toList.length=s.size:=(Lib.size_eq s).symm
 have hgrow:∀base cap,cap<s.size+k->(Builtin.firstCells i.size s.size (.slice base s.size cap)).run P w.drew=.ok (s.data.toList.map fun b=>Value.int .u8 (b.toNat:Int)).toArray w.drew ->
  v=.slice base s.size cap->s.size<=cap ->
  ∃v' w',(Builtin.append_ #[t,tn] ty #[v,.int .i64 (k:Int)]).run P w=.ok v' w'∧eu S w' v' (s++cX k)∧aa (fun g=>v.ownBlock=some g) w w' ∧
   (∀g,v'.ownBlock=some g->v.ownBlock=some g∨w.heap.size<=g):=by
  intro base cap hlt hold hv hcap
  subst hv
  have hr:=Lib.run_append_grow_zeros (P:=P) w t tn ty e i _ .i64 .i64 ht htn hi hz base s.size cap _ hold k (by omega) (by rw[lT];decide) hlt (by omega) (by rw[hib];omega) (growslice_fits hlt (by rw[hib];omega))
  have hge:=grownCap_ge w (s.size+k) cap e
  have hle:=grownCap_le_maxLen w (s.size+k) cap e (by simp only[maxLen];omega)
  refine⟨_,_,hr,?_,((aa.refl _ w).drew).alloc _,fun g hg=>by simp[Value.ownBlock]at hg;right;omega⟩
  generalize hC:((s.data.toList.map fun b=>Value.int .u8 (b.toNat:Int)).toArray++Builtin.zeroCells (Value.int .u8 0).cells k++Builtin.zeroCells (Value.int .u8 0).cells (grownCap w (s.size+k) cap e-(s.size+k)))=C
  have FT:C.toList=(s.data.toList.map fun b=>Value.int .u8 (b.toNat:Int))++List.replicate k (.int .u8 0)++List.replicate (grownCap w (s.size+k) cap e-(s.size+k)) (.int .u8 0):=by
   rw[<- hC];simp only[Array.toList_append,FR]
  have MG:C.size=grownCap w (s.size+k) cap e:=by
   rw[<- Array.length_toList,FT];simp only[List.length_append,List.length_map,List.length_replicate,hlen];omega
  have hn:=heap_alloc_new w.drew (.cells C e)
  refine .inr ⟨w.heap.size,_,by rw[hsz],hS,by simp,by omega,hle,fun j hj=>?_,fun j hj=>?_,fun j b hb=>?_⟩
  ·have hn':(w.drew.alloc (.cells C e)).heap[w.heap.size]?=some (.cells C e (0,0)):=hn
   rw[cell_of_row _ _ _ C e (0,0) hn'];simp[MG,hj]
  ·exact frozen_of_row _ _ _ C e hn
  ·have hn':(w.drew.alloc (.cells C e)).heap[w.heap.size]?=some (.cells C e (0,0)):=hn
   rw[cell_of_row _ _ _ C e (0,0) hn',<- Array.getElem?_toList,FT]
   rcases FQ s k j b hb with⟨h1,h2⟩|⟨h1,h2,rfl⟩
   ·rw[List.append_assoc,List.getElem?_append_left (by simp only[List.length_map,hlen];exact h1),List.getElem?_map,h2];rfl
   ·rw[List.getElem?_append_left (by simp only[List.length_append,List.length_map,List.length_replicate,hlen];omega),List.getElem?_append_right (by simp only[List.length_map,hlen];exact h1),List.getElem?_replicate,if_pos (by simp only[List.length_map,hlen];omega)];rfl
 rcases h with⟨rfl,h⟩|⟨g,cap,rfl,h1,h2,h3,h4,h5,h6,h7⟩
 ·have:s=⟨#[]⟩:=by
   exact ByteArray.ext (Array.eq_empty_of_size_eq_zero h)
  subst this
  by_cases h0:k=0
  ·subst h0
   refine⟨.slice none 0 0,w,?_,.inl ⟨rfl,hsz⟩,aa.refl _ w,fun g hg=>.inl hg⟩
   have hw0:IntKind.i64.wrap 0=0:=by decide
   simp[Builtin.append_,run_underlying ht,run_underlying htn,sizeOf,typeInfo,hi,hib,asInt,asIntOf,hw0,Result.andThen]
  ·exact hgrow none 0 (by show 0<0+k;omega) (run_firstCells_none _ _ _ _ _) rfl (Nat.le_refl 0)
 ·by_cases hroom:s.size+k<=cap
  ·refine⟨.slice (some ⟨g,0,none⟩) (s.size+k) cap,w.setCells g s.size (List.replicate k (.int .u8 0)),?_,.inr ⟨g,cap,by rw[hsz],h1,by rw[Bq];exact h2,by omega,h4,fun j hj=>World.isSome_setCells _ _ _ _ _ (h5 j hj),fun j hj=>by rw[World.frozen?_setCells];exact h6 j hj,fun j b hb=>?_⟩,?_,fun g hg=>.inl hg⟩
   ·have hst:=run_storeCells_cells (P:=P) g s.size (List.replicate k (.int .u8 0)) 0 w (fun j hj=>h5 _ (by simp at hj;omega)) (fun j hj=>h6 _ (by simp at hj;omega)) (fun v hv=>by rw[(List.mem_replicate.1 hv).2];rfl)
    rw[Nat.add_zero]at hst
    have h48i:¬(281474976710656<(k:Int)):=by omega
    have hneg:¬((k:Int)<0):=by omega
    by_cases h0:k=0
    ·subst h0
     have hw0:IntKind.i64.wrap 0=0:=by decide
     have hnc:¬cap<s.size:=by omega
     simp[Builtin.append_,run_underlying ht,run_underlying htn,sizeOf,typeInfo,zeroValue,hi,hz,hw0,hnc,lT,hib,asInt,asIntOf,hw,hneg,h48i,hroom,Result.andThen,add_lit,World.setCells,storeCells]
    ·simp[Builtin.append_,run_underlying ht,run_underlying htn,sizeOf,typeInfo,zeroValue,hi,hz,lT,hib,asInt,asIntOf,hw,hneg,h48i,h0,hroom,Result.andThen,add_lit,FR,hst]
   ·rcases FQ s k j b hb with⟨h8,h9⟩|⟨h8,h9,rfl⟩
    ·rw[World.cell?_setCells_out _ _ _ _ _ (fun _ _=>.inl h8)];exact h7 j b h9
    ·have:=World.cell?_setCells_in g (List.replicate k (.int .u8 0)) s.size w (fun j hj=>h5 _ (by simp at hj;omega)) (j-s.size) (by simp;omega)
     rw[show s.size+(j-s.size)=j by omega]at this
     rw[this];simp
   ·exact aa.setCells (g:=g) (aa.refl (fun g'=>(Value.slice (some ⟨g,0,none⟩) s.size cap).ownBlock=some g') w) (Or.inl (by rfl)) _ _
  ·exact hgrow _ cap (by omega) (run_firstCells_some w.drew i.size s.size ⟨g,0,none⟩ s.size cap _ (by rw[lT,List.length_map,hlen,Nat.mul_one]) (fun j u hu=>by
    rw[List.getElem?_map]at hu
    cases hb:s.data.toList[j]? with
    | none=>rw[hb]at hu;cases hu
    | some b=>rw[hb]at hu;rw[add_lit,Nat.zero_add,World.cell?_drew,h7 j b hb];exact hu)) rfl h3
def over (s:ByteArray) (at':Nat) (t:ByteArray):ByteArray:=⟨(s.data.toList.take at'++t.data.toList++s.data.toList.drop (at'+t.size)).toArray⟩
theorem yt {s t:ByteArray} {a:Nat} (h:a+t.size<=s.size):(over s a t).size=s.size:=by
 have h1:=Lib.size_eq s
 have h2:=Lib.size_eq t
 show(s.data.toList.take a++t.data.toList++s.data.toList.drop (a+t.size)).toArray.size=s.size
 simp only[List.size_toArray,List.length_append,List.length_take,List.length_drop]
 omega
theorem MH {s t:ByteArray} {a:Nat} (h:a+t.size<=s.size) (j:Nat):(over s a t).data.toList[j]?=if a<=j∧j<a+t.size then t.data.toList[j-a]? else s.data.toList[j]?:=by
 have h1:=Lib.size_eq s
 have h2:=Lib.size_eq t
 show(s.data.toList.take a++t.data.toList++s.data.toList.drop (a+t.size))[j]?=_
 have l1:(s.data.toList.take a).length=a:=by simp only[List.length_take];omega
 by_cases c1:j<a
 ·rw[if_neg (by omega),List.append_assoc,List.getElem?_append_left (by rw[l1];exact c1),List.getElem?_take,if_pos c1]
 ·by_cases c2:j<a+t.size
  ·rw[if_pos (by omega),List.getElem?_append_left (by rw[List.length_append,l1];omega),List.getElem?_append_right (by rw[l1];omega),l1]
  ·rw[if_neg (by omega),List.getElem?_append_right (by rw[List.length_append,l1];omega),List.length_append,l1,List.getElem?_drop]
   congr 1;omega
theorem eu.over {P:Program} {t tn e:TypeId} {i:TypeInfo} (ty:TypeId) (h:eu S w v s) (ht:P.underlying t=some (.slice e)) (hi:P.info? e=some i) (lT:i.size=1) {p:Option Addr} {cap:Nat} (hv:v=.slice p s.size cap)
 (a:Nat) (x:ByteArray) (h0:0<x.size) (hx:a+x.size<=s.size) :
 ∃w',(Builtin.copy_ #[t,tn] ty #[.slice (jK 1 p cap a) (s.size-a) (cap-a),.string x]).run P w=.ok (goInt x.size) w'∧eu S w' v (over s a x)∧aa (fun g=>v.ownBlock=some g) w w':=by
 rcases h with⟨rfl,h⟩|⟨g,cap,rfl,h1,h2,h3,h4,h5,h6,h7⟩
 ·omega
 ·cases hv
  have hsub:jK 1 (some ⟨g,0,none⟩) cap a=some ⟨g,a,none⟩:=by
   unfold jK
   rw[if_neg (by omega)]
   simp[add_lit]
  have hlen:x.data.toList.length=x.size:=(Lib.size_eq x).symm
  have hmin:Nat.min x.size (s.size-a)=x.size:=Nat.min_eq_left (by omega)
  have htake:(x.data.toList.map fun b=>Value.int .u8 (b.toNat:Int)).take x.size=x.data.toList.map fun b=>Value.int .u8 (b.toNat:Int):=List.take_of_length_le (by rw[List.length_map,hlen];exact Nat.le_refl _)
  have hst:=run_storeCells_cells (P:=P) g a (x.data.toList.map fun b=>Value.int .u8 (b.toNat:Int)) 0 w (fun j hj=>h5 _ (by rw[List.length_map,hlen]at hj;omega)) (fun j hj=>h6 _ (by rw[List.length_map,hlen]at hj;omega))
   (fun v hv=>by obtain⟨b,_,rfl⟩:=List.mem_map.1 hv;rfl)
  rw[Nat.add_zero]at hst
  refine⟨w.setCells g a (x.data.toList.map fun b=>Value.int .u8 (b.toNat:Int)),?_,.inr ⟨g,cap,by rw[yt hx],h1,by rw[Bq];exact h2,by rw[yt hx];exact h3,h4,fun j hj=>World.isSome_setCells _ _ _ _ _ (h5 j hj),fun j hj=>by rw[World.frozen?_setCells];exact h6 j hj,fun j b hb=>?_⟩,aa.setCells (g:=g) (aa.refl (fun g'=>(Value.slice (some ⟨g,0,none⟩) s.size cap).ownBlock=some g') w) (Or.inl (by rfl)) _ _⟩
  ·rw[hsub]
   simp[Builtin.copy_,run_underlying ht,Builtin.lenOf,Builtin.firstCells,sizeOf,typeInfo,hi,hmin,htake,Result.andThen,hst]
  ·rw[MH hx]at hb
   split at hb
   ·next c =>
    have:=World.cell?_setCells_in g (x.data.toList.map fun b=>Value.int .u8 (b.toNat:Int)) a w (fun j hj=>h5 _ (by rw[List.length_map,hlen]at hj;omega)) (j-a) (by rw[List.length_map,hlen];omega)
    rw[show a+(j-a)=j by omega]at this
    rw[this]
    obtain⟨hl,he⟩:=List.getElem?_eq_some_iff.1 hb
    rw[List.getElem_map,he]
   ·next c=>rw[World.cell?_setCells_out _ _ _ _ _ (fun _ _=>by simp only[List.length_map,hlen];omega)];exact h7 j b hb
structure mz (G:Nat->Prop) (w:World) (a:Addr) (v:Value) (es:List aD):Prop where
 cell:w.cell? a=some v
 free:w.frozen? a=false
 spot:a.spot=none
 own:Own aK 59 G w v es
 rising:cq es
 names:∀e∈es,fJ e.1=true
 apart:¬v.ownBlock=some a.block
set_option maxHeartbeats 400000 in
theorem yB (G:Nat->Prop) (w:World) (a:Addr) (v:Value) (es:List aD) (name:ByteArray) (h:mz G w a v es) (hn:es.length<4294967296) :
 Calls Tryz.prog 144 #[.pointer (some a),.string name] w fun e w' =>
  e=.returned (.tuple #[.int .i64 (lb es name),.bool (bu es name)])∧aa af w w':=by
 obtain⟨p,c,rfl,hs⟩:=h.own.sl
 have hc:=h.cell
 have hr:=h.rising
 go_enter Tryz.func144,Tryz.ntmps144
 go_wp2_with(go_at_call 161;refine(M3 _ _ _ _ _ _ hs hr hn).mono ?_;rintro e w' ⟨rfl,hk1⟩)
 go_ret2
 exact⟨rfl,hk1⟩
set_option maxHeartbeats 400000 in
theorem BA (G:Nat->Prop) (w:World) (a:Addr) (v:Value) (es:List aD) (h:mz G w a v es) :
 Calls Tryz.prog 60 #[.pointer (some a)] w fun e w'=>e=.returned (.int .i64 es.length)∧w=w':=by
 obtain⟨p,c,rfl,hs⟩:=h.own.sl
 have hc:=h.cell
 go_enter Tryz.func60,Tryz.ntmps60
 go_wp2
 go_ret
 exact⟨rfl,rfl⟩
set_option maxHeartbeats 400000 in
theorem BB (G:Nat->Prop) (w:World) (a:Addr) (v:Value) (es:List aD) (name:ByteArray) (h:mz G w a v es) (hn:es.length<4294967296) :
 Calls Tryz.prog 126 #[.pointer (some a),.string name] w fun e w' =>
  e=.returned (.tuple #[.int .i64 ((bk es name).getD 0),.bool (bk es name).isSome])∧aa af w w':=by
 have hfind:=yB G w a v es name h hn
 obtain⟨p,c,rfl,hs⟩:=h.own.sl
 have hlt:=dm h.cell
 have aT:=rQ h.rising name
 have hget:=get_at h.rising name
 by_cases hh:bu es name=true
 ·rw[hh]at aT
  cases hl:es[lb es name]? with
  | none=>rw[hl]at aT;cases aT
  | some x =>
    rw[hl]at aT hget
    have hx:x.1=name:=by simpa using aT.symm
    simp only[hx,if_true]at hget
    have BC:=Lib.hid hget
    have Hl:=Lib.hid hl
    have jy:=(List.getElem?_eq_some_iff.1 hl).1
    rw[hh]at hfind
    have kV:=Lib.hid hfind
    clear aT hget hl hh hfind
    go_enter Tryz.func126,Tryz.ntmps126
    go_wp2_with(fail)
    refine kV.out.mono ?_
    rintro e w' ⟨rfl,hk1⟩
    obtain⟨g,off,rfl,hS,hg,c0,c1⟩:=(hs.ai hk1).iW Hl.out
    have hc:=(hk1.cell hlt (fun h=>h)).trans h.cell
    go_wp2_with fail
    go_ret2
    refine⟨?_,hk1⟩
    rw[BC.out];rfl
 ·have BD:bu es name=false:=by simpa using hh
  have Gb:bk es name=none:=by
   rw[BD]at aT
   cases hl:es[lb es name]? with
   | none=>rw[hl]at hget;exact hget
   | some x =>
     rw[hl]at hget aT
     have:¬x.1=name:=by simpa using aT.symm
     simpa[this]using hget
  have BC:=Lib.hid Gb
  rw[BD]at hfind
  have kV:=Lib.hid hfind
  clear aT hget Gb hh BD hfind
  go_enter Tryz.func126,Tryz.ntmps126
  go_wp2_with(fail)
  refine kV.out.mono ?_
  rintro e w' ⟨rfl,hk1⟩
  go_wp2_with fail
  go_ret2
  refine⟨?_,hk1⟩
  rw[BC.out];rfl
theorem Gc (es:List aD) (k:Nat) (x:aD) (h:es[k]?=some x):cQ (es.take (k+1))=cQ (es.take k)+x.1.size:=by
 unfold cQ
 rw[List.take_add_one,h]
 simp
theorem M4 (es:List aD) (h:∀e∈es,fJ e.1=true):cQ es<=255*es.length:=by
 induction es with
 | nil=>simp[cQ]
 | cons a l ih =>
   have ha:a.1.size<=255:=by have:=h a (by simp);simp[fJ]at this;omega
   have:=ih (fun e he=>h e (by simp[he]))
   simp only[cQ,List.map_cons,List.sum_cons,List.length_cons]at *
   omega
set_option maxHeartbeats 400000 in
theorem M5 (G:Nat->Prop) (w:World) (a:Addr) (v:Value) (es:List aD) (h:mz G w a v es) (hn:es.length<4294967296) :
 Calls Tryz.prog 148 #[.pointer (some a)] w fun e w'=>e=.returned (.int .i64 (cQ es))∧aa af w w':=by
 have hnm:=h.names
 obtain⟨p,c,rfl,hs⟩:=h.own.sl
 have hc:=h.cell
 have vL:=Lib.hid hnm
 clear hnm
 go_enter Tryz.func148,Tryz.ntmps148
 go_wp2
 go_loopw [3,5,11] (fun s u i wr=>∃k:Nat,k<=es.length∧i=.int .i64 k∧s=.int .i64 (cQ (es.take k))∧aa af w wr) (fun _ _ i _=>es.length-(intOf i).toNat)
 case atStart=>exact⟨0,Nat.zero_le _,rfl,by simp[cQ],aa.refl _ _⟩
 case round =>
  obtain⟨k,hk,rfl,rfl,hkp⟩:=hrel
  have cV:=Lib.hid hkp
  clear hkp
  by_cases hlt:k<es.length
  ·obtain⟨x,hx⟩:∃x,es[k]?=some x:=⟨_,List.getElem?_eq_getElem hlt⟩
   obtain⟨g,off,rfl,hS,hg,c0,c1⟩:=(hs.ai cV.out).iW hx
   have hx1:x.1.size<=255:=by have:=vL.out x (List.mem_of_getElem? hx);simp[fJ]at this;omega
   have hle:=M4 (es.take k) (fun e he=>vL.out e (List.mem_of_mem_take he))
   rw[List.length_take]at hle
   have HS:=Lib.hid (Gc es k x hx)
   clear hx
   go_wp2
   go_roundw
   case rel=>exact⟨k+1,by omega,by go_num,by rw[HS.out];go_num,(cV.out.alloc _)⟩
   case measure=>simp[intOf];omega
  ·go_wp2
   go_ret
   exact⟨cR (by rw[List.take_of_length_le (by omega)]),cV.out⟩
set_option maxHeartbeats 400000 in
theorem M6 (S:Nat->Prop) (w:World) (p:Option Addr) (c:Nat) (es:List aD) (h:bt aK S w p c es) (hn:es.length<4294967296) :
 Calls Tryz.prog 105 #[.slice p es.length c] w fun e w' =>
  ∃v',e=.returned v'∧Own aK 59 (fun g=>w.heap.size<=g) w' v' es∧aa af w w':=by
 cases p with
 | none =>
   have hc0:=h.vG rfl
   have hcap:=h.cap
   have h0:es.length=0:=by omega
   subst hc0
   obtain rfl:es=[]:=List.eq_nil_of_length_eq_zero h0
   have heq:∀(w:World),(binOp .eql 51 (.slice none 0 0) (.slice none 0 0)).run Tryz.prog w=.ok (.bool true) w:=fun w=>Lib.run_eql_slice_nil w _ _ none 0 0 0 0 Tryz.underlying51
   go_enter Tryz.func105,Tryz.ntmps105
   go_wp2
   go_ret
   exact⟨_,rfl,Own.nil _ _ _ _,aa.refl _ _⟩
 | some ad =>
   have heq:∀(w:World),(binOp .eql 51 (.slice (some ad) es.length c) (.slice none 0 0)).run Tryz.prog w=.ok (.bool false) w:=fun w=>Lib.run_eql_slice_nil w _ _ (some ad) es.length c 0 0 Tryz.underlying51
   have gH:es.length<=maxLen:=by have:=h.cap;have:=h.max;omega
   go_enter Tryz.func105,Tryz.ntmps105
   go_wp2_with(at_builtin;refine mw rfl _ _ rfl yA (nM (S:=fun g=>w.heap.size<=g) [] #[] rfl 0 rfl (Nat.le_refl _) (Nat.zero_le _)) ⟨_,_,rfl,h.ai ((aa.refl _ _).alloc _)⟩ rfl rfl (by simp) (by simpa using gH) (by simp;omega) ?_;intro v' w' ho hk hf)
   go_ret
   exact⟨v',rfl,ho.mono (fun g _ h=>h),((aa.refl _ _).alloc _).step hk (fun g hg=>by simp[Value.ownBlock]at hg;omega)⟩
set_option maxHeartbeats 400000 in
theorem Gd (G:Nat->Prop) (w:World) (a:Addr) (v:Value) (es:List aD) (h:mz G w a v es) (hn:es.length<4294967296) :
 Calls Tryz.prog 63 #[.pointer (some a)] w fun e w' =>
  ∃v',e=.returned v'∧Own aK 59 (fun g=>w.heap.size<=g) w' v' es∧aa af w w':=by
 obtain⟨p,c,rfl,hs⟩:=h.own.sl
 have hc:=h.cell
 go_enter Tryz.func63,Tryz.ntmps63
 go_wp2_with(go_at_call 105;refine(M6 _ _ _ _ _ hs hn).mono ?_;rintro e w' ⟨v',rfl,ho,hk⟩)
 go_ret
 exact⟨v',rfl,ho,hk⟩
theorem yC:∃i:TypeInfo,Tryz.prog.info? 59=some i∧i.size=aK.k∧i.bytes=24∧i.zero=some (.agg #[.string ByteArray.empty,.int .i64 0]):=by
 have h:(Tryz.prog.info? 59).map (fun i=>(i.zero,i.size,i.bytes))=some (some (.agg #[.string ByteArray.empty,.int .i64 0]),2,24):=by kernel_rfl
 cases hi:Tryz.prog.info? 59 with
 | none=>rw[hi]at h;cases h
 | some i=>rw[hi]at h;simp at h;exact⟨i,rfl,h.2.1,h.2.2,h.1⟩
set_option maxHeartbeats 1000000 in
set_option maxRecDepth 100000 in
theorem M7 (G:Nat->Prop) (w:World) (v:Value) (es:List aD) (x:aD) (b:Nat) (ho:Own aK 59 G w v es) (hG:G w.heap.size) (hn:es.length<4294967295)
 (hx:w.heap[b]?=some (.cells #[.string x.1,.int .i64 x.2] 59 (0,0))) :
 Calls Tryz.prog 146 #[v,.int .i64 es.length,.slice (some ⟨b,0,none⟩) 1 1] w fun e w' =>
  ∃v',e=.returned v'∧Own aK 59 G w' v' (es++[x])∧aa (fun g=>v.ownBlock=some g) w w'∧(∀g,v'.ownBlock=some g->v.ownBlock=some g∨w.heap.size<=g):=by
 have vM:Sl aK (fun _=>True) w (.slice (some ⟨b,0,none⟩) 1 1) [x] :=
  (Own.mk (E:=aK) (l:=[x]) (cap:=1) (S:=fun _=>True) trivial hx (Nat.le_refl _) (by decide) rfl rfl).sl
 obtain⟨p,c,rfl,hs⟩:=ho.sl
 have hcap:=hs.cap
 have hmax:=hs.max
 unfold maxLen at hmax
 have hsl:=fun wx=>run_slice_l (P:=Tryz.prog) 51 59 2 Tryz.underlying51 (by kernel_rfl) p es.length c es.length (Nat.le_refl _) wx (by omega)
 go_enter Tryz.func146,Tryz.ntmps146
 go_wp2_with(at_builtin;refine mw rfl _ _ rfl yA ho vM rfl rfl hG (by simp[maxLen];omega) (by simp;omega) ?_;intro v' w' ho' hk hf)
 go_ret
 exact⟨v',rfl,ho',hk,hf⟩
theorem M8 (G:Nat->Prop) (w:World) (g c:Nat) (cur:Array Value) (es:List aD) (i k:Nat) (hG:G w.heap.size) (ty:TypeId)
 (hg:w.heap[g]?=some (.cells cur 59 (0,0))) (hcs:cur.size=c*2) (fZ:cur.toList.take (es.length*2)=es.flatMap aK.enc) (hc1:es.length<=c)
 (hi:i<=es.length) (hk:0<k) (hfull:c<i+k) (hb:i+k<=4294967296) :
 ∃cap' cur' w1,(Builtin.append_ #[51,3] ty #[.slice (some ⟨g,0,none⟩) i c,.int .i64 (k:Int)]).run Tryz.prog w=.ok (.slice (some ⟨w.heap.size,0,none⟩) (i+k) cap') w1 ∧
  w1.heap[w.heap.size]?=some (.cells cur' 59 (0,0))∧cur'.size=cap'*2∧i+k<=cap'∧cap'<=maxLen∧cur'.toList.take (i*2)=(es.take i).flatMap aK.enc∧aa af w w1:=by
 obtain⟨inf,hi',lT,hib,yD⟩:=yC
 have hm:i+k<=maxLen:=by simp only[maxLen];omega
 have hold:(Builtin.firstCells inf.size i (.slice (some ⟨g,0,none⟩) i c)).run Tryz.prog w.drew=.ok ((es.take i).flatMap aK.enc).toArray w.drew:=by
  refine run_firstCells_some w.drew inf.size i ⟨g,0,none⟩ i c _ (by rw[aK.fY,lT,List.length_take,Nat.min_eq_left hi]) (fun j u hu=>?_)
  have hj:=(List.getElem?_eq_some_iff.1 hu).1
  rw[aK.uf,List.length_take,aK.fY]at hj
  rw[aK.uf,<- fZ,List.getElem?_take,List.getElem?_take]at hu
  have hk2:aK.k=2:=rfl
  rw[hk2]at hj hu
  rw[if_pos (by omega),if_pos (by omega)]at hu
  rw[add_lit,World.cell?_drew,cell_of_row w g _ cur _ (0,0) hg,Nat.zero_add]
  simpa using hu
 have hr:=Lib.run_append_grow_zeros (P:=Tryz.prog) w 51 3 ty 59 inf _ .i64 .i64 Tryz.underlying51 Tryz.underlying3 hi' yD (some ⟨g,0,none⟩) i c _ hold k hk (by rw[lT];decide) hfull
  (by omega) (by rw[hib];omega) (growslice_fits hfull (by rw[hib];omega))
 have hge:=grownCap_ge w (i+k) c 59
 have hle:=grownCap_le_maxLen w (i+k) c 59 hm
 refine⟨_,_,_,hr,heap_alloc_new w.drew _,?_,hge,hle,?_,((aa.refl _ _).drew).alloc _⟩
 ·simp only[Array.size_append,List.size_toArray,size_zeroCells]
  rw[aK.fY]
  have hk2:aK.k=2:=rfl
  have hzz:(Value.agg #[.string ByteArray.empty,.int .i64 0]).cells.size=2:=rfl
  rw[hzz,hk2,List.length_take]
  omega
 ·simp only[Array.toList_append,List.append_assoc]
  have hl:((es.take i).flatMap aK.enc).length=i*2:=by
   have hk2:aK.k=2:=rfl
   rw[aK.fY,hk2,List.length_take];omega
  rw[<- hl]
  exact List.take_left
set_option maxHeartbeats 1000000 in
set_option maxRecDepth 100000 in
theorem M9 (G:Nat->Prop) (w:World) (g c:Nat) (cur:Array Value) (es:List aD) (x:aD) (b i:Nat) (hG:G w.heap.size) (hn:es.length<4294967295)
 (hg:w.heap[g]?=some (.cells cur 59 (0,0))) (hc1:es.length<=c) (hc2:c<=maxLen) (hcs:cur.size=c*2) (fZ:cur.toList.take (es.length*2)=es.flatMap aK.enc)
 (hx:w.heap[b]?=some (.cells #[.string x.1,.int .i64 x.2] 59 (0,0))) (hi:i<es.length) (hfull:c<es.length+1) :
 Calls Tryz.prog 146 #[.slice (some ⟨g,0,none⟩) es.length c,.int .i64 i,.slice (some ⟨b,0,none⟩) 1 1] w fun e w' =>
  ∃v',e=.returned v'∧Own aK 59 G w' v' (es.take i++x::es.drop i)∧aa af w w'∧(∀g,v'.ownBlock=some g->w.heap.size<=g):=by
 obtain⟨inf,hi',lT,hib,yD⟩:=yC
 have vM:bt aK (fun _=>True) w (some ⟨b,0,none⟩) 1 [x]:=by
  obtain⟨p,c,h,hs⟩:=(Own.mk (E:=aK) (l:=[x]) (cap:=1) (S:=fun _=>True) trivial hx (Nat.le_refl _) (by decide) rfl rfl).sl
  cases h;exact hs
 have hse:bt aK (fun _=>True) w (some ⟨g,0,none⟩) c es:=by
  obtain⟨p,c',h,hs⟩:=(Own.mk (E:=aK) (l:=es) (cap:=c) (S:=fun _=>True) trivial hg hc1 hc2 hcs fZ).sl
  cases h;exact hs
 obtain⟨cap',cur',w1,hrun,hg1,BF,VS,Na,Nb,hk1⟩:=M8 G w g c cur es i (es.length+1-i) hG 51 hg hcs fZ hc1 (by omega) (by omega) (by omega) (by omega)
 have ek:((es.length+1-i:Nat):Int)=(es.length:Int)+1-i:=by omega
 have Ge:i+(es.length+1-i)=es.length+1:=by omega
 rw[ek,Ge]at hrun
 have Nc:=Lib.hid hrun
 clear hrun ek Ge
 unfold maxLen at hc2
 go_enter Tryz.func146,Tryz.ntmps146
 have eX:aK.k=2:=rfl
 go_wp2_with(first|(at_builtin;refine Lib.wpList_append_run _ rfl _ _ _ _ rfl _ _ rfl rfl _ _ Nc.out ?_)|(refine yg (E:=aK) rfl (.tmp 43) (.tmp 44) _ _ rfl Tryz.underlying51 hi' lT _ _ _ _ rfl _ _ hg1 rfl (vM.ai hk1) ?_ ?_ ?_))
 ·simp[Nat.min_def];omega
 ·rw[BF,eX];simp only[List.length_singleton];omega
 simp only[List.length_singleton,eX]
 obtain⟨eA,oP⟩:∃eA,eA=(List.take (i*2) cur'.toList++(List.flatMap aK.enc [x]++List.drop (i*2+1*2) cur'.toList)).toArray:=⟨_,rfl⟩
 rw[<- oP]
 have gR:=setRow_heap w1 w.heap.size cur' eA _ (0,0) hg1
 have hk2:=hk1.setRow (g:=w.heap.size) (Or.inr (Nat.le_refl _)) eA
 have rR:=Lib.hid oP
 clear oP
 generalize w1.setRow w.heap.size eA=w2 at *
 have e1:jK 2 (some ⟨w.heap.size,0,none⟩) cap' (i+1)=some ⟨w.heap.size,(i+1)*2,none⟩:=by
  unfold jK;rw[if_neg (by omega)];simp[add_lit]
 have nO:=fun wx=>run_slice_l (P:=Tryz.prog) 51 59 2 Tryz.underlying51 (by kernel_rfl) (some ⟨w.heap.size,0,none⟩) (es.length+1) cap' (i+1) (by omega) wx (by omega)
 have BG:=fun wx=>run_slice_l (P:=Tryz.prog) 51 59 2 Tryz.underlying51 (by kernel_rfl) (some ⟨g,0,none⟩) es.length c i (by omega) wx (by omega)
 rw[e1,show((i+1:Nat):Int)=(i:Int)+1 by omega,show es.length+1-(i+1)=es.length-i by omega]at nO
 clear e1
 go_wp2_with fail
 have hsum:IntKind.i64.wrap ((i:Int)+1)=(i:Int)+1:=by rw[IntKind.wrap_i64];omega
 go_still_tail 8,(by kernel_rfl)
 clear hsum
 change wpList _ _ _ _ _ w2.drew
 have oQ:w2.drew.heap[w.heap.size]?=some (.cells eA 59 (0,0)):=gR
 have aV:aa af w w2.drew:=hk2.drew
 clear gR hk2
 generalize w2.drew=w3 at *
 have hsub:=(hse.sub i es.length (by omega) (Nat.le_refl _)).ai aV
 rw[List.take_length]at hsub
 have hcl:eA.size=cap'*2:=by
  rw[rR.out,List.size_toArray,List.length_append,List.length_append,List.length_take,List.length_drop,Array.length_toList,BF,aK.fY,eX];simp only[List.length_singleton];omega
 refine yg (E:=aK) rfl (.tmp 50) (.tmp 53) _ _ rfl Tryz.underlying51 hi' lT _ _ _ _ rfl _ _ oQ rfl hsub ?_ ?_ ?_
 ·simp
 ·rw[hcl,eX,List.length_drop];omega
 rw[List.length_drop,eX]
 obtain⟨jz,om⟩:∃jz,jz=(List.take ((i+1)*2) eA.toList++(List.flatMap aK.enc (List.drop i es)++List.drop ((i+1)*2+(es.length-i)*2) eA.toList)).toArray:=⟨_,rfl⟩
 rw[<- om]
 have sQ:=setRow_heap w3 w.heap.size eA jz _ (0,0) oQ
 have bB:=aV.setRow (g:=w.heap.size) (Or.inr (Nat.le_refl _)) jz
 have uh:=Lib.hid om
 clear om
 generalize w3.setRow w.heap.size jz=w4 at *
 go_wp2_with fail
 go_ret
 have hL:cur'.toList.length=cap'*2:=by rw[Array.length_toList];exact BF
 have nP:(List.flatMap aK.enc (es.take i)).length=i*2:=by rw[aK.fY,eX,List.length_take];omega
 have qN:(List.flatMap aK.enc [x]).length=2:=rfl
 have qO:(List.flatMap aK.enc (es.drop i)).length=(es.length-i)*2:=by rw[aK.fY,eX,List.length_drop]
 have hsp:=MB cur'.toList (List.flatMap aK.enc (es.take i)) (List.flatMap aK.enc [x]) (List.flatMap aK.enc (es.drop i)) eA.toList jz.toList
  (by rw[nP];exact Nb) (by rw[nP,qN,qO,hL];omega)
  (by rw[nP,qN,rR.out]) (by rw[nP,qN,qO,uh.out];simp[Nat.add_mul])
 refine⟨_,rfl,?_,bB,fun g h=>by simp[Value.ownBlock]at h;omega⟩
 have jy:(es.take i++x::es.drop i).length=es.length+1:=by simp;omega
 rw[<- jy]
 refine Own.mk hG sQ (by rw[jy];omega) Na ?_ ?_
 ·rw[<- Array.length_toList,hsp.2,hL,eX]
 ·have:=hsp.1
  rw[nP,qN,qO]at this
  rw[jy,eX,show(es.length+1)*2=i*2+2+(es.length-i)*2 by omega,this,List.flatMap_append,List.flatMap_cons]
  rfl
set_option maxHeartbeats 1000000 in
set_option maxRecDepth 100000 in
theorem Nf (G:Nat->Prop) (w:World) (g c:Nat) (cur:Array Value) (es:List aD) (x:aD) (b i:Nat) (hG:G g) (hn:es.length<4294967295)
 (hg:w.heap[g]?=some (.cells cur 59 (0,0))) (hc1:es.length<=c) (hc2:c<=maxLen) (hcs:cur.size=c*2) (fZ:cur.toList.take (es.length*2)=es.flatMap aK.enc)
 (hx:w.heap[b]?=some (.cells #[.string x.1,.int .i64 x.2] 59 (0,0))) (hbg:b≠g) (hi:i<es.length) (hroom:es.length+1<=c) :
 Calls Tryz.prog 146 #[.slice (some ⟨g,0,none⟩) es.length c,.int .i64 i,.slice (some ⟨b,0,none⟩) 1 1] w fun e w' =>
  e=.returned (.slice (some ⟨g,0,none⟩) (es.length+1) c)∧Own aK 59 G w' (.slice (some ⟨g,0,none⟩) (es.length+1) c) (es.take i++x::es.drop i)∧aa (fun k=>k=g) w w':=by
 obtain⟨inf,hi',lT,hib,yD⟩:=yC
 have eX:aK.k=2:=rfl
 have hcm:=hc2
 have vM:bt aK (fun k=>k=b) w (some ⟨b,0,none⟩) 1 [x]:=by
  obtain⟨p,c,h,hs⟩:=(Own.mk (E:=aK) (l:=[x]) (cap:=1) (S:=fun k=>k=b) rfl hx (Nat.le_refl _) (by decide) rfl rfl).sl
  cases h;exact hs
 have hse:bt aK (fun k=>k=g) w (some ⟨g,0,none⟩) c es:=by
  obtain⟨p,c',h,hs⟩:=(Own.mk (E:=aK) (l:=es) (cap:=c) (S:=fun k=>k=g) rfl hg hc1 hc2 hcs fZ).sl
  cases h;exact hs
 unfold maxLen at hc2
 have e1:jK 2 (some ⟨g,0,none⟩) c (i+1)=some ⟨g,(i+1)*2,none⟩:=by
  unfold jK;rw[if_neg (by omega)];simp[add_lit]
 have e2:jK 2 (some ⟨g,0,none⟩) c i=some ⟨g,i*2,none⟩:=by
  unfold jK;rw[if_neg (by omega)];simp[add_lit]
 have hsl0:=fun wx=>run_slice_l (P:=Tryz.prog) 51 59 2 Tryz.underlying51 (by kernel_rfl) (some ⟨g,0,none⟩) es.length c i (by omega) wx (by omega)
 have nO:=fun wx=>run_slice_l (P:=Tryz.prog) 51 59 2 Tryz.underlying51 (by kernel_rfl) (some ⟨g,0,none⟩) (es.length+1) c (i+1) (by omega) wx (by omega)
 have BG:=fun wx=>run_slice_l (P:=Tryz.prog) 51 59 2 Tryz.underlying51 (by kernel_rfl) (some ⟨g,0,none⟩) (es.length+1) c i (by omega) wx (by omega)
 rw[e1,show((i+1:Nat):Int)=(i:Int)+1 by omega,show es.length+1-(i+1)=es.length-i by omega]at nO
 rw[e2]at hsl0 BG
 clear e1 e2
 go_enter Tryz.func146,Tryz.ntmps146
 go_wp2_with fail
 rw[run_callFunc_extern Tryz.func164 (by kernel_rfl) (by kernel_rfl) (by kernel_rfl) (e:=Extern.SlicesOverlaps.overlaps #[51,51] #[4]) (by kernel_rfl),
  Lib.run_overlaps_apart w 51 4 59 Tryz.underlying51 2 (fun w=>by simp[sizeOf,typeInfo,hi',lT,eX]) ⟨b,0,none⟩ ⟨g,(i+1)*2,none⟩ 1 1 (es.length-i) (c-(i+1)) hbg 59 59 2 cur.size
   (by simp[World.shape?,hx]) (by simp[World.shape?,hg]) (by omega) (by simp[World.frozen?,hx]) (by simp[World.frozen?,hx])]
 simp only[Result.andThen]
 rw[Oper.upon_value]
 go_wp2_with fail
 have hsum:IntKind.i64.wrap ((i:Int)+1)=(i:Int)+1:=by rw[IntKind.wrap_i64];omega
 go_still_tail 8,(by kernel_rfl)
 clear hsum
 change wpList _ _ _ _ _ w.drew
 have hg1:w.drew.heap[g]?=some (.cells cur 59 (0,0)):=hg
 have hk1:aa (fun k=>k=g) w w.drew:=(aa.refl _ w).drew
 have hsub:=(hse.sub i es.length (by omega) (Nat.le_refl _)).ai (aa.refl af w).drew
 rw[List.take_length]at hsub
 have e2:jK aK.k (some ⟨g,0,none⟩) c i=some ⟨g,i*2,none⟩:=by
  unfold jK;rw[if_neg (by omega)];simp[add_lit,eX]
 rw[e2]at hsub
 clear e2
 generalize w.drew=w1 at *
 refine yg (E:=aK) rfl (.tmp 73) (.tmp 76) _ _ rfl Tryz.underlying51 hi' lT _ _ _ _ rfl _ _ hg1 rfl hsub ?_ ?_ ?_
 ·simp[Nat.min_def];omega
 ·rw[hcs,eX,List.length_drop];omega
 rw[List.length_drop,eX]
 obtain⟨eA,oP⟩:∃eA,eA=(List.take ((i+1)*2) cur.toList++(List.flatMap aK.enc (List.drop i es)++List.drop ((i+1)*2+(es.length-i)*2) cur.toList)).toArray:=⟨_,rfl⟩
 rw[<- oP]
 have gR:=setRow_heap w1 g cur eA _ (0,0) hg1
 have hk2:=hk1.setRow (g:=g) (Or.inl rfl) eA
 have rR:=Lib.hid oP
 clear oP
 have Ng:=vM.keep hk2 (fun k hk _ e=>hbg (by rw[<- hk,e]))
 generalize w1.setRow g eA=w2 at *
 have hcl:eA.size=c*2:=by
  have hL:cur.toList.length=c*2:=by rw[Array.length_toList];exact hcs
  rw[rR.out,List.size_toArray,List.length_append,List.length_append,List.length_take,List.length_drop,hL,aK.fY,eX,List.length_drop];omega
 go_wp2_with(refine yg (E:=aK) rfl (.tmp 80) (.tmp 81) _ _ rfl Tryz.underlying51 hi' lT _ _ _ _ rfl _ _ gR rfl Ng ?_ ?_ ?_)
 ·simp[Nat.min_def];omega
 ·rw[hcl,eX];simp only[List.length_singleton];omega
 obtain⟨jz,om⟩:∃jz,jz=(List.take (i*2) eA.toList++(aK.enc x++List.drop (i*2+2) eA.toList)).toArray:=⟨_,rfl⟩
 rw[<- om]
 have oQ:=setRow_heap w2 g eA jz _ (0,0) gR
 have aV:=hk2.setRow (g:=g) (Or.inl rfl) jz
 have uh:=Lib.hid om
 clear om
 generalize w2.setRow g jz=w3 at *
 go_ret
 have hL:cur.toList.length=c*2:=by rw[Array.length_toList];exact hcs
 have nP:(List.flatMap aK.enc (es.take i)).length=i*2:=by rw[aK.fY,eX,List.length_take];omega
 have qN:(List.flatMap aK.enc [x]).length=2:=rfl
 have qO:(List.flatMap aK.enc (es.drop i)).length=(es.length-i)*2:=by rw[aK.fY,eX,List.length_drop]
 have BH:cur.toList.take (i*2)=List.flatMap aK.enc (es.take i):=by
  rw[aK.uf,<- fZ,List.take_take,eX,Nat.min_eq_left (by omega)]
 have hsp:=MD cur.toList (List.flatMap aK.enc (es.take i)) (List.flatMap aK.enc [x]) (List.flatMap aK.enc (es.drop i)) eA.toList jz.toList
  (by rw[nP];exact BH) (by rw[nP,qN,qO,hL];omega)
  (by rw[nP,qN,qO,rR.out];simp[Nat.add_mul]) (by rw[nP,qN,uh.out];simp)
 refine⟨rfl,?_,aV⟩
 have jy:(es.take i++x::es.drop i).length=es.length+1:=by simp;omega
 rw[<- jy]
 refine Own.mk hG oQ (by rw[jy];omega) hcm ?_ ?_
 ·rw[<- Array.length_toList,hsp.2,hL,eX]
 ·have:=hsp.1
  rw[nP,qN,qO]at this
  rw[jy,eX,show(es.length+1)*2=i*2+2+(es.length-i)*2 by omega,this,List.flatMap_append,List.flatMap_cons]
  rfl
set_option maxHeartbeats 1000000 in
set_option maxRecDepth 100000 in
theorem Nh (G:Nat->Prop) (w:World) (g c:Nat) (cur:Array Value) (es:List aD) (i:Nat) (hG:G g) (hn:es.length<4294967295)
 (hg:w.heap[g]?=some (.cells cur 59 (0,0))) (hc1:es.length<=c) (hc2:c<=maxLen) (hcs:cur.size=c*2) (fZ:cur.toList.take (es.length*2)=es.flatMap aK.enc) (hi:i<es.length) :
 Calls Tryz.prog 147 #[.slice (some ⟨g,0,none⟩) es.length c,.int .i64 i,.int .i64 ((i:Int)+1)] w fun e w' =>
  e=.returned (.slice (some ⟨g,0,none⟩) (es.length-1) c)∧Own aK 59 G w' (.slice (some ⟨g,0,none⟩) (es.length-1) c) (es.take i++es.drop (i+1))∧aa (fun k=>k=g) w w':=by
 obtain⟨inf,hi',lT,hib,yD⟩:=yC
 have eX:aK.k=2:=rfl
 have hcm:=hc2
 have hse:bt aK (fun k=>k=g) w (some ⟨g,0,none⟩) c es:=by
  obtain⟨p,c',h,hs⟩:=(Own.mk (E:=aK) (l:=es) (cap:=c) (S:=fun k=>k=g) rfl hg hc1 hc2 hcs fZ).sl
  cases h;exact hs
 unfold maxLen at hc2
 have hsub:=(hse.sub (i+1) es.length (by omega) (Nat.le_refl _)).ai (aa.refl af w).drew
 rw[List.take_length]at hsub
 have nO:=fun wx=>run_slice_l (P:=Tryz.prog) 51 59 2 Tryz.underlying51 (by kernel_rfl) (some ⟨g,0,none⟩) es.length c (i+1) (by omega) wx (by omega)
 rw[show((i+1:Nat):Int)=(i:Int)+1 by omega]at nO
 have BG:=fun wx=>run_slice_h (P:=Tryz.prog) 51 59 Tryz.underlying51 (by kernel_rfl) g 0 es.length c i (by omega) wx (by omega)
 have hne:((i:Int)==(i:Int)+1)=false:=by rw[beq_eq_false_iff_ne];omega
 go_enter Tryz.func147,Tryz.ntmps147
 go_wp2_with fail
 go_still_tail 6,(by kernel_rfl)
 change wpList _ _ _ _ _ w.drew
 have hg1:w.drew.heap[g]?=some (.cells cur 59 (0,0)):=hg
 have hk1:aa (fun k=>k=g) w w.drew:=(aa.refl _ w).drew
 generalize w.drew=w1 at *
 have hdl:(es.drop (i+1)).length=es.length-(i+1):=by simp
 have hrun:=My yA 51 g i c cur hg1 hcs hsub (by omega)
 rw[hdl,eX,show i+(es.length-(i+1))=es.length-1 by omega]at hrun
 obtain⟨eA,oP⟩:∃eA,eA=(List.take (i*2) cur.toList++List.flatMap aK.enc (List.drop (i+1) es)++List.drop (i*2+(es.length-(i+1))*2) cur.toList).toArray:=⟨_,rfl⟩
 rw[<- oP]at hrun
 have gR:=setRow_heap w1 g cur eA _ (0,0) hg1
 have hk2:=hk1.setRow (g:=g) (Or.inl rfl) eA
 have rR:=Lib.hid oP
 clear oP
 refine Lib.wpList_append_run _ rfl _ _ _ _ rfl _ _ rfl rfl _ _ hrun ?_
 generalize w1.setRow g eA=w2 at *
 have hL:cur.toList.length=c*2:=by rw[Array.length_toList];exact hcs
 have hcl:eA.size=c*2:=by
  rw[rR.out,List.size_toArray,List.length_append,List.length_append,List.length_take,List.length_drop,hL,aK.fY,eX,hdl];omega
 have e1:es.length-(es.length-1)=1:=by omega
 have BI:=Mz yA 0 g ((es.length-1)*2) (es.length-(es.length-1)) (c-(es.length-1)) eA gR (by rw[eX,hcl];omega) (by omega)
 obtain⟨jz,om⟩:∃jz,jz=(List.take ((es.length-1)*2) eA.toList++List.flatMap aK.enc (List.replicate (es.length-(es.length-1)) (ByteArray.empty,0))++List.drop ((es.length-1)*2+(es.length-(es.length-1))*aK.k) eA.toList).toArray:=⟨_,rfl⟩
 rw[<- om]at BI
 rw[e1,eX]at om
 clear e1
 have oQ:=setRow_heap w2 g eA jz _ (0,0) gR
 have aV:=hk2.setRow (g:=g) (Or.inl rfl) jz
 have uh:=Lib.hid om
 clear om
 go_wp2_with(refine MA rfl _ _ rfl _ rfl _ _ BI ?_)
 go_ret
 refine⟨rfl,?_,aV⟩
 have Gf:eA.toList.length=c*2:=by rw[Array.length_toList];exact hcl
 have nP:(List.flatMap aK.enc (es.take i)).length=i*2:=by rw[aK.fY,eX,List.length_take];omega
 have qO:(List.flatMap aK.enc (es.drop (i+1))).length=(es.length-(i+1))*2:=by rw[aK.fY,eX,hdl]
 have BH:cur.toList.take (i*2)=List.flatMap aK.enc (es.take i):=by
  rw[aK.uf,<- fZ,List.take_take,eX,Nat.min_eq_left (by omega)]
 have jy:(es.take i++es.drop (i+1)).length=es.length-1:=by simp;omega
 have cy:eA.toList.take ((es.length-1)*2)=List.flatMap aK.enc (es.take i++es.drop (i+1)):=by
  rw[rR.out,BH,List.flatMap_append]
  rw[show(es.length-1)*2=(List.flatMap aK.enc (es.take i)++List.flatMap aK.enc (es.drop (i+1))).length by rw[List.length_append,nP,qO];omega]
  exact List.take_left
 rw[<- jy]
 refine Own.mk hG oQ (by rw[jy];omega) hcm ?_ ?_
 ·rw[uh.out,List.size_toArray,List.length_append,List.length_append,List.length_take,List.length_drop,Gf,eX]
  simp only[List.replicate_one,List.flatMap_singleton,aK,List.length_cons,List.length_nil];omega
 ·rw[jy,eX,<- cy,uh.out]
  have:(List.take ((es.length-1)*2) eA.toList).length=(es.length-1)*2:=by rw[List.length_take,Gf];omega
  rw[List.append_assoc]
  conv=>lhs;arg 1;rw[<- this]
  exact List.take_left
def lV (G:Nat->Prop) (w w':World) (a:Addr) (es':List aD):Prop :=
 ∃v',mz G w' a v' es'∧aa G (w.setCell a v') w'
theorem lV.same {G:Nat->Prop} {w w':World} {a:Addr} {v:Value} {es:List aD} (h:mz G w a v es) (hk:aa af w w'):lV G w w' a es:=by
 have hb:=dm h.cell
 refine⟨v,⟨(hk.cell hb (fun h=>h)).trans h.cell,(hk.frozen hb (fun h=>h)).trans h.free,h.spot,h.own.keep hk (fun _ _ h=>h),h.rising,h.names,h.apart⟩,?_⟩
 rw[FF h.cell]
 exact hk.bC
theorem lV.store {G:Nat->Prop} {w w1 w2:World} {a:Addr} {v v':Value} {es es':List aD} (h:mz G w a v es) (hk:aa af w w1) (ho:Own aK 59 G w2 v' es')
 (hk2:aa (fun g=>v.ownBlock=some g) w1 w2) (hf:∀g,v'.ownBlock=some g->v.ownBlock=some g∨w1.heap.size<=g) (hr:cq es') (hn:∀e∈es',fJ e.1=true) :
 lV G w (w2.setCell a v') a es':=by
 have hb:=dm h.cell
 have hb1:a.block<w1.heap.size:=Nat.lt_of_lt_of_le hb hk.size
 have hap:¬v'.ownBlock=some a.block:=fun e=>(hf _ e).elim h.apart (fun h=>by omega)
 have hc2:w2.cell? a=some v:=((hk2.cell hb1 h.apart).trans (hk.cell hb (fun h=>h))).trans h.cell
 have hgo:∀g,v.ownBlock=some g->G g:=h.own.2
 refine⟨v',⟨?_,?_,h.spot,ho.keep ((aa.refl (fun g=>g=a.block) w2).setCell (Or.inl rfl) v') (fun g hg e=>hap (by rw[hg,e])),hr,hn,hap⟩,?_⟩
 ·exact World.cell?_setCell_same _ _ _ hc2
 ·rw[World.frozen?_setCell]
  exact((hk2.frozen hb1 h.apart).trans (hk.frozen hb (fun h=>h))).trans h.free
 ·exact(hk.bC.trans (hk2.mono (fun g _ hg=>hgo g hg))).Mu a v'
theorem Ni (G:Nat->Prop) (w:World) (v:Value) (es:List aD) (x:aD) (b i:Nat) (ho:Own aK 59 G w v es) (hG:G w.heap.size) (hn:es.length<4294967295)
 (hx:w.heap[b]?=some (.cells #[.string x.1,.int .i64 x.2] 59 (0,0))) (hb:¬v.ownBlock=some b) (hi:i<=es.length) :
 Calls Tryz.prog 146 #[v,.int .i64 i,.slice (some ⟨b,0,none⟩) 1 1] w fun e w' =>
  ∃v',e=.returned v'∧Own aK 59 G w' v' (es.take i++x::es.drop i)∧aa (fun g=>v.ownBlock=some g) w w'∧(∀g,v'.ownBlock=some g->v.ownBlock=some g∨w.heap.size<=g):=by
 by_cases he:i=es.length
 ·subst he
  refine(M7 G w v es x b ho hG hn hx).mono ?_
  rintro e w' ⟨v',rfl,h1,h2,h3⟩
  exact⟨v',rfl,by rw[List.take_length,List.drop_length];exact h1,h2,h3⟩
 ·rcases ho.cases with⟨rfl,rfl⟩|⟨g,c,cur,rfl,cI,hg,hcap,hmax,hsz,fZ⟩
  ·simp at hi;exact absurd hi he
  ·by_cases hroom:es.length+1<=c
   ·refine(Nf G w g c cur es x b i cI hn hg hcap hmax hsz fZ hx (fun e=>hb (by rw[e];rfl)) (by omega) hroom).mono ?_
    rintro e w' ⟨rfl,h1,h2⟩
    exact⟨_,rfl,h1,h2.mono (fun k _ hk=>by rw[hk];rfl),fun k hk=>Or.inl hk⟩
   ·refine(M9 G w g c cur es x b i hG hn hg hcap hmax hsz fZ hx (by omega) (by omega)).mono ?_
    rintro e w' ⟨v',rfl,h1,h2,h3⟩
    exact⟨_,rfl,h1,h2.bC,fun k hk=>Or.inr (h3 k hk)⟩
set_option maxHeartbeats 1000000 in
theorem MI (G:Nat->Prop) (w:World) (a:Addr) (v:Value) (es:List aD) (name:ByteArray) (n:Int) (h:mz G w a v es) (hn:es.length<4294967295) (hG:∀g,w.heap.size<=g->G g) :
 Calls Tryz.prog 108 #[.pointer (some a),.string name,.int .i64 n] w fun e w' =>
  e=.returned (.int .i64 (bw es name))∧lV G w w' a (gh es name n):=by
 have hfind:=yB G w a v es name h (by omega)
 have hlt:=dm h.cell
 by_cases qP:255<name.size
 ·have he:bw es name=18:=by simp[bw,qP]
  have He:=Lib.hid he
  clear he
  go_enter Tryz.func108,Tryz.ntmps108
  go_wp2_with(go_at_call 144;refine hfind.mono ?_;rintro e w1 ⟨rfl,hk1⟩)
  go_ret
  exact⟨by rw[He.out];rfl,by rw[gh,if_neg (by rw[He.out];decide)];exact lV.same h hk1⟩
 ·by_cases hok:fJ name=true
  ·cases aT:bu es name with
   | true =>
     have he:bw es name=13:=by simp[bw,qP,hok,aT]
     have He:=Lib.hid he
     rw[aT]at hfind
     clear he aT
     go_enter Tryz.func108,Tryz.ntmps108
     go_wp2_with(first|(go_at_call 144;refine hfind.mono ?_;rintro e w1 ⟨rfl,hk1⟩)|(go_at_call 145;refine(BJ _ _).mono ?_;rintro e w2 ⟨rfl,rfl⟩))
     go_ret
     exact⟨by rw[He.out];rfl,by rw[gh,if_neg (by rw[He.out];decide)];exact lV.same h hk1⟩
   | false =>
     have he:bw es name=0:=by simp[bw,qP,hok,aT]
     have He:=Lib.hid he
     have vK:=Lib.hid aT
     rw[aT]at hfind
     have kV:=Lib.hid hfind
     clear he aT hfind
     go_enter Tryz.func108,Tryz.ntmps108
     go_wp2_with(fail)
     refine kV.out.mono ?_
     rintro e w1 ⟨rfl,hk1⟩
     have hc:=(hk1.cell hlt (fun h=>h)).trans h.cell
     have hfz:=(hk1.frozen hlt (fun h=>h)).trans h.free
     have mQ:=h.own.keep hk1 (fun _ _ h=>h)
     have mR:Own aK 59 G (w1.alloc (.cells #[.string name,.int .i64 n] 59)) v es:=mQ.keep ((aa.refl af w1).alloc _) (fun _ _ h=>h)
     have Gg:=Ni G _ v es (name,n) w1.heap.size (lb es name) mR (hG _ (by have:=hk1.size;simp;omega)) hn (heap_alloc_new w1 _) (fun e=>absurd (mQ.lt _ e) (by omega)) (MT es name)
     have Nj:=Lib.hid Gg
     clear Gg
     go_wp2_with(first|(go_at_call 145;refine(BJ _ _).mono ?_;rintro e w2 ⟨rfl,rfl⟩)|(go_at_call 146;fail))
     refine Nj.out.mono ?_
     rintro e w3 ⟨v',rfl,nQ,aV,vN⟩
     have vO:a.block<w1.heap.size:=Nat.lt_of_lt_of_le hlt hk1.size
     have hap:=h.apart
     have VT:w3.cell? a=some v:=(aV.cell (by simp;omega) hap).trans (((aa.refl af w1).alloc _).cell vO (fun h=>h) |>.trans hc)
     have Gh:w3.frozen? a=false:=(aV.frozen (by simp;omega) hap).trans (((aa.refl af w1).alloc _).frozen vO (fun h=>h) |>.trans hfz)
     rw[MW h.rising name n vK.out]at nQ
     have hto:=lV.store h (hk1.alloc _) nQ aV vN (h.rising.put name n) (fun e he=>by
      simp only[bY,List.mem_append,List.mem_filter,List.mem_singleton]at he
      rcases he with(⟨he,_⟩|rfl)|⟨he,_⟩
      ·exact h.names e he
      ·exact hok
      ·exact h.names e he)
     have BK:=Lib.hid hto
     clear hto hap
     obtain⟨p3,c3,Nk,_⟩:=nQ.sl
     subst Nk
     go_wp2_with fail
     go_ret
     exact⟨by rw[He.out];rfl,by rw[gh,if_pos He.out];exact BK.out⟩
  ·have Nl:fJ name=false:=by simpa using hok
   have he:bw es name=11:=by simp[bw,qP,Nl]
   have He:=Lib.hid he
   clear he
   go_enter Tryz.func108,Tryz.ntmps108
   go_wp2_with(first|(go_at_call 144;refine hfind.mono ?_;rintro e w1 ⟨rfl,hk1⟩)|(go_at_call 145;refine(BJ _ _).mono ?_;rintro e w2 ⟨rfl,rfl⟩))
   go_ret
   exact⟨by rw[He.out];rfl,by rw[gh,if_neg (by rw[He.out];decide)];exact lV.same h hk1⟩
theorem Own.stored {α:Type} {E:hU α} {e:TypeId} {S:Nat->Prop} {w:World} {l:List α} {g c:Nat} (h:Own E e S w (.slice (some ⟨g,0,none⟩) l.length c) l) (i:Nat) (j:Nat) (x y:α) (u:Value)
 (hi:l[i]?=some x) (hj:j<E.k) (hy:E.enc y=(E.enc x).set j u):Own E e S (w.setCell ⟨g,i*E.k+j,none⟩ u) (.slice (some ⟨g,0,none⟩) l.length c) (l.set i y):=by
 obtain⟨h1,h2⟩:=h
 have hs:=(World.ownsRow.stored h1 (i*E.k+j) u).1
 have hl:(l.set i y).length=l.length:=by simp
 refine⟨?_,h2⟩
 rw[hl]
 have:(l.set i y).flatMap E.enc=(l.flatMap E.enc).set (i*E.k+j) u:=by
  apply List.ext_getElem?
  intro q
  have hk:=E.pos
  have hd:q=q / E.k*E.k+q % E.k:=by rw[Nat.mul_comm];exact(Nat.div_add_mod q E.k).symm
  have hm:=Nat.mod_lt q hk
  rw[List.getElem?_set,hd,E.vF _ _ _ hm,E.vF _ _ _ hm,List.getElem?_set]
  have hil:=(List.getElem?_eq_some_iff.1 hi).1
  by_cases e:i=q / E.k
  ·subst e
   rw[if_pos rfl,if_pos hil]
   simp only[Option.bind_some,hy,List.getElem?_set,E.len,hj,if_true]
   by_cases e2:j=q % E.k
   ·subst e2
    rw[if_pos rfl,if_pos rfl,if_pos (by rw[E.fY];have:=Nat.mul_le_mul_right E.k (Nat.succ_le_of_lt hil);rw[Nat.succ_mul]at this;omega)]
   ·rw[if_neg e2,if_neg (by omega),hi];rfl
  ·rw[if_neg e,if_neg]
   intro e3
   apply e
   have h1:=congrArg (· / E.k) e3
   have f1:(i*E.k+j) / E.k=i:=by rw[Nat.mul_comm,Nat.mul_add_div hk,Nat.div_eq_of_lt hj];rfl
   have f2:(q / E.k*E.k+q % E.k) / E.k=q / E.k:=by rw[<- hd]
   rw[f1,f2]at h1
   exact h1
 rw[this]
 exact hs
set_option maxHeartbeats 1000000 in
theorem MK (G:Nat->Prop) (w:World) (a:Addr) (v:Value) (es:List aD) (name:ByteArray) (n:Int) (h:mz G w a v es) (hn:es.length<4294967295) :
 Calls Tryz.prog 156 #[.pointer (some a),.string name,.int .i64 n] w fun e w' =>
  e=.returned (.int .i64 (dI es name))∧lV G w w' a (eW es name n):=by
 have hfind:=yB G w a v es name h (by omega)
 have hlt:=dm h.cell
 have aT:=rQ h.rising name
 cases hh:bu es name with
 | false =>
   have He:Hid (dI es name=12):=by rw[dI,hh];rfl
   have hse:eW es name n=es:=by
    unfold eW
    conv=>rhs;rw[<- List.map_id es]
    refine List.map_congr_left fun x hx=>?_
    rw[if_neg,id]
    intro e
    have:bu es name=true:=List.any_eq_true.2 ⟨x,hx,by simp[e]⟩
    rw[this]at hh;cases hh
   have sR:=Lib.hid hse
   rw[hh]at hfind
   clear hh hse aT
   go_enter Tryz.func156,Tryz.ntmps156
   go_wp2_with(go_at_call 144;refine hfind.mono ?_;rintro e w1 ⟨rfl,hk1⟩)
   go_ret
   exact⟨by rw[He.out];rfl,by rw[sR.out];exact lV.same h hk1⟩
 | true =>
   have He:Hid (dI es name=0):=by rw[dI,hh];rfl
   rw[hh]at aT
   cases hl:es[lb es name]? with
   | none=>rw[hl]at aT;cases aT
   | some x =>
     rw[hl]at aT
     have hx:x.1=name:=by simpa using aT.symm
     have BL:=Lib.hid (Bu h.rising name n hl hx)
     have jy:=(List.getElem?_eq_some_iff.1 hl).1
     rcases h.own.cases with⟨_,h0⟩|⟨g,c,cur,hv,cI,hg,hcap,hmax,hsz,fZ⟩
     ·subst h0;simp at hl
     ·subst hv
      have Hl:=Lib.hid hl
      have Hx:=Lib.hid hx
      rw[hh]at hfind
      have kV:=Lib.hid hfind
      unfold maxLen at hmax
      clear hh aT hl hx hfind
      go_enter Tryz.func156,Tryz.ntmps156
      go_wp2_with(fail)
      refine kV.out.mono ?_
      rintro e w1 ⟨rfl,hk1⟩
      have hc:=(hk1.cell hlt (fun h=>h)).trans h.cell
      have mQ:=h.own.keep hk1 (fun _ _ h=>h)
      obtain⟨p,c',vH,hs1⟩:=mQ.sl
      cases vH
      obtain⟨g',off,hgo,_,hgl,c0,c1⟩:=hs1.iW Hl.out
      cases hgo
      have hg1:=(hk1.block g (lt_of_block hg) (fun h=>h)).trans hg
      have hfz:∀j,w1.frozen? ⟨g,j,none⟩=false:=fun j=>frozen_of_row w1 g j cur _ hg1
      rw[Nat.zero_add]at c0 c1
      go_wp2_with fail
      go_ret
      refine⟨by rw[He.out];rfl,_,⟨?_,?_,h.spot,?_,h.rising.set name n,?_,h.apart⟩,?_⟩
      rotate_left 2
      ·have:=mQ.stored (lb es name) 1 x (x.1,n) (.int .i64 n) Hl.out (by decide) rfl
       rw[BL.out]at this
       have hlen:(eW es name n).length=es.length:=by simp[eW]
       have eX:aK.k=2:=rfl
       rw[eX]at this
       exact this
      ·intro e he
       unfold eW at he
       obtain⟨y,hy,rfl⟩:=List.mem_map.1 he
       split<;>exact h.names y hy
      ·rw[FF h.cell]
       exact(hk1.bC).setCell (Or.inl cI) _
      ·rw[World.cell?_setCell_other _ _ _ _ (fun e=>h.apart (by rw[<- e];rfl))]
       exact hc
      ·rw[World.frozen?_setCell]
       exact(hk1.frozen hlt (fun h=>h)).trans h.free
set_option maxHeartbeats 1000000 in
theorem ML (G:Nat->Prop) (w:World) (a:Addr) (v:Value) (es:List aD) (name:ByteArray) (h:mz G w a v es) (hn:es.length<4294967295) :
 Calls Tryz.prog 109 #[.pointer (some a),.string name] w fun e w' =>
  e=.returned (.int .i64 (dI es name))∧lV G w w' a (bQ es name):=by
 have hfind:=yB G w a v es name h (by omega)
 have hlt:=dm h.cell
 have aT:=rQ h.rising name
 cases hh:bu es name with
 | false =>
   have He:Hid (dI es name=12):=by rw[dI,hh];rfl
   have hse:bQ es name=es:=by
    unfold bQ
    refine List.filter_eq_self.2 fun x hx=>?_
    cases hc:decide (x.1=name)with
    | false=>rfl
    | true =>
      have:bu es name=true:=List.any_eq_true.2 ⟨x,hx,hc⟩
      rw[this]at hh;cases hh
   have sR:=Lib.hid hse
   rw[hh]at hfind
   clear hh hse aT
   go_enter Tryz.func109,Tryz.ntmps109
   go_wp2_with(go_at_call 144;refine hfind.mono ?_;rintro e w1 ⟨rfl,hk1⟩)
   go_ret
   exact⟨by rw[He.out];rfl,by rw[sR.out];exact lV.same h hk1⟩
 | true =>
   have He:Hid (dI es name=0):=by rw[dI,hh];rfl
   rw[hh]at aT
   cases hl:es[lb es name]? with
   | none=>rw[hl]at aT;cases aT
   | some x =>
     have Nn:=Lib.hid (Bt h.rising name hh)
     have jy:=(List.getElem?_eq_some_iff.1 hl).1
     rcases h.own.cases with⟨_,h0⟩|⟨g,c,cur,hv,cI,hg,hcap,hmax,hsz,fZ⟩
     ·subst h0;simp at hl
     ·subst hv
      rw[hh]at hfind
      have kV:=Lib.hid hfind
      clear hh aT hl hfind
      go_enter Tryz.func109,Tryz.ntmps109
      go_wp2_with(fail)
      refine kV.out.mono ?_
      rintro e w1 ⟨rfl,hk1⟩
      have vO:a.block<w1.heap.size:=Nat.lt_of_lt_of_le hlt hk1.size
      have hc:=(hk1.cell hlt (fun h=>h)).trans h.cell
      have hfz:=(hk1.frozen hlt (fun h=>h)).trans h.free
      have hg1:=(hk1.block g (lt_of_block hg) (fun h=>h)).trans hg
      have hdel:=Nh G w1 g c cur es (lb es name) cI hn hg1 hcap hmax hsz fZ jy
      rw[Nn.out]at hdel
      have Np:=Lib.hid hdel
      clear hdel
      go_wp2_with(go_at_call 147;fail)
      refine Np.out.mono ?_
      rintro e w2 ⟨rfl,mR,hk2⟩
      have hap:¬a.block=g:=fun e=>h.apart (by rw[e];rfl)
      have hc2:w2.cell? a=some _:=(hk2.cell vO hap).trans hc
      have dS:w2.frozen? a=false:=(hk2.frozen vO hap).trans hfz
      have hto:=lV.store h hk1 mR (hk2.mono (fun k _ hk=>by rw[hk];rfl)) (fun k hk=>Or.inl hk) (h.rising.del name) (fun e he=>h.names e (List.mem_filter.1 he).1)
      have BK:=Lib.hid hto
      clear hto hap
      go_wp2_with fail
      go_ret
      exact⟨by rw[He.out];rfl,BK.out⟩
end Go.Proofs.YtnanhmfpikddkaaGreatDoor
